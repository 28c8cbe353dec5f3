/- The law holds: part 341. Conditions: none. -/
import Derived.Test.YtpndfdfipkadkaaGreatDoorKU8
set_option linter.all false
set_option maxRecDepth 100000
namespace Go.Proofs.YtpndfdfipkadkaaGreatDoor
open Go Go.Wx Go.Ax
theorem get_mem{s:List Pl}{p:Int}{x:Pl}(h:get s p=some x):x∈s∧x.id=p:=by
 unfold get at h
 exact⟨List.mem_of_find?_eq_some h,by have:=List.find?_some h;simpa using this⟩
theorem get_none{s:List Pl}{p:Int}:get s p=none↔∀x∈s,x.id≠p:=by
 unfold get
 rw[List.find?_eq_none]
 constructor
 ·intro h x hx e;exact h x hx (by simp[e])
 ·intro h x hx;simpa using h x hx
theorem get_of{s:List Pl}(hn:(s.map (·.id)).Nodup){x:Pl}(hx:x∈s):get s x.id=some x:=by
 induction s with
 | nil=>cases hx
 | cons y s ih=>
  rw[List.map_cons,List.nodup_cons]at hn
  unfold get
  rw[List.find?_cons]
  rcases List.mem_cons.1 hx with rfl | hx
  ·simp
  ·have:(y.id==x.id)=false:=by
    rw[beq_eq_false_iff_ne];intro e
    exact hn.1 (by rw[e];exact List.mem_map.2 ⟨x,hx,rfl⟩)
   rw[this]
   exact ih hn.2 hx
theorem modP_ids{s:List Pl}{p:Int}{f:Pl→Pl}(hf:∀x,(f x).id=x.id):(modP s p f).map (·.id)=s.map (·.id):=by
 induction s with
 | nil=>rfl
 | cons x s ih=>
  rw[modP]
  split
  ·simp[hf]
  ·simp[ih]
theorem get_modP{s:List Pl}{p q:Int}{f:Pl→Pl}(hf:∀x,(f x).id=x.id):get (modP s p f) q=if q=p then(get s q).map f else get s q:=by
 induction s with
 | nil=>simp[modP,get]
 | cons x s ih=>
  rw[modP]
  unfold get at ih ⊢
  by_cases h1:x.id=p
  ·rw[if_pos (by simpa using h1),List.find?_cons,List.find?_cons,hf]
   by_cases h2:x.id=q
   ·simp[h2,←h1]
   ·have h3:q≠p:=fun e=>h2 (by rw[h1,e])
    simp[h3,beq_eq_false_iff_ne.2 h2]
  ·rw[if_neg (by simpa using h1),List.find?_cons,List.find?_cons]
   by_cases h2:x.id=q
   ·have h3:q≠p:=fun e=>h1 (by rw[h2,e])
    simp[h2,h3]
   ·simp only[beq_eq_false_iff_ne.2 h2]
    exact ih
theorem get_map{s:List Pl}{q:Int}{g:Pl→Pl}(hg:∀x,(g x).id=x.id):get (s.map g) q=(get s q).map g:=by
 unfold get
 rw[List.find?_map]
 congr 2
 funext x
 simp[hg]
theorem get_app{s:List Pl}{x:Pl}{q:Int}:get (s++[x]) q=match get s q with | some y=>some y | none=>if x.id=q then some x else none:=by
 unfold get
 rw[List.find?_append]
 cases s.find? (fun x=>x.id==q)with
 | some y=>rfl
 | none=>
  simp only[Option.none_or,List.find?_cons,List.find?_nil]
  by_cases h:x.id=q
  ·simp[h]
  ·simp[h,beq_eq_false_iff_ne.2 h]
theorem reParent_id(e:Ev)(x:Pl):(reParent e x).id=x.id:=by unfold reParent;split<;>rfl
def mergeTo(e:Ev)(u:List Use)(y:Pl):Pl:={y with uses:=mergedL y.uses u e.day}
def mergeFrom(e:Ev)(x:Pl):Pl:={x with uses:=capT e.day x.uses,ex:=false,into:=e.other}
theorem afterL_merge{s:List Pl}{e:Ev}(h:e.kind=4):afterL s e=(modP (modP s e.other (mergeTo e ((get s e.place).elim [] (·.uses)))) e.place (mergeFrom e)).map (reParent e):=by
 unfold afterL
 rw[if_neg (by simp[h]),if_neg (by simp[h]),if_neg (by simp[h]),if_pos (by simp[h])]
 rfl
theorem get_after1{s:List Pl}{e:Ev}(h:e.kind=1)(q:Int):get (afterL s e) q=match get s q with | some y=>some y | none=>if e.place=q then some (foundP e)else none:=by
 unfold afterL
 rw[if_pos (by simp[h]),get_app]
 rfl
theorem get_after2{s:List Pl}{e:Ev}(h:e.kind=2)(q:Int):get (afterL s e) q=if q=e.place then(get s q).map (fun x=>{x with uses:=renL x.uses e.name e.day})else get s q:=by
 unfold afterL
 rw[if_neg (by simp[h]),if_pos (by simp[h])]
 exact get_modP fun _=>rfl
theorem get_after3{s:List Pl}{e:Ev}(h:e.kind=3)(q:Int):get (afterL s e) q=if q=e.place then(get s q).map (fun x=>{x with parent:=e.other})else get s q:=by
 unfold afterL
 rw[if_neg (by simp[h]),if_neg (by simp[h]),if_pos (by simp[h])]
 exact get_modP fun _=>rfl
theorem get_after4 {s : List Pl} {e : Ev} (h : e.kind = 4) (hne : e.other ≠ e.place) (q : Int) : get (afterL s e) q =
    if q = e.place then (get s q).map (fun x => reParent e (mergeFrom e x)) else if q = e.other then (get s q).map (fun y => reParent e (mergeTo e ((get s e.place).elim [] (·.uses)) y)) else (get s q).map (reParent e) := by
  rw [afterL_merge h, get_map (reParent_id e), get_modP (f := mergeFrom e) (fun _ => rfl), get_modP (f := mergeTo e _) (fun _ => rfl)]
  by_cases h1 : q = e.place
  · subst h1
    rw [if_pos rfl, if_pos rfl, if_neg (Ne.symm hne), Option.map_map]
    rfl
  · rw [if_neg h1, if_neg h1]
    by_cases h2 : q = e.other
    · subst h2
      rw [if_pos rfl, if_pos rfl, Option.map_map]
      rfl
    · rw [if_neg h2, if_neg h2]
theorem get_after5{s:List Pl}{e:Ev}(h:e.kind=5)(q:Int):get (afterL s e) q=if q=e.place then(get s q).map (fun x=>{x with uses:=x.uses++[newA e.name e.day]})else get s q:=by
 unfold afterL
 rw[if_neg (by simp[h]),if_neg (by simp[h]),if_neg (by simp[h]),if_neg (by simp[h]),if_pos (by simp[h])]
 exact get_modP fun _=>rfl
theorem ids_after{s:List Pl}{e:Ev}:(afterL s e).map (·.id)=if e.kind=1 then s.map (·.id)++[e.place]else s.map (·.id):=by
 by_cases h1:e.kind=1
 ·rw[if_pos h1];unfold afterL;rw[if_pos (by simp[h1])];simp[foundP]
 ·rw[if_neg h1]
  by_cases h4:e.kind=4
  ·rw[afterL_merge h4,List.map_map,show(Pl.id ∘ reParent e)=Pl.id from funext fun x=>reParent_id e x,show Pl.id=(fun x:Pl=>x.id)from rfl,modP_ids (f:=mergeFrom e) (fun _=>rfl),modP_ids (f:=mergeTo e _) (fun _=>rfl)]
  ·unfold afterL
   rw[if_neg (by simp[h1])]
   split
   ·exact modP_ids fun _=>rfl
   ·split
    ·exact modP_ids fun _=>rfl
    ·rw[if_neg (by simp[h4])]
     split
     ·exact modP_ids fun _=>rfl
     ·rfl
def IsCh(nx:Int→Option Int):Int→List Int→Prop
 | p,[]=>nx p=none
 | p,q::l=>nx p=some q∧IsCh nx q l
theorem IsCh.det{nx:Int→Option Int}:∀{l l':List Int} {p:Int},IsCh nx p l→IsCh nx p l'→l=l'
 |[],[],_,_,_=>rfl
 |[],q::l',p,h,h'=>by have:=h'.1;rw[show nx p=none from h]at this;cases this
 | q::l,[],p,h,h'=>by have:=h.1;rw[show nx p=none from h']at this;cases this
 | q::l,r::l',p,h,h'=>by
  have:=h.1.symm.trans h'.1
  cases this
  rw[IsCh.det h.2 h'.2]
theorem IsCh.suf{nx:Int→Option Int}:∀{l:List Int} {p q:Int},IsCh nx p l→q∈l→∃a b,l=a++q::b∧IsCh nx q b
 | r::l,p,q,h,hq=>by
  rcases List.mem_cons.1 hq with rfl | hq
  ·exact⟨[],l,rfl,h.2⟩
  ·obtain⟨a,b,e,h'⟩:=IsCh.suf h.2 hq
   exact⟨r::a,b,by rw[e];rfl,h'⟩
theorem IsCh.notin{nx:Int→Option Int}{l:List Int}{p:Int}(h:IsCh nx p l):p ∉ l:=fun hp=>by
 obtain⟨a,b,e,h'⟩:=h.suf hp
 have:=h.det h'
 rw[this]at e
 have:=congrArg List.length e
 simp at this
 omega
theorem IsCh.nodup{nx:Int→Option Int}:∀{l:List Int} {p:Int},IsCh nx p l→(p::l).Nodup
 |[],p,_=>by simp
 | q::l,p,h=>List.nodup_cons.2 ⟨h.notin,IsCh.nodup h.2⟩
theorem nodup_len:∀{l m:List Int},l.Nodup→(∀x∈l,x∈m)→l.length≤m.length
 |[],m,_,_=>Nat.zero_le _
 | x::l,m,hn,hs=>by
  rw[List.nodup_cons]at hn
  have hx:=hs x List.mem_cons_self
  have:=nodup_len (m:=m.erase x) hn.2 fun y hy=>(List.mem_erase_of_ne (fun e=>hn.1 (by rw[←e];exact hy))).2 (hs y (List.mem_cons_of_mem _ hy))
  rw[List.length_erase_of_mem hx]at this
  have:=List.length_pos_of_mem hx
  simp;omega
def nxP(s:List Pl)(p:Int):Option Int:=if parI s p=0 then none else some (parI s p)
theorem isPath_ch{s:List Pl}:∀{l:List Int} {p:Int},IsPath s p l↔IsCh (nxP s) p l
 |[],p=>by simp only[IsPath,IsCh,nxP];split<;>simp_all
 | q::l,p=>by
  simp only[IsPath,IsCh,nxP]
  rw[isPath_ch]
  constructor
  ·rintro⟨rfl,h2,h3⟩;exact⟨by rw[if_neg h2],h3⟩
  ·rintro⟨h1,h3⟩
   split at h1
   ·cases h1
   ·cases h1;exact⟨rfl,by assumption,h3⟩
theorem pthN_of{s:List Pl}:∀{l:List Int} {p:Int} {n:Nat},IsPath s p l→l.length<n→pthN s n p=l
 | l,p,0,_,hn=>by omega
 |[],p,n+1,h,_=>by rw[IsPath]at h;simp[pthN,h]
 | q::l,p,n+1,h,hn=>by
  obtain⟨rfl,h2,h3⟩:=h
  rw[pthN,if_neg (by simpa using h2),pthN_of h3 (by simp at hn;omega)]
theorem hereB_iff{s:List Pl}{p:Int}:hereB s p=true↔∃x,get s p=some x∧x.ex=true:=by
 unfold hereB
 cases get s p<;>simp
theorem here_mem{s:List Pl}{p:Int}(h:hereB s p=true):p∈s.map (·.id):=by
 obtain⟨x,h1,_⟩:=hereB_iff.1 h
 obtain⟨h2,h3⟩:=get_mem h1
 exact List.mem_map.2 ⟨x,h2,h3⟩
def ParOk(s:List Pl):Prop:=∀p,parI s p≠0→hereB s (parI s p)=true
theorem path_here{s:List Pl}(hp:ParOk s):∀{l:List Int} {p:Int},IsPath s p l→∀q∈l,hereB s q=true
 | r::l,p,h,q,hq=>by
  obtain⟨h1,h2,h3⟩:=h
  rcases List.mem_cons.1 hq with rfl | hq
  ·rw[←h1];exact hp p (by rw[h1];exact h2)
  ·exact path_here hp h3 q hq
def FinP(s:List Pl):Prop:=∀p,∃l,IsPath s p l
theorem pth_of{s:List Pl}(hp:ParOk s){p:Int}{l:List Int}(h:IsPath s p l):pth s p=l∧l.length≤s.length:=by
 have hl:l.length≤s.length:=by
  have:=nodup_len (m:=s.map (·.id)) (List.nodup_cons.1 (isPath_ch.1 h).nodup).2 fun q hq=>here_mem (path_here hp h q hq)
  simpa using this
 exact⟨pthN_of h (by omega),hl⟩
theorem FinP.pth{s:List Pl}(hf:FinP s)(hp:ParOk s)(p:Int):IsPath s p (pth s p)∧(Go.Proofs.YtpndfdfipkadkaaGreatDoor.pth s p).length≤s.length:=by
 obtain⟨l,hl⟩:=hf p
 obtain⟨h1,h2⟩:=pth_of hp hl
 rw[h1];exact⟨hl,h2⟩
theorem isPath_same{s t:List Pl}:∀{l:List Int} {o:Int},IsPath s o l→(∀q,(q=o∨q∈l)→parI t q=parI s q)→IsPath t o l
 |[],o,h,hq=>by rw[IsPath]at h ⊢;rw[hq o (.inl rfl),h]
 | r::l,o,h,hq=>⟨(hq o (.inl rfl)).trans h.1,h.2.1,isPath_same h.2.2 fun q h=>hq q (.inr (h.elim (fun e=>by rw[e];exact List.mem_cons_self) (List.mem_cons_of_mem _)))⟩
theorem fin_move{s t:List Pl}{p o:Int}(hf:FinP s)(hq:∀q,q≠p→parI t q=parI s q)(hp:parI t p=o)(ho:o=0∨o≠p∧∃lo,IsPath s o lo∧p ∉ lo):FinP t:=by
 have hpp:∃l,IsPath t p l:=by
  rcases ho with rfl | ⟨h1,lo,h2,h3⟩
  ·exact⟨[],hp⟩
  ·by_cases h0:o=0
   ·exact⟨[],by rw[IsPath,hp,h0]⟩
   ·exact⟨o::lo,hp,h0,isPath_same h2 fun q hq'=>hq q fun e=>by subst e;exact hq'.elim (fun e=>h1 e.symm) h3⟩
 have main:∀(l:List Int) (q:Int),IsPath s q l→∃l',IsPath t q l':=by
  intro l
  induction l with
  | nil=>
   intro q h
   by_cases e:q=p
   ·subst e;exact hpp
   ·exact⟨[],by rw[IsPath]at h ⊢;rw[hq q e,h]⟩
  | cons r l ih=>
   intro q h
   by_cases e:q=p
   ·subst e;exact hpp
   ·obtain⟨l',hl'⟩:=ih r h.2.2
    exact⟨r::l',(hq q e).trans h.1,h.2.1,hl'⟩
 intro q
 obtain⟨l,hl⟩:=hf q
 exact main l q hl
theorem fin_merge{s t:List Pl}{p o:Int}(hf:FinP s)(h0:p≠0)(hq:∀q,q≠p→parI t q=if parI s q=p then o else parI s q)(hp:parI t p=0)(ho:o≠p∧∃lo,IsPath s o lo∧p ∉ lo):FinP t:=by
 obtain⟨h1,lo,h2,h3⟩:=ho
 have keep:∀{l:List Int} {q:Int},IsPath s q l→q≠p→p ∉ l→IsPath t q l:=by
  intro l
  induction l with
  | nil=>
   intro q h hne _
   rw[IsPath]at h ⊢
   rw[hq q hne,if_neg (by rw[h];exact Ne.symm h0),h]
  | cons r l ih=>
   intro q h hne hn
   have hr:r≠p:=fun e=>hn (by rw[e];exact List.mem_cons_self)
   exact⟨by rw[hq q hne,if_neg (by rw[h.1];exact hr)];exact h.1,h.2.1,ih h.2.2 hr fun hm=>hn (List.mem_cons_of_mem _ hm)⟩
 have hoo:∃l,IsPath t o l:=⟨lo,keep h2 h1 h3⟩
 have main:∀(l:List Int) (q:Int),IsPath s q l→∃l',IsPath t q l':=by
  intro l
  induction l with
  | nil=>
   intro q h
   by_cases e:q=p
   ·subst e;exact⟨[],hp⟩
   ·exact⟨[],keep h e (by simp)⟩
  | cons r l ih=>
   intro q h
   by_cases e:q=p
   ·subst e;exact⟨[],hp⟩
   ·by_cases er:r=p
    ·by_cases ho0:o=0
     ·exact⟨[],by rw[IsPath,hq q e,if_pos (by rw[h.1];exact er),ho0]⟩
     ·exact⟨o::lo,by rw[hq q e,if_pos (by rw[h.1];exact er)],ho0,keep h2 h1 h3⟩
    ·obtain⟨l',hl'⟩:=ih r h.2.2
     exact⟨r::l',by rw[hq q e,if_neg (by rw[h.1];exact er)];exact h.1,h.2.1,hl'⟩
 intro q
 obtain⟨l,hl⟩:=hf q
 exact main l q hl
end Go.Proofs.YtpndfdfipkadkaaGreatDoor
set_option maxRecDepth 100000
namespace Go.Proofs.YtpndfdfipkadkaaGreatDoor
open Go Go.Wx Go.Ax
structure EvForm(e:Ev):Prop where
 day0:0≤e.day
 day1:e.day≤100000
 place:1≤e.place∧e.place≤1000000
 kind:e.kind=1∨e.kind=2∨e.kind=3∨e.kind=4∨e.kind=5
 o13:e.kind=1∨e.kind=3→e.other=0∨(1≤e.other∧e.other≤1000000)
 o4:e.kind=4→(1≤e.other∧e.other≤1000000)∧e.other≠e.place
 o25:e.kind=2∨e.kind=5→e.other=0
 named:e.kind=1∨e.kind=2∨e.kind=5→nameB e.name=true
 blank:e.kind=3∨e.kind=4→e.name=⟨#[]⟩
theorem wrong_form{e:Ev}(h:wrongL e=0):EvForm e:=by
 unfold wrongL at h
 split at h
 case isFalse=>cases h
 rename_i hok
 split at h
 case isTrue=>cases h
 rename_i hn
 simp only[okEv,Bool.and_eq_true,decide_eq_true_eq,idB]at hok
 obtain⟨h1,h2,⟨h3,h3'⟩,h4,h5⟩:=hok
 have hk:e.kind=1∨e.kind=2∨e.kind=3∨e.kind=4∨e.kind=5:=by
  unfold otherB at h4
  simp only[Bool.or_eq_true,beq_iff_eq]at h4
  split at h4
  ·rename_i h;omega
  ·split at h4
   ·rename_i h;omega
   ·split at h4
    ·rename_i h;omega
    ·cases h4
 refine⟨h1,h2,⟨h3,h3'⟩,hk,fun h=>?_,fun h=>?_,fun h=>?_,fun h=>?_,fun h=>?_⟩
 ·unfold otherB at h4
  rw[if_pos (by simpa using h)]at h4
  simpa[idB]using h4
 ·unfold otherB at h4
  rw[if_neg (by simp[h]),if_pos (by simp[h])]at h4
  simpa[idB]using h4
 ·unfold otherB at h4
  rw[if_neg (by simp;omega),if_neg (by simp;omega),if_pos (by simpa using h)]at h4
  simpa using h4
 ·have:namedB e.kind=true:=by
   unfold namedB
   rcases h with h | h | h<;>simp[h]
  simpa[this]using hn
 ·have:namedB e.kind=false:=by
   unfold namedB
   rcases h with h | h<;>simp[h]
  rw[this,Bool.false_or]at h5
  exact strEq_iff.1 h5
structure EvFits(s:List Pl)(e:Ev):Prop where
 new:e.kind=1→get s e.place=none
 old:e.kind≠1→hereB s e.place=true
 oth:e.other≠0→hereB s e.other=true
theorem founded_fits{s:List Pl}{e:Ev}(h:foundedL s e=0):EvFits s e:=by
 unfold foundedL at h
 split at h
 case isTrue=>cases h
 rename_i h1
 split at h
 case isTrue=>cases h
 rename_i h2
 split at h
 case isTrue=>cases h
 rename_i h3
 split at h
 case isTrue=>cases h
 rename_i h4
 split at h
 case isTrue=>cases h
 rename_i h5
 refine⟨fun hk=>?_,fun hk=>?_,fun ho=>?_⟩
 ·simpa[hk]using h1
 ·simpa[hk]using h3
 ·simpa[ho]using h5
theorem here_get{s:List Pl}{p:Int}(h:hereB s p=true):get s p≠none:=by
 obtain⟨x,hx,_⟩:=hereB_iff.1 h
 rw[hx];simp
def nxG(s:List Pl)(p:Int):Option Int:=match get s p with
 | some x=>if x.ex then none else some x.into
 | none=>none
structure Inv0(s:List Pl):Prop where
 ids:(s.map (·.id)).Nodup
 pos:∀x∈s,1≤x.id
 tru:∀x∈s,0≤lastT x.uses
 par:ParOk s
 fin:FinP s
 into:∀p x,get s p=some x→x.ex=false→get s x.into≠none
 gon:∀p,∃l,IsCh (nxG s) p l
theorem Inv0.nil:Inv0 [] where
 ids:=by simp
 pos:=fun _ h=>nomatch h
 tru:=fun _ h=>nomatch h
 par:=fun p h=>absurd rfl h
 fin:=fun p=>⟨[],rfl⟩
 into:=fun p x h=>by simp[get]at h
 gon:=fun p=>⟨[],rfl⟩
theorem lastT_map{f:Use→Use}(hf:∀u,(f u).kind=u.kind):∀l:List Use,lastT (l.map f)=lastT l
 |[]=>rfl
 | u::r=>by rw[List.map_cons,lastT,lastT,lastT_map hf r,hf]
theorem lastT_capT(d:Int)(l:List Use):lastT (capT d l)=lastT l:=lastT_map (f:=fun u=>{u with til:=min u.til d}) (fun _=>rfl) l
theorem lastT_merged(l u:List Use)(d:Int):lastT (mergedL l u d)=lastT l:=by
 unfold mergedL
 have:∀(ns:List ByteArray) (out:List Use),lastT (ns.foldl (fun out n=>if openB l n 2 then out else out++[newA n d]) out)=lastT out:=by
  intro ns
  induction ns with
  | nil=>intro out;rfl
  | cons n ns ih=>
   intro out
   rw[List.foldl_cons,ih]
   split
   ·rfl
   ·rw[lastT_snoc];rfl
 exact this _ _
theorem lastT_ren(l:List Use)(n:ByteArray)(d:Int):0≤lastT (renL l n d):=by
 unfold renL
 rw[lastT_snoc]
 simp[newT]
theorem lastT_alias{l:List Use}(h:0≤lastT l)(n:ByteArray)(d:Int):0≤lastT (l++[newA n d]):=by
 rw[lastT_snoc]
 simpa[newA]using h
theorem mem_modP{s:List Pl}{p:Int}{f:Pl→Pl}{y:Pl}(h:y∈modP s p f):y∈s∨∃x∈s,y=f x:=by
 induction s with
 | nil=>cases h
 | cons x s ih=>
  rw[modP]at h
  split at h
  ·rcases List.mem_cons.1 h with rfl | h
   ·exact .inr ⟨x,List.mem_cons_self,rfl⟩
   ·exact .inl (List.mem_cons_of_mem _ h)
  ·rcases List.mem_cons.1 h with rfl | h
   ·exact .inl List.mem_cons_self
   ·rcases ih h with h | ⟨z,hz,e⟩
    ·exact .inl (List.mem_cons_of_mem _ h)
    ·exact .inr ⟨z,List.mem_cons_of_mem _ hz,e⟩
theorem tru_after{s:List Pl}{e:Ev}(h:∀x∈s,0≤lastT x.uses):∀x∈afterL s e,0≤lastT x.uses:=by
 intro x hx
 by_cases h4:e.kind=4
 ·rw[afterL_merge h4]at hx
  obtain⟨y,hy,rfl⟩:=List.mem_map.1 hx
  rw[show(reParent e y).uses=y.uses by unfold reParent;split<;>rfl]
  rcases mem_modP hy with hy | ⟨z,hz,rfl⟩
  ·rcases mem_modP hy with hy | ⟨z,hz,rfl⟩
   ·exact h y hy
   ·rw[show(mergeTo e _ z).uses=mergedL z.uses _ e.day from rfl,lastT_merged];exact h z hz
  ·rw[show(mergeFrom e z).uses=capT e.day z.uses from rfl,lastT_capT]
   rcases mem_modP hz with hz | ⟨w,hw,rfl⟩
   ·exact h z hz
   ·rw[show(mergeTo e _ w).uses=mergedL w.uses _ e.day from rfl,lastT_merged];exact h w hw
 ·unfold afterL at hx
  split at hx
  ·rcases List.mem_append.1 hx with hx | hx
   ·exact h x hx
   ·rw[List.mem_singleton]at hx;subst hx;simp[foundP,lastT,newT]
  ·split at hx
   ·rcases mem_modP hx with hx | ⟨z,hz,rfl⟩
    ·exact h x hx
    ·exact lastT_ren _ _ _
   ·split at hx
    ·rcases mem_modP hx with hx | ⟨z,hz,rfl⟩
     ·exact h x hx
     ·exact h z hz
    ·rw[if_neg (by simp[h4])]at hx
     split at hx
     ·rcases mem_modP hx with hx | ⟨z,hz,rfl⟩
      ·exact h x hx
      ·exact lastT_alias (h z hz) _ _
     ·exact h x hx
theorem parI_get{s:List Pl}{p:Int}{x:Pl}(h:get s p=some x):parI s p=if x.ex then x.parent else 0:=by unfold parI;rw[h]
theorem parI_none{s:List Pl}{p:Int}(h:get s p=none):parI s p=0:=by unfold parI;rw[h]
theorem hereB_get{s:List Pl}{p:Int}{x:Pl}(h:get s p=some x):hereB s p=x.ex:=by unfold hereB;rw[h]
theorem hereB_none{s:List Pl}{p:Int}(h:get s p=none):hereB s p=false:=by unfold hereB;rw[h]
theorem parI_not{s:List Pl}{p:Int}(h:hereB s p=false):parI s p=0:=by
 cases hg:get s p with
 | none=>exact parI_none hg
 | some x=>rw[hereB_get hg]at h;rw[parI_get hg,h];rfl
structure Aft(s t:List Pl)(e:Ev):Prop where
 here:∀q,hereB t q=if e.kind=1∧q=e.place then true else if e.kind=4∧q=e.place then false else hereB s q
 par:∀q,parI t q=if(e.kind=1∨e.kind=3)∧q=e.place then e.other else if e.kind=4∧q=e.place then 0 else if e.kind=4∧parI s q=e.place then e.other else parI s q
 nx:∀q,nxG t q=if e.kind=4∧q=e.place then some e.other else nxG s q
 known:∀q,(get t q).isSome=((get s q).isSome||(e.kind==1&&q==e.place))
theorem aft{s:List Pl}{e:Ev}(hi:Inv0 s)(hf:EvForm e)(ht:EvFits s e):Aft s (afterL s e) e:=by
 rcases hf.kind with k | k | k | k | k
 ·have hn:=ht.new k
  have hg:∀q,get (afterL s e) q=if q=e.place then some (foundP e)else get s q:=fun q=>by
   rw[get_after1 k]
   by_cases h:q=e.place
   ·subst h;simp[hn]
   ·rw[if_neg h,if_neg (Ne.symm h)]
    cases get s q<;>rfl
  refine⟨fun q=>?_,fun q=>?_,fun q=>?_,fun q=>?_⟩
  ·by_cases h:q=e.place
   ·rw[if_pos ⟨k,h⟩,hereB_get ((hg q).trans (if_pos h))];rfl
   ·rw[if_neg (fun h'=>h h'.2),if_neg (by omega)];unfold hereB;rw[hg,if_neg h]
  ·by_cases h:q=e.place
   ·rw[if_pos ⟨.inl k,h⟩,parI_get ((hg q).trans (if_pos h))];rfl
   ·rw[if_neg (fun h'=>h h'.2),if_neg (by omega),if_neg (by omega)];unfold parI;rw[hg,if_neg h]
  ·rw[if_neg (by omega)]
   unfold nxG
   rw[hg]
   by_cases h:q=e.place
   ·subst h;rw[if_pos rfl,hn];rfl
   ·rw[if_neg h]
  ·rw[hg]
   by_cases h:q=e.place
   ·rw[if_pos h];simp[k,h]
   ·rw[if_neg h];simp[h]
 ·have hg:=get_after2 (s:=s) k
  have same:∀q,∃f:Pl→Pl,get (afterL s e) q=(get s q).map f∧∀x,(f x).ex=x.ex∧(f x).parent=x.parent∧(f x).into=x.into:=fun q=>by
   by_cases h:q=e.place
   ·exact⟨_,(hg q).trans (if_pos h),fun x=>⟨rfl,rfl,rfl⟩⟩
   ·exact⟨id,((hg q).trans (if_neg h)).trans (by simp),fun x=>⟨rfl,rfl,rfl⟩⟩
  refine⟨fun q=>?_,fun q=>?_,fun q=>?_,fun q=>?_⟩
  all_goals obtain⟨f,h1,h2⟩:=same q
  ·rw[if_neg (by omega),if_neg (by omega)];unfold hereB;rw[h1];cases get s q<;>simp[h2]
  ·rw[if_neg (by omega),if_neg (by omega),if_neg (by omega)];unfold parI;rw[h1];cases get s q<;>simp[h2]
  ·rw[if_neg (by omega)];unfold nxG;rw[h1];cases get s q<;>simp[h2]
  ·rw[h1];cases get s q<;>simp[k]
 ·have hh:=ht.old (by omega)
  obtain⟨x,hx,hex⟩:=hereB_iff.1 hh
  have hg:=get_after3 (s:=s) k
  refine⟨fun q=>?_,fun q=>?_,fun q=>?_,fun q=>?_⟩
  ·rw[if_neg (by omega),if_neg (by omega)]
   unfold hereB
   rw[hg]
   by_cases h:q=e.place
   ·rw[if_pos h];cases get s q<;>rfl
   ·rw[if_neg h]
  ·by_cases h:q=e.place
   ·rw[if_pos ⟨.inr k,h⟩]
    subst h
    unfold parI
    rw[hg,if_pos rfl,hx]
    simp[hex]
   ·rw[if_neg (fun h'=>h h'.2),if_neg (by omega),if_neg (by omega)]
    unfold parI
    rw[hg,if_neg h]
  ·rw[if_neg (by omega)]
   unfold nxG
   rw[hg]
   by_cases h:q=e.place
   ·rw[if_pos h];cases get s q<;>rfl
   ·rw[if_neg h]
  ·rw[hg]
   by_cases h:q=e.place
   ·rw[if_pos h];cases get s q<;>simp[k]
   ·rw[if_neg h];simp[k]
 ·have hh:=ht.old (by omega)
  obtain⟨x,hx,hex⟩:=hereB_iff.1 hh
  obtain⟨ho,hne⟩:=hf.o4 k
  have hg:=get_after4 (s:=s) k hne
  have hp0:e.place≠0:=by have:=hf.place;omega
  have same:∀q,q≠e.place→∃f:Pl→Pl,get (afterL s e) q=(get s q).map f∧∀x,(f x).ex=x.ex∧(f x).parent=(if x.parent=e.place then e.other else x.parent)∧(f x).into=x.into:=fun q h=>by
   rw[hg,if_neg h]
   by_cases h2:q=e.other
   ·refine⟨_,if_pos h2,fun x=>?_⟩
    unfold reParent mergeTo
    by_cases h3:x.parent=e.place<;>simp[h3]
   ·refine⟨_,if_neg h2,fun x=>?_⟩
    unfold reParent
    by_cases h3:x.parent=e.place<;>simp[h3]
  have self:∃y,get (afterL s e) e.place=some y∧y.ex=false∧y.into=e.other:=by
   refine⟨reParent e (mergeFrom e x),by rw[hg,if_pos rfl,hx];rfl,?_,?_⟩<;>(unfold reParent mergeFrom;split<;>rfl)
  obtain⟨y,hy,hy1,hy2⟩:=self
  refine⟨fun q=>?_,fun q=>?_,fun q=>?_,fun q=>?_⟩
  all_goals by_cases h:q=e.place
  ·rw[if_neg (by omega),if_pos ⟨k,h⟩,h,hereB_get hy,hy1]
  ·rw[if_neg (by omega),if_neg (fun h'=>h h'.2)]
   obtain⟨f,h1,h2⟩:=same q h
   unfold hereB;rw[h1];cases get s q<;>simp[h2]
  ·rw[if_neg (by omega),if_pos ⟨k,h⟩,h,parI_get hy,hy1];rfl
  ·rw[if_neg (by omega),if_neg (fun h'=>h h'.2)]
   obtain⟨f,h1,h2⟩:=same q h
   unfold parI
   rw[h1]
   cases hq:get s q with
   | none=>rw[if_neg (fun h'=>hp0 h'.2.symm)];rfl
   | some z=>
    simp only[Option.map_some,(h2 z).1,(h2 z).2.1]
    cases hz:z.ex with
    | false=>simp[Ne.symm hp0]
    | true=>simp[k]
  ·rw[if_pos ⟨k,h⟩]
   unfold nxG
   rw[h,hy]
   simp[hy1,hy2]
  ·rw[if_neg (fun h'=>h h'.2)]
   obtain⟨f,h1,h2⟩:=same q h
   unfold nxG;rw[h1];cases get s q<;>simp[h2]
  ·rw[h,hy,hx];rfl
  ·obtain⟨f,h1,h2⟩:=same q h
   rw[h1];cases get s q<;>simp[k]
 ·have hg:=get_after5 (s:=s) k
  have same:∀q,∃f:Pl→Pl,get (afterL s e) q=(get s q).map f∧∀x,(f x).ex=x.ex∧(f x).parent=x.parent∧(f x).into=x.into:=fun q=>by
   by_cases h:q=e.place
   ·exact⟨_,(hg q).trans (if_pos h),fun x=>⟨rfl,rfl,rfl⟩⟩
   ·exact⟨id,((hg q).trans (if_neg h)).trans (by simp),fun x=>⟨rfl,rfl,rfl⟩⟩
  refine⟨fun q=>?_,fun q=>?_,fun q=>?_,fun q=>?_⟩
  all_goals obtain⟨f,h1,h2⟩:=same q
  ·rw[if_neg (by omega),if_neg (by omega)];unfold hereB;rw[h1];cases get s q<;>simp[h2]
  ·rw[if_neg (by omega),if_neg (by omega),if_neg (by omega)];unfold parI;rw[h1];cases get s q<;>simp[h2]
  ·rw[if_neg (by omega)];unfold nxG;rw[h1];cases get s q<;>simp[h2]
  ·rw[h1];cases get s q<;>simp[k]
structure Takes(s:List Pl)(e:Ev):Prop where
 form:EvForm e
 fits:EvFits s e
 loop:((e.kind==3||e.kind==4)&&cont s e.place e.other)=false
theorem Takes.apart{s:List Pl}{e:Ev}(hi:Inv0 s)(h:Takes s e)(hk:e.kind=3∨e.kind=4)(ho:e.other≠0):e.other≠e.place∧IsPath s e.other (pth s e.other)∧e.place ∉ pth s e.other:=by
 have h1:=h.loop
 have h2:(e.kind==3||e.kind==4)=true:=by rcases hk with h | h<;>simp[h]
 rw[h2,Bool.true_and]at h1
 unfold cont contB at h1
 rw[h.fits.old (by omega),h.fits.oth ho,Bool.true_and,Bool.true_and,Bool.or_eq_false_iff]at h1
 refine⟨fun e'=>by simp[e']at h1,(hi.fin.pth hi.par e.other).1,fun hm=>?_⟩
 have:=h1.2
 rw[List.any_eq_false]at this
 exact this _ hm (by simp)
theorem Inv0.after{s:List Pl}{e:Ev}(hi:Inv0 s)(h:Takes s e):Inv0 (afterL s e):=by
 have A:=aft hi h.form h.fits
 have hp0:e.place≠0:=by have:=h.form.place;omega
 refine⟨?_,?_,tru_after hi.tru,fun q hq=>?_,?_,fun q x hx hex=>?_,fun q=>?_⟩
 ·rw[ids_after]
  split
  ·rename_i k
   rw[List.nodup_append]
   refine⟨hi.ids,by simp,fun a ha b hb=>?_⟩
   rw[List.mem_singleton]at hb
   subst hb
   obtain⟨x,hx,rfl⟩:=List.mem_map.1 ha
   exact get_none.1 (h.fits.new k) x hx
  ·exact hi.ids
 ·intro x hx
  have:x.id∈(afterL s e).map (·.id):=List.mem_map.2 ⟨x,hx,rfl⟩
  rw[ids_after]at this
  split at this
  ·rcases List.mem_append.1 this with h' | h'
   ·obtain⟨y,hy,e'⟩:=List.mem_map.1 h'
    rw[←e'];exact hi.pos y hy
   ·rw[List.mem_singleton]at h';rw[h'];exact h.form.place.1
  ·obtain⟨y,hy,e'⟩:=List.mem_map.1 this
   rw[←e'];exact hi.pos y hy
 ·have hpar:=A.par q
  rw[hpar]at hq ⊢
  rw[A.here]
  split at hq
  ·rename_i hc
   rw[if_pos hc]
   rcases hc.1 with k | k
   ·by_cases h2:e.other=e.place
    ·rw[if_pos ⟨k,h2⟩]
    ·rw[if_neg (fun h'=>h2 h'.2),if_neg (by omega)];exact h.fits.oth hq
   ·rw[if_neg (by omega),if_neg (by omega)];exact h.fits.oth hq
  ·rename_i hc
   rw[if_neg hc]
   split at hq
   ·exact absurd rfl hq
   ·rename_i hc2
    rw[if_neg hc2]
    split at hq
    ·rename_i hc3
     rw[if_pos hc3]
     obtain⟨ho,hne⟩:=h.form.o4 hc3.1
     rw[if_neg (by omega),if_neg (fun h'=>hne h'.2)]
     exact h.fits.oth hq
    ·rename_i hc3
     rw[if_neg hc3]
     have hh:=hi.par q hq
     by_cases k1:e.kind=1∧parI s q=e.place
     ·rw[if_pos k1]
     ·rw[if_neg k1,if_neg (fun h'=>hc3 h')];exact hh
 ·by_cases k13:e.kind=1∨e.kind=3
  ·refine fin_move (p:=e.place) (o:=e.other) hi.fin (fun q hq=>by rw[A.par,if_neg (fun h'=>hq h'.2),if_neg (by omega),if_neg (by omega)]) (by rw[A.par,if_pos ⟨k13,rfl⟩]) ?_
   by_cases ho:e.other=0
   ·exact .inl ho
   ·right
    rcases k13 with k | k
    ·have hn:=h.fits.new k
     have hh:=h.fits.oth ho
     have hpth:=hi.fin.pth hi.par e.other
     refine⟨fun e'=>?_,_,hpth.1,fun hm=>?_⟩
     ·rw[e',hereB_none hn]at hh;cases hh
     ·have:=path_here hi.par hpth.1 _ hm
      rw[hereB_none hn]at this;cases this
    ·obtain⟨h1,h2,h3⟩:=h.apart hi (.inl k) ho
     exact⟨h1,_,h2,h3⟩
  ·by_cases k4:e.kind=4
   ·have ho:e.other≠0:=by have:=(h.form.o4 k4).1;omega
    obtain⟨h1,h2,h3⟩:=h.apart hi (.inr k4) ho
    refine fin_merge (p:=e.place) (o:=e.other) hi.fin hp0 (fun q hq=>?_) (by rw[A.par,if_neg (fun h'=>k13 h'.1),if_pos ⟨k4,rfl⟩]) ⟨h1,_,h2,h3⟩
    rw[A.par,if_neg (fun h'=>k13 h'.1),if_neg (fun h'=>hq h'.2)]
    by_cases hc:parI s q=e.place
    ·rw[if_pos ⟨k4,hc⟩,if_pos hc]
    ·rw[if_neg (fun h'=>hc h'.2),if_neg hc]
   ·intro q
    obtain⟨l,hl⟩:=hi.fin q
    exact⟨l,isPath_same hl fun r _=>by rw[A.par,if_neg (fun h'=>k13 h'.1),if_neg (fun h'=>k4 h'.1),if_neg (fun h'=>k4 h'.1)]⟩
 ·have hnx:=A.nx q
  have h1:nxG (afterL s e) q=some x.into:=by unfold nxG;rw[hx];simp[hex]
  rw[h1]at hnx
  have goal:(get (afterL s e) x.into).isSome=true:=by
   rw[A.known]
   split at hnx
   ·rename_i hc
    have hio:=Option.some.inj hnx
    have:=here_get (h.fits.oth (by have:=(h.form.o4 hc.1).1;omega))
    rw[←hio]at this
    cases hg:get s x.into with
    | none=>rw[hg]at this;exact absurd rfl this
    | some y=>rfl
   ·have h2:nxG s q=some x.into:=hnx.symm
    unfold nxG at h2
    split at h2
    ·rename_i y hy
     split at h2
     ·cases h2
     ·rename_i hye
      have hio:=Option.some.inj h2
      have:=hi.into q y hy (by simpa using hye)
      rw[hio]at this
      cases hg:get s x.into with
      | none=>exact absurd hg this
      | some z=>rfl
    ·cases h2
  intro hnone
  rw[hnone]at goal
  cases goal
 ·by_cases k4:e.kind=4
  ·have ho:e.other≠0:=by have:=(h.form.o4 k4).1;omega
   have hne:=(h.form.o4 k4).2
   have hp:nxG s e.place=none:=by
    obtain⟨x,hx,hex⟩:=hereB_iff.1 (h.fits.old (by omega))
    unfold nxG;rw[hx];simp[hex]
   have hoo:nxG (afterL s e) e.other=none:=by
    obtain⟨x,hx,hex⟩:=hereB_iff.1 (h.fits.oth ho)
    rw[A.nx,if_neg (fun h'=>hne h'.2)]
    unfold nxG;rw[hx];simp[hex]
   have main:∀(l:List Int) (q:Int),IsCh (nxG s) q l→∃l',IsCh (nxG (afterL s e)) q l':=by
    intro l
    induction l with
    | nil=>
     intro q hq
     by_cases hqp:q=e.place
     ·exact⟨[e.other],by rw[A.nx,if_pos ⟨k4,hqp⟩],hoo⟩
     ·exact⟨[],by show nxG _ q=none;rw[A.nx,if_neg (fun h'=>hqp h'.2)];exact hq⟩
    | cons r l ih=>
     intro q hq
     obtain⟨l',hl'⟩:=ih r hq.2
     have hqp:q≠e.place:=fun h'=>by have:=hq.1;rw[h',hp]at this;cases this
     exact⟨r::l',by rw[A.nx,if_neg (fun h'=>hqp h'.2)];exact hq.1,hl'⟩
   obtain⟨l,hl⟩:=hi.gon q
   exact main l q hl
  ·obtain⟨l,hl⟩:=hi.gon q
   have same:nxG (afterL s e)=nxG s:=funext fun r=>by rw[A.nx,if_neg (fun h'=>k4 h'.1)]
   rw[same];exact⟨l,hl⟩
end Go.Proofs.YtpndfdfipkadkaaGreatDoor
set_option maxRecDepth 100000
namespace Go.Proofs.YtpndfdfipkadkaaGreatDoor
open Go Go.Wx Go.Ax
def usesOf(s:List Pl)(p:Int):List Use:=(get s p).elim [] (·.uses)
def lastName(u:List Use):ByteArray:=match u[(lastT u).toNat]? with | some x=>x.name | none=>⟨#[]⟩
def deepB(t:List Pl):Bool:=t.any fun x=>x.ex&&decide (((pth t x.id).length:Int)≥8)
def longB(t:List Pl):Bool:=t.any fun x=>decide ((x.uses.length:Int)>16)
def lateB(l:List Ev)(e:Ev):Bool:=match l.getLast? with | some x=>decide (e.day<x.day) | none=>false
def twiceB(s:List Pl)(e:Ev):Bool:=e.kind==2&&strEq (lastName (usesOf s e.place)) e.name||e.kind==5&&openB (usesOf s e.place) e.name 0
def addE(l:List Ev)(e:Ev):Int:=
 if wrongL e !=0 then wrongL e
 else if decide ((l.length:Int)≥400)then 2
 else if lateB l e then 7
 else
  let s:=upToL l 100000
  if foundedL s e !=0 then foundedL s e
  else if(e.kind==3||e.kind==4)&&cont s e.place e.other then 20
  else
   let t:=afterL s e
   if deepB t then 21
   else if twiceB s e then 6
   else if longB t then 2 else 0
def stL(l:List Ev):List Pl:=l.foldl afterL []
theorem stL_snoc(l:List Ev)(e:Ev):stL (l++[e])=afterL (stL l) e:=by simp[stL]
theorem upTo_filter(l:List Ev)(d:Int):upToL l d=stL (l.filter fun e=>decide (e.day≤d)):=by
 unfold upToL stL
 rw[List.foldl_filter]
 simp
inductive Acc:List Ev→Prop
 | nil:Acc []
 | snoc {l:List Ev} {e:Ev} (h:Acc l) (he:addE l e=0):Acc (l++[e])
structure InvS(s:List Pl):Prop extends Inv0 s where
 few:∀x∈s,x.uses.length≤16
 dep:∀p,(pth s p).length≤7
structure Added(l:List Ev)(e:Ev):Prop where
 form:wrongL e=0
 room:l.length<400
 late:lateB l e=false
 fits:foundedL (upToL l 100000) e=0
 loop:((e.kind==3||e.kind==4)&&cont (upToL l 100000) e.place e.other)=false
 deep:deepB (afterL (upToL l 100000) e)=false
 twice:twiceB (upToL l 100000) e=false
 long:longB (afterL (upToL l 100000) e)=false
theorem addE_zero{l:List Ev}{e:Ev}(h:addE l e=0):Added l e:=by
 unfold addE at h
 split at h
 case isTrue hc=>exact absurd h (by simpa using hc)
 rename_i h1
 split at h
 case isTrue=>cases h
 rename_i h2
 split at h
 case isTrue=>cases h
 rename_i h3
 simp only at h
 split at h
 case isTrue hc=>exact absurd h (by simpa using hc)
 rename_i h4
 split at h
 case isTrue=>cases h
 rename_i h5
 split at h
 case isTrue=>cases h
 rename_i h6
 split at h
 case isTrue=>cases h
 rename_i h7
 split at h
 case isTrue=>cases h
 rename_i h8
 exact⟨by simpa using h1,by simp at h2;omega,by simpa using h3,by simpa using h4,by simpa using h5,by simpa using h6,by simpa using h7,by simpa using h8⟩
def Sorted(l:List Ev):Prop:=l.Pairwise fun a b=>a.day≤b.day
theorem Sorted.last{l:List Ev}(h:Sorted l){x:Ev}(hx:l.getLast? =some x):∀y∈l,y.day≤x.day:=by
 intro y hy
 obtain⟨l',rfl⟩:∃l',l=l'++[x]:=by
  rw[List.getLast?_eq_some_iff]at hx;exact hx
 rcases List.mem_append.1 hy with hy | hy
 ·exact(List.pairwise_append.1 h).2.2 y hy x (by simp)
 ·simp at hy;rw[hy];exact Int.le_refl _
theorem afterL_len{s:List Pl}{e:Ev}:(afterL s e).length≤s.length+1:=by
 have:=congrArg List.length (ids_after (s:=s) (e:=e))
 rw[List.length_map]at this
 split at this<;>simp at this<;>omega
theorem pth_not{s:List Pl}{p:Int}(h:hereB s p=false):pth s p=[]:=by
 unfold pth
 rw[pthN,parI_not h]
 rfl
theorem Takes.of{l:List Ev}{e:Ev}(h:Added l e):Takes (upToL l 100000) e:=⟨wrong_form h.form,founded_fits h.fits,h.loop⟩
theorem dep_of{t:List Pl}(hi:Inv0 t)(hd:deepB t=false)(p:Int):(pth t p).length≤7:=by
 cases hh:hereB t p with
 | false=>rw[pth_not hh];simp
 | true=>
  obtain⟨x,hx,hex⟩:=hereB_iff.1 hh
  obtain⟨hm,hid⟩:=get_mem hx
  unfold deepB at hd
  rw[List.any_eq_false]at hd
  have:=hd x hm
  rw[hex,hid]at this
  simp at this
  omega
theorem few_of{t:List Pl}(hl:longB t=false):∀x∈t,x.uses.length≤16:=by
 intro x hx
 unfold longB at hl
 rw[List.any_eq_false]at hl
 have:=hl x hx
 simp at this
 omega
structure AccOk(l:List Ev):Prop where
 len:l.length≤400
 inv:InvS (stL l)
 size:(stL l).length≤l.length
 sort:Sorted l
 form:∀e∈l,EvForm e
theorem all_days{l:List Ev}(h:∀e∈l,EvForm e):upToL l 100000=stL l:=by
 rw[upTo_filter,List.filter_eq_self.2 fun e he=>by simpa using (h e he).day1]
theorem AccOk.snoc{l:List Ev}{e:Ev}(h:AccOk l)(ha:Added l e):AccOk (l++[e]):=by
 have hs:=all_days h.form
 have ht:=Takes.of ha
 rw[hs]at ht
 have hi:=h.inv.toInv0.after ht
 have hd:=ha.deep
 have hl:=ha.long
 rw[hs]at hd hl
 refine⟨by have:=ha.room;simp;omega,?_,?_,?_,?_⟩
 ·rw[stL_snoc]
  exact{toInv0:=hi,few:=few_of hl,dep:=dep_of hi hd}
 ·rw[stL_snoc]
  have:=afterL_len (s:=stL l) (e:=e)
  have:=h.size
  simp;omega
 ·refine List.pairwise_append.2 ⟨h.sort,by simp,fun a hx b hb=>?_⟩
  rw[List.mem_singleton]at hb
  subst hb
  cases hg:l.getLast? with
  | none=>rw[List.getLast?_eq_none_iff]at hg;subst hg;cases hx
  | some x=>
   have h1:=h.sort.last hg a hx
   have h2:=ha.late
   unfold lateB at h2
   rw[hg]at h2
   simp at h2
   omega
 ·intro x hx
  rcases List.mem_append.1 hx with hx | hx
  ·exact h.form x hx
  ·rw[List.mem_singleton]at hx;rw[hx];exact ht.form
theorem Acc.ok{l:List Ev}(h:Acc l):AccOk l:=by
 induction h with
 | nil=>exact⟨by simp,{toInv0:=Inv0.nil,few:=fun _ h=>(nomatch h),dep:=fun p=>by simp[pth,pthN,parI,get,stL]},by simp[stL],.nil,fun _ h=>(nomatch h)⟩
 | snoc h he ih=>exact ih.snoc (addE_zero he)
theorem Acc.pre{l:List Ev}(h:Acc l):∀k,Acc (l.take k):=by
 induction h with
 | nil=>intro k;simp;exact .nil
 | snoc h he ih=>
  rename_i l e
  intro k
  by_cases hk:k≤l.length
  ·rw[List.take_append_of_le_length hk];exact ih k
  ·rw[List.take_of_length_le (by simp;omega)];exact .snoc h he
theorem Acc.at{l:List Ev}(h:Acc l){i:Nat}(hi:i<l.length):addE (l.take i) l[i]=0:=by
 have h1:=h.pre (i+1)
 rw[List.take_succ_eq_append_getElem hi]at h1
 generalize hl:List.take i l++[l[i]]=m at h1
 cases h1 with
 | nil=>simp at hl;subst hl;simp at hi
 | snoc h2 he=>
  obtain⟨h3,h4⟩:=List.append_inj' hl rfl
  simp at h4
  rw[h3,h4];exact he
theorem filter_take{l:List Ev}(h:Sorted l)(d:Int):∃k,k≤l.length∧l.filter (fun e=>decide (e.day≤d))=l.take k∧(∀e∈l.take k,e.day≤d)∧∀e∈l.drop k,d<e.day:=by
 induction l with
 | nil=>exact⟨0,by simp,by simp,by simp,by simp⟩
 | cons x l ih=>
  obtain⟨h1,h2⟩:=List.pairwise_cons.1 h
  by_cases hx:x.day≤d
  ·obtain⟨k,g1,g2,g3,g4⟩:=ih h2
   refine⟨k+1,by simp;omega,by rw[List.filter_cons_of_pos (by simpa using hx),List.take_succ_cons,g2],fun e he=>?_,fun e he=>g4 e (by simpa using he)⟩
   rw[List.take_succ_cons]at he
   rcases List.mem_cons.1 he with rfl | he
   ·exact hx
   ·exact g3 e he
  ·refine⟨0,by simp,?_,by simp,fun e he=>?_⟩
   ·rw[List.take_zero,List.filter_eq_nil_iff]
    intro e he
    rcases List.mem_cons.1 he with rfl | he
    ·simpa using hx
    ·have:=h1 e he;simp;omega
   ·rw[List.drop_zero]at he
    rcases List.mem_cons.1 he with rfl | he
    ·omega
    ·have:=h1 e he;omega
theorem Acc.upTo{l:List Ev}(h:Acc l)(d:Int):∃k,k≤l.length∧upToL l d=stL (l.take k)∧Acc (l.take k)∧(∀e∈l.take k,e.day≤d)∧∀e∈l.drop k,d<e.day:=by
 obtain⟨k,h1,h2,h3,h4⟩:=filter_take h.ok.sort d
 exact⟨k,h1,by rw[upTo_filter,h2],h.pre k,h3,h4⟩
theorem Takes.evOk{s:List Pl}{e:Ev}(hi:InvS s)(hl:s.length≤400)(ht:Takes s e):evOk s e:=by
 refine⟨ht.form.day0,ht.form.day1,by omega,fun x hx=>by have:=hi.few x hx;omega,fun hk=>here_get (ht.fits.old (by omega)),fun hk=>⟨here_get (ht.fits.oth (by have:=(ht.form.o4 hk).1;omega)),(ht.form.o4 hk).2⟩⟩
theorem Acc.run{l:List Ev}(h:Acc l)(d:Int):RunOk l d:=by
 have hlen:=h.ok.len
 refine⟨by omega,fun i hi hd=>?_⟩
 have hp:=(h.pre i).ok
 have ha:=addE_zero (h.at hi)
 have hs:upToL (l.take i) d=stL (l.take i):=by
  rw[upTo_filter,List.filter_eq_self.2 fun e he=>?_]
  have hsort:=h.ok.sort
  have:e.day≤l[i].day:=by
   rw[←List.take_append_drop i l]at hsort
   refine(List.pairwise_append.1 hsort).2.2 e he _ ?_
   rw[List.drop_eq_getElem_cons hi];exact List.mem_cons_self
  simp;omega
 rw[hs]
 have ht:=Takes.of ha
 rw[all_days hp.form]at ht
 exact ht.evOk hp.inv (Nat.le_trans hp.size hp.len)
theorem Acc.onL{l:List Ev}(h:Acc l)(d:Int):∃k,k≤l.length∧Go.Proofs.YtpndfdfipkadkaaGreatDoor.onL l d=stL (l.take k)∧Acc (l.take k):=by
 unfold Go.Proofs.YtpndfdfipkadkaaGreatDoor.onL
 split
 ·exact⟨0,by simp,by simp[stL],by simp;exact .nil⟩
 ·obtain⟨k,h1,h2,h3,_⟩:=h.upTo d
  exact⟨k,h1,h2,h3⟩
theorem Acc.invOn{l:List Ev}(h:Acc l)(d:Int):InvS (Go.Proofs.YtpndfdfipkadkaaGreatDoor.onL l d)∧(Go.Proofs.YtpndfdfipkadkaaGreatDoor.onL l d).length≤400:=by
 obtain⟨k,_,h2,h3⟩:=h.onL d
 rw[h2]
 exact⟨h3.ok.inv,Nat.le_trans h3.ok.size h3.ok.len⟩
end Go.Proofs.YtpndfdfipkadkaaGreatDoor
