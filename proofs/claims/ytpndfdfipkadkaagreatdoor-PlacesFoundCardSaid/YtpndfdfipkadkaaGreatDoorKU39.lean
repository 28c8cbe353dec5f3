/- The law holds: part 371. Conditions: none. -/
import Derived.Test.YtpndfdfipkadkaaGreatDoorKU14
import Derived.Test.YtpndfdfipkadkaaGreatDoorKU34
set_option linter.all false
set_option maxRecDepth 100000
namespace Go.Proofs.YtpndfdfipkadkaaGreatDoor
open Go Go.Wx Go.Ax
theorem mem_using{l:List Use}{d:Int}{n:ByteArray}:n∈usingL l d↔∃u∈l,inUse d u=true∧u.name=n:=by
 rw[using_uniq,uniqS_mem,List.mem_map]
 constructor
 ·rintro⟨u,hu,rfl⟩
  exact⟨u,(List.mem_filter.1 hu).1,(List.mem_filter.1 hu).2,rfl⟩
 ·rintro⟨u,h1,h2,rfl⟩
  exact⟨u,List.mem_filter.2 ⟨h1,h2⟩,rfl⟩
theorem merged_eq(l:List Use)(d:Int):∀(ns:List ByteArray) (out:List Use),ns.foldl (fun out n=>if openB l n 2 then out else out++[newA n d]) out=out++(ns.filter fun n=> !openB l n 2).map (newA · d)
 |[],out=>by simp
 | n::ns,out=>by
  rw[List.foldl_cons,merged_eq l d ns]
  by_cases h:openB l n 2=true
  ·rw[if_pos h,List.filter_cons_of_neg (by simp[h])]
  ·rw[if_neg h,List.filter_cons_of_pos (by simpa using h)]
   simp
theorem merged_app(l o:List Use)(d:Int):mergedL l o d=l++((usingL o d).filter fun n=> !openB l n 2).map (newA · d):=merged_eq l d _ l
theorem mem_setAt{k t:Int}{l:List Use}{u:Use}(h:u∈setAt k t l):∃v∈l,u=v∨u={v with til:=t}:=by
 obtain⟨i,hi,e⟩:=List.mem_mapIdx.1 h
 refine⟨l[i],List.getElem_mem hi,?_⟩
 rw[←e]
 split
 ·exact .inr rfl
 ·exact .inl rfl
inductive UAft(s:List Pl)(e:Ev)(q:Int)(y:Pl):Prop
 | same (x:Pl) (h:get s q=some x) (hu:y.uses=x.uses) (hx:y.ex=x.ex)
 | new (h:get s q=none) (hk:e.kind=1) (hq:q=e.place) (hy:y=foundP e)
 | ren (x:Pl) (h:get s q=some x) (hk:e.kind=2) (hq:q=e.place) (hu:y.uses=renL x.uses e.name e.day) (hx:x.ex=true) (hy:y.ex=true)
 | ali (x:Pl) (h:get s q=some x) (hk:e.kind=5) (hq:q=e.place) (hu:y.uses=x.uses++[newA e.name e.day]) (hx:x.ex=true) (hy:y.ex=true)
 | mrg (x z:Pl) (h:get s q=some x) (hz:get s e.place=some z) (hk:e.kind=4) (hq:q=e.other) (hu:y.uses=mergedL x.uses z.uses e.day) (hx:x.ex=true) (hy:y.ex=true)
 | cap (x:Pl) (h:get s q=some x) (hk:e.kind=4) (hq:q=e.place) (hu:y.uses=capT e.day x.uses) (hx:x.ex=true) (hy:y.ex=false)
theorem here_ex{s:List Pl}{p:Int}{x:Pl}(h:hereB s p=true)(hg:get s p=some x):x.ex=true:=by rw[hereB_get hg]at h;exact h
theorem reP_ex(e:Ev)(x:Pl):(reParent e x).ex=x.ex:=by unfold reParent;split<;>rfl
theorem reP_uses(e:Ev)(x:Pl):(reParent e x).uses=x.uses:=by unfold reParent;split<;>rfl
theorem uaft{s:List Pl}{e:Ev}{q:Int}{y:Pl}(ht:Takes s e)(hg:get (afterL s e) q=some y):UAft s e q y:=by
 have hk:=ht.form.kind
 rcases hk with k | k | k | k | k
 ·rw[get_after1 k]at hg
  cases h:get s q with
  | some x=>rw[h]at hg;simp only[Option.some.injEq]at hg;subst hg;exact .same _ h rfl rfl
  | none=>
   rw[h]at hg
   simp only at hg
   by_cases hp:e.place=q
   ·rw[if_pos hp]at hg;exact .new h k hp.symm (Option.some.inj hg).symm
   ·rw[if_neg hp]at hg;cases hg
 ·rw[get_after2 k]at hg
  by_cases hp:q=e.place
  ·rw[if_pos hp]at hg
   cases h:get s q with
   | none=>rw[h]at hg;cases hg
   | some x=>
    rw[h]at hg
    cases hg
    have:=here_ex (ht.fits.old (by omega)) (hp▸h)
    exact .ren x h k hp rfl this this
  ·rw[if_neg hp]at hg
   exact .same y hg rfl rfl
 ·rw[get_after3 k]at hg
  by_cases hp:q=e.place
  ·rw[if_pos hp]at hg
   cases h:get s q with
   | none=>rw[h]at hg;cases hg
   | some x=>rw[h]at hg;cases hg;exact .same x h rfl rfl
  ·rw[if_neg hp]at hg
   exact .same y hg rfl rfl
 ·have hne:=(ht.form.o4 k).2
  have ho:=(ht.form.o4 k).1
  rw[get_after4 k hne]at hg
  by_cases hp:q=e.place
  ·rw[if_pos hp]at hg
   cases h:get s q with
   | none=>rw[h]at hg;cases hg
   | some x=>
    rw[h]at hg
    cases hg
    exact .cap x h k hp (by rw[reP_uses];rfl) (here_ex (ht.fits.old (by omega)) (hp▸h)) (by rw[reP_ex];rfl)
  ·rw[if_neg hp]at hg
   by_cases hq:q=e.other
   ·rw[if_pos hq]at hg
    cases h:get s q with
    | none=>rw[h]at hg;cases hg
    | some x=>
     rw[h]at hg
     cases hg
     have hx:=here_ex (ht.fits.oth (by omega)) (hq▸h)
     obtain⟨z,hz,_⟩:=hereB_iff.1 (ht.fits.old (by omega))
     exact .mrg x z h hz k hq (by rw[reP_uses,hz];rfl) hx (by rw[reP_ex];exact hx)
   ·rw[if_neg hq]at hg
    cases h:get s q with
    | none=>rw[h]at hg;cases hg
    | some x=>rw[h]at hg;cases hg;exact .same x h (reP_uses e x) (reP_ex e x)
 ·rw[get_after5 k]at hg
  by_cases hp:q=e.place
  ·rw[if_pos hp]at hg
   cases h:get s q with
   | none=>rw[h]at hg;cases hg
   | some x=>
    rw[h]at hg
    cases hg
    have:=here_ex (ht.fits.old (by omega)) (hp▸h)
    exact .ali x h k hp rfl this this
  ·rw[if_neg hp]at hg
   exact .same y hg rfl rfl
theorem Acc.step{l:List Ev}{e:Ev}(h:Acc l)(he:addE l e=0):Takes (stL l) e∧InvS (stL l)∧(∀x∈l,x.day≤e.day)∧stL (l++[e])=afterL (stL l) e:=by
 have ha:=addE_zero he
 have ht:=Takes.of ha
 rw[all_days h.ok.form]at ht
 refine⟨ht,h.ok.inv,fun x hx=>?_,stL_snoc l e⟩
 have hs:=(h.ok.snoc ha).sort
 exact(List.pairwise_append.1 hs).2.2 x hx e (by simp)
structure UInv(l:List Ev)(s:List Pl):Prop where
 tru:∀q x,get s q=some x→x.ex=true→∃u,x.uses[(lastT x.uses).toNat]? =some u∧u.til=100001
 frm:∀q x,get s q=some x→∀u∈x.uses,∃e∈l,u.frm=e.day
 til:∀q x,get s q=some x→∀u∈x.uses,u.til=100001∨∃e∈l,u.til=e.day∨u.til=e.day+3650
theorem UInv.step{l:List Ev}{s:List Pl}{e:Ev}(h:UInv l s)(ht:Takes s e):UInv (l++[e]) (afterL s e):=by
 have up:∀{P:Ev→Prop},(∃x∈l,P x)→∃x∈l++[e],P x:=fun⟨x,hx,hp⟩=>⟨x,List.mem_append_left _ hx,hp⟩
 have lst:∀{P:Ev→Prop},P e→∃x∈l++[e],P x:=fun hp=>⟨e,by simp,hp⟩
 have upt:∀{t:Int},(t=100001∨∃x∈l,t=x.day∨t=x.day+3650)→(t=100001∨∃x∈l++[e],t=x.day∨t=x.day+3650):=fun h=>h.imp id up
 refine⟨fun q y hg hy=>?_,fun q y hg u hu=>?_,fun q y hg u hu=>?_⟩
 ·cases uaft ht hg with
  | same x h1 h2 h3=>rw[h2];exact h.tru q x h1 (h3▸hy)
  | new h1 h2 h3 h4=>rw[h4];exact⟨newT e.name e.day,rfl,rfl⟩
  | ren x h1 _ _ h2 _ _=>
   refine⟨newT e.name e.day,?_,rfl⟩
   rw[h2,renL,lastT_snoc,if_pos (show((newT e.name e.day).kind==1)=true from rfl),Int.toNat_natCast,List.getElem?_concat_length]
  | ali x h1 _ _ h2 hx _=>
   obtain⟨u,hu,ht⟩:=h.tru q x h1 hx
   refine⟨u,?_,ht⟩
   rw[h2,lastT_snoc,if_neg (show ¬((newA e.name e.day).kind==1)=true from fun h=>nomatch h),List.getElem?_append_left (List.getElem?_eq_some_iff.1 hu).1,hu]
  | mrg x z h1 _ _ _ h2 hx _=>
   obtain⟨u,hu,ht⟩:=h.tru q x h1 hx
   refine⟨u,?_,ht⟩
   rw[h2,lastT_merged,merged_app,List.getElem?_append_left (List.getElem?_eq_some_iff.1 hu).1,hu]
  | cap x _ _ _ _ _ h2=>rw[h2]at hy;cases hy
 ·cases uaft ht hg with
  | same x h1 h2 h3=>rw[h2]at hu;exact up (h.frm q x h1 u hu)
  | new h1 h2 h3 h4=>rw[h4]at hu;rw[List.mem_singleton.1 hu];exact lst rfl
  | ren x h1 _ _ h2 _ _=>
   rw[h2,renL]at hu
   rcases List.mem_append.1 hu with hu | hu
   ·obtain⟨v,hv,e1⟩:=mem_setAt hu
    have:=up (h.frm q x h1 v hv)
    rcases e1 with rfl | rfl<;>exact this
   ·rw[List.mem_singleton.1 hu];exact lst rfl
  | ali x h1 _ _ h2 hx _=>
   rw[h2]at hu
   rcases List.mem_append.1 hu with hu | hu
   ·exact up (h.frm q x h1 u hu)
   ·rw[List.mem_singleton.1 hu];exact lst rfl
  | mrg x z h1 _ _ _ h2 hx _=>
   rw[h2,merged_app]at hu
   rcases List.mem_append.1 hu with hu | hu
   ·exact up (h.frm q x h1 u hu)
   ·obtain⟨n,_,rfl⟩:=List.mem_map.1 hu
    exact lst rfl
  | cap x h1 _ _ h2 _ _=>
   rw[h2]at hu
   obtain⟨v,hv,rfl⟩:=List.mem_map.1 hu
   exact up (h.frm q x h1 v hv)
 ·cases uaft ht hg with
  | same x h1 h2 h3=>rw[h2]at hu;exact upt (h.til q x h1 u hu)
  | new h1 h2 h3 h4=>rw[h4]at hu;rw[List.mem_singleton.1 hu];exact .inl rfl
  | ren x h1 _ _ h2 _ _=>
   rw[h2,renL]at hu
   rcases List.mem_append.1 hu with hu | hu
   ·obtain⟨v,hv,e1⟩:=mem_setAt hu
    rcases e1 with rfl | rfl
    ·exact upt (h.til q x h1 _ hv)
    ·show min (e.day+3650) 100001=100001∨_
     by_cases hm:e.day+3650≤100001
     ·right
      exact lst (.inr (by show min (e.day+3650) 100001=_;omega))
     ·left;omega
   ·rw[List.mem_singleton.1 hu];exact .inl rfl
  | ali x h1 _ _ h2 hx _=>
   rw[h2]at hu
   rcases List.mem_append.1 hu with hu | hu
   ·exact upt (h.til q x h1 u hu)
   ·rw[List.mem_singleton.1 hu];exact .inl rfl
  | mrg x z h1 _ _ _ h2 hx _=>
   rw[h2,merged_app]at hu
   rcases List.mem_append.1 hu with hu | hu
   ·exact upt (h.til q x h1 u hu)
   ·obtain⟨n,_,rfl⟩:=List.mem_map.1 hu
    exact .inl rfl
  | cap x h1 _ _ h2 _ _=>
   rw[h2]at hu
   obtain⟨v,hv,rfl⟩:=List.mem_map.1 hu
   have:=upt (h.til q x h1 v hv)
   show min v.til e.day=100001∨_
   by_cases hm:v.til≤e.day
   ·rw[show min v.til e.day=v.til by omega];exact this
   ·right;exact lst (.inl (by show min v.til e.day=_;omega))
theorem Acc.uses{l:List Ev}(h:Acc l):UInv l (stL l):=by
 induction h with
 | nil=>exact⟨fun _ _ h=>(nomatch h),fun _ _ h=>(nomatch h),fun _ _ h=>(nomatch h)⟩
 | snoc h he ih=>
  obtain⟨h1,_,_,h4⟩:=h.step he
  rw[h4]
  exact ih.step h1
inductive GoTo(s:List Pl):Int→Int→Prop
 | here {p:Int} (h:hereB s p=true):GoTo s p p
 | nx {p r q:Int} (h:nxG s p=some r) (g:GoTo s r q):GoTo s p q
theorem nxG_some{s:List Pl}{p r:Int}:nxG s p=some r↔∃x,get s p=some x∧x.ex=false∧x.into=r:=by
 unfold nxG
 cases get s p with
 | none=>simp
 | some x=>cases hx:x.ex<;>simp[hx]
theorem GoTo.goN{s:List Pl}{p q:Int}(h:GoTo s p q):∀{ch:List Int} {n:Nat},IsCh (nxG s) p ch→ch.length<n→Go.Proofs.YtpndfdfipkadkaaGreatDoor.goN s n p=q:=by
 induction h with
 | here h=>
  rename_i p
  intro ch n _ hn
  obtain⟨k,rfl⟩:∃k,n=k+1:=⟨n-1,by omega⟩
  obtain⟨x,hx,he⟩:=hereB_iff.1 h
  rw[Go.Proofs.YtpndfdfipkadkaaGreatDoor.goN,hx]
  simp only[he,if_true]
 | nx h g ih=>
  intro ch n hc hn
  obtain⟨k,rfl⟩:∃k,n=k+1:=⟨n-1,by omega⟩
  obtain⟨x,hx,he,hi⟩:=nxG_some.1 h
  cases ch with
  | nil=>rw[show nxG s _=none from hc]at h;cases h
  | cons r' ch=>
   have:=hc.1
   rw[h]at this
   cases this
   rw[Go.Proofs.YtpndfdfipkadkaaGreatDoor.goN,hx]
   simp only[he,hi]
   rw[if_neg (by decide)]
   exact ih hc.2 (by simp at hn;omega)
def endN(s:List Pl)(p:Int):Int:=goN s (s.length+1) p
theorem GoTo.end{s:List Pl}(hi:Inv0 s){p q:Int}(h:GoTo s p q):endN s p=q:=by
 obtain⟨ch,hc⟩:=hi.gon p
 exact h.goN hc (by have:=chain_len hc;omega)
theorem GoTo.via{s t:List Pl}{p q r:Int}(h:GoTo s p q)(hn:∀a b,nxG s a=some b→nxG t a=some b)(g:GoTo t q r):GoTo t p r:=by
 induction h with
 | here _=>exact g
 | nx h _ ih=>exact .nx (hn _ _ h) (ih g)
end Go.Proofs.YtpndfdfipkadkaaGreatDoor
set_option maxRecDepth 100000
namespace Go.Proofs.YtpndfdfipkadkaaGreatDoor
open Go Go.Wx Go.Ax
theorem all_mem{s:List Pl}(hn:(s.map (·.id)).Nodup){q:Int}:q∈allL s↔hereB s q=true:=by
 rw[allL_uniq,uniqI_mem,List.mem_map,hereB_iff]
 constructor
 ·rintro⟨x,hx,rfl⟩
  have:=List.mem_filter.1 hx
  exact⟨x,get_of hn this.1,this.2⟩
 ·rintro⟨x,hx,he⟩
  obtain⟨h1,h2⟩:=get_mem hx
  exact⟨x,List.mem_filter.2 ⟨h1,he⟩,h2⟩
theorem all_rise(s:List Pl):(allL s).Pairwise (· < ·):=by rw[allL_uniq];exact uniqI_rise _
end Go.Proofs.YtpndfdfipkadkaaGreatDoor
