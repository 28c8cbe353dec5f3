/- The law holds: part 365. Conditions: none. -/
import Derived.Test.YtpndfdfipkadkaaGreatDoorKU32
set_option linter.all false
set_option maxRecDepth 100000
namespace Go.Proofs.YtpndfdfipkadkaaGreatDoor
open Go Go.Wx Go.Ax
def metL(t:List Pl)(l:List Nat):List Int:=l.filterMap fun j=>match t[j]? with | some x=>if x.ex then some x.id else none | none=>none
theorem metL_snoc{t:List Pl}{l:List Nat}{j:Nat}{x:Pl}(h:t[j]? =some x):metL t (l++[j])=if x.ex then metL t l++[x.id]else metL t l:=by
 unfold metL
 rw[List.filterMap_append,List.filterMap_cons,h]
 by_cases hx:x.ex=true
 ·simp[hx]
 ·simp[hx]
theorem metL_len(t:List Pl)(l:List Nat):(metL t l).length≤l.length:=List.length_filterMap_le _ _
theorem allL_uniq(t:List Pl):allL t=uniqI ((t.filter (·.ex)).map (·.id)):=by
 unfold allL uniqI
 rw[List.foldl_map,List.foldl_filter]
theorem metL_all{t:List Pl}{l:List Nat}(hs:∀j∈l,j<t.length)(ha:∀j,j<t.length→j∈l):uniqI (metL t l)=allL t:=by
 rw[allL_uniq]
 refine rise_eq (uniqI_rise _) (uniqI_rise _) fun x=>?_
 rw[uniqI_mem,uniqI_mem,metL,List.mem_filterMap,List.mem_map]
 constructor
 ·rintro⟨j,hj,h⟩
  have hlt:=hs j hj
  rw[List.getElem?_eq_getElem hlt]at h
  simp only at h
  split at h
  ·rename_i he
   cases h
   exact⟨t[j],List.mem_filter.2 ⟨List.getElem_mem hlt,he⟩,rfl⟩
  ·cases h
 ·rintro⟨y,hy,rfl⟩
  obtain⟨h1,h2⟩:=List.mem_filter.1 hy
  obtain⟨j,hj⟩:=List.getElem?_of_mem h1
  exact⟨j,ha j (List.getElem?_eq_some_iff.1 hj).1,by rw[hj];simp[h2]⟩
noncomputable def c110:Code:=Tryz.f110.body.getD .skip
theorem placesM_c(t:List Pl)(hl:t.length≤400000):AC Pg 110 [stD t] [] fun d H' ms=>∃(ys:List Int) (n:Nat),ys.length=n∧ys.take (allL t).length=allL t∧(allL t).length≤n∧n≤t.length∧d= .sl 0 0 (allL t).length n∧H'=[.arr 3 1 (ys.map ienc)]∧ms=[]:=by
 refine AC.drop (AC.mono (R:=fun d H' ms=>∃(ys:List Int) (n:Nat) (I:AO),ys.length=n∧ys.take (allL t).length=allL t∧(allL t).length≤n∧n≤t.length∧d= .sl 0 0 (allL t).length n∧H'=[.arr 3 1 (ys.map ienc),I]∧ms=[]) ?_ ?_)
 ·refine AC_fn Tryz.func110 rfl rfl rfl [] (fun _=>true) (fun b h=>nomatch h) (AW_rest (c':=restC 0 c110) (goC 2 [] [] ?_))
  refine AW_ghost 3 3 1 (Nat.zero_le _) ?_
  have hsl:(stK t).length=t.length:=by simp[stK]
  refine go [] [] ?_
  conv=>whnf
  refine AW_idx t.length (fun c st=>∃l out n,Seen t.length c l∧out=metL t l∧out.length=n∧Has [(3,.sl 0 0 n n),(7,.it 1)] [.arr 3 1 (out.map ienc),.iter (stD t) t.length l] st) ⟨[],[],0,⟨rfl,.nil,fun _ hj=>nomatch hj⟩,rfl,rfl,has ⟨rfl,rfl,trivial⟩ (by rw[←hsl];rfl)⟩ ?_
  rintro c _ hc ⟨l,out,n,hs,ho,hn,e0,rfl⟩
  have hnl:n≤c:=by rw[←hn,ho,←hs.len];exact metL_len _ _
  refine go [] [] ?_
  conv=>whnf
  refine ck (by rw[hsl];exact Nat.beq_refl _) ?_
  refine⟨fun j kk d hkj hdj hjl=>?_,fun hall=>?_⟩
  ·have hj:j<t.length:=by rw[←hsl];exact(List.getElem?_eq_some_iff.1 hkj).1
   obtain⟨hct,hs2⟩:=hs.step hj hjl
   obtain⟨y,hy⟩:∃y,t[j]? =some y:=⟨t[j],List.getElem?_eq_getElem _⟩
   have hd:d= .fp (plC y):=by
    rw[stV,List.getElem?_map,hy]at hdj
    exact(Option.some.inj hdj).symm
   have hkk:kk= .int .i64 y.id:=by
    rw[stK,List.getElem?_map,hy]at hkj
    exact(Option.some.inj hkj).symm
   subst hd
   subst hkk
   refine ck rfl ?_
   conv=>whnf
   refine ck (by rw[hsl];exact Nat.beq_refl _) ?_
   conv=>whnf
   refine gl_at List.getLast?_concat ?_
   conv=>whnf
   refine ky_at hkj ?_
   conv=>whnf
   refine ptrq hdj ?_
   refine if_ (fun hx=>?_) fun hx=>?_
   ·refine push (by simpa using hn) (by omega) ?_
    exact⟨hct,l++[j],out++[y.id],n+1,hs2,by rw[metL_snoc hy,if_pos hx,ho],by simp[hn],has ⟨rfl,rfl,trivial⟩ (by rw[List.map_append];rfl)⟩
   ·exact⟨hct,l++[j],out,n,hs2,by rw[metL_snoc hy,if_neg (by simpa using hx),ho],hn,has ⟨rfl,rfl,trivial⟩ rfl⟩
  ·have hu:=metL_all hs.lt hall
   rw[←ho]at hu
   refine AC.mono (uniqueI_c out (b:=0) (n:=n) rfl hn (by omega)) ?_
   rintro d H' ms ⟨ys,h2,h3,h4,rfl,rfl,rfl⟩
   rw[hu]at h3 h4 ⊢
   exact⟨ys,n,_,h2,h3,h4,by omega,rfl,rfl,rfl⟩
 ·rintro d H' ms ⟨ys,n,I,h1,h2,h3,h4,rfl,rfl,rfl⟩
  refine⟨[.arr 3 1 (ys.map ienc)],[I],rfl,Nat.zero_le _,.sl (by simp),fun o ho=>?_,ys,n,h1,h2,h3,h4,rfl,rfl,rfl⟩
  rw[List.mem_singleton.1 ho]
  exact BlO.enc pdI
theorem allL_prg(s:List Pl):allL (prg s)=allL s:=by
 rw[allL_uniq,allL_uniq]
 congr 1
 unfold prg
 rw[List.filter_map,List.map_map]
 have h1:(fun x:Pl=>x.ex) ∘ nrm=fun x=>x.ex:=funext fun x=>nrm_ex x
 have h2:(fun x:Pl=>x.id) ∘ nrm=fun x=>x.id:=funext fun x=>nrm_id x
 rw[h1,h2]
theorem qAll_c(l:List Ev)(day:Int)(ha:Acc l):Pur Pg 41 [refG l,di day] (rows ienc (allL (onL l day))):=by
 refine fn Tryz.func41 [] [] (.cons (pd_refG l) (.cons (.v _) .nil)) ?_
 refine(onP_c l day ha).call ?_
 refine ck rfl (force_to ?_)
 refine AC.mono (placesM_c _ (Nat.le_trans (acc_onSt ha day).len (by omega))) ?_
 rintro d H' ms ⟨ys,n,h1,h2,h3,h4,rfl,rfl,rfl⟩
 have hf:=frzK_take (k0:=0) (H:=[AO.arr 3 1 (ys.map ienc)]) (b:=0) (enc:=ienc) (n:=(allL (prg (onL l day))).length) (T:=3) (sz:=1) rfl (by omega) h1 pdI (fun _=>rfl) (Nat.le_refl _)
 rw[h2]at hf
 rw[allL_prg]at hf ⊢
 exact hf
theorem cont_here{t:List Pl}{a b:Int}(h:cont t a b=true):hereB t b=true:=by
 unfold cont contB at h
 cases hb:hereB t b with
 | true=>rfl
 | false=>rw[hb]at h;simp at h
theorem insideL_eq(t:List Pl)(p:Int):(allL t).filter (fun q=>cont t p q)=insideL t p:=by
 have hu:insideL t p=uniqI ((t.filter fun x=>cont t p x.id).map (·.id)):=by
  unfold insideL uniqI
  rw[List.foldl_map,List.foldl_filter]
 rw[hu,allL_uniq]
 refine rise_eq ((uniqI_rise _).filter _) (uniqI_rise _) fun x=>?_
 rw[List.mem_filter,uniqI_mem,uniqI_mem,List.mem_map,List.mem_map]
 constructor
 ·rintro⟨⟨y,hy,rfl⟩,h⟩
  exact⟨y,List.mem_filter.2 ⟨(List.mem_filter.1 hy).1,h⟩,rfl⟩
 ·rintro⟨y,hy,rfl⟩
  have hc:=(List.mem_filter.1 hy).2
  obtain⟨z,hz,hze⟩:=hereB_iff.1 (cont_here hc)
  obtain⟨hzm,hzi⟩:=get_mem hz
  exact⟨⟨z,List.mem_filter.2 ⟨hzm,hze⟩,hzi⟩,hc⟩
theorem insideL_prg(s:List Pl)(p:Int):insideL (prg s) p=insideL s p:=by
 rw[←insideL_eq,←insideL_eq,allL_prg]
 congr 1
 funext q
 exact cont_prg s p q
theorem inside1_c(t:List Pl)(n q:Int)(ht:StOk t):Pur Pg 177 [di q,.fp [stD t],.fp [di n]] (db (!cont t n q)):=by
 refine fn Tryz.func177 [] [] (.cons (.v _) (.cons (.fp (PdL.one (pd_st t))) (.cons (.fp (PdL.one (.v _))) .nil))) ?_
 refine(contP_c t n q ht).call ?_
 exact frzb rfl
noncomputable def c117:Code:=Tryz.f117.body.getD .skip
theorem inside_c(t:List Pl)(n:Int)(ht:StOk t):Pur Pg 117 [stD t,di n] (rows ienc (insideL t n)):=by
 refine Pur_of (PdL.cons (pd_st t) (.cons (.v _) .nil)) (AC_fn Tryz.func117 rfl rfl rfl [] (fun _=>true) (fun b h=>nomatch h) (AW_rest (c':=restC 0 c117) ?_))
 refine goC 1 [] [] ?_
 refine AW_rest (c':=restC 1 c117) ?_
 refine AW_has (l:=[(0,stD t),(1,di n),(2,.ptr 0 0 0 1),(3,.ptr 1 0 0 1)]) (fun e0=>?_) ⟨rfl,rfl,rfl,rfl,trivial⟩
 refine AW_frz (r:=[(0,stD t),(1,di n),(2,.fp [stD t]),(3,.fp [di n])]) (H1:=[]) (G:=[.arr 117 1 [[stD t]],.arr 3 1 [[di n]]]) (Nat.le_refl _) (fun _ h=>nomatch h) ⟨rfl,.pd (pd_st t),rfl,.v,rfl,.fz (.fp rfl rfl (FrzL.refl (PdL.one (pd_st t))).2),rfl,.fz (.fp rfl rfl (FrzL.refl (PdL.one (.v _))).2),trivial⟩ fun e1=>?_
 refine go [] [] ?_
 refine AC.mono (placesM_c t (by have:=ht.len;omega)) ?_
 rintro d H' ms ⟨ys,n',h1,h2,h3,h4,rfl,rfl,rfl⟩
 have hdel:=deleteFunc_c ys (allL t).length n' 177 [.fp [stD t],.fp [di n]] (fun q=> !cont t n q) h1 h3 (by have:=ht.len;omega) (.cons (.fp (PdL.one (pd_st t))) (.cons (.fp (PdL.one (.v _))) .nil)) fun q _=>inside1_c t n q ht
 refine AC.mono hdel ?_
 rintro d H' ms ⟨zs,g1,g2,rfl,rfl,rfl⟩
 rw[h2]at g2 ⊢
 have hin:(allL t).filter (fun x=> !!cont t n x)=insideL t n:=by
  rw[←insideL_eq]
  congr 1
  funext q
  simp
 rw[hin]at g2 ⊢
 have hle:(insideL t n).length≤zs.length:=by rw[←g2];simp;omega
 have hf:=frzK_take (k0:=0) (H:=[AO.arr 3 1 (zs.map ienc)]) (b:=0) (enc:=ienc) (n:=(insideL t n).length) (T:=3) (sz:=1) rfl hle g1 pdI (fun _=>rfl) (Nat.le_refl _)
 rw[g2]at hf
 exact hf
theorem qInside_c(l:List Ev)(p day:Int)(ha:Acc l):Pur Pg 45 [refG l,di p,di day] (rows ienc (insideL (onL l day) p)):=by
 refine fn Tryz.func45 [] [] (.cons (pd_refG l) (.cons (.v _) (.cons (.v _) .nil))) ?_
 refine(onP_c l day ha).call ?_
 refine ck rfl (force_to ?_)
 refine(inside_c _ p (acc_onSt ha day)).call ?_
 rw[insideL_prg]
 exact .pd (pd_rows pdI _)
end Go.Proofs.YtpndfdfipkadkaaGreatDoor
set_option maxRecDepth 100000
namespace Go.Proofs.YtpndfdfipkadkaaGreatDoor
open Go Go.Wx Go.Ax
theorem nxG_prg(s:List Pl):nxG (prg s)=nxG s:=by
 funext q
 unfold nxG
 rw[get_prg]
 cases get s q with
 | none=>rfl
 | some x=>simp only[Option.map_some,nrm_ex,nrm_into]
theorem chain_len{s:List Pl}{p:Int}{l:List Int}(h:IsCh (nxG s) p l):l.length≤s.length:=by
 have key:∀{l:List Int} {p:Int},IsCh (nxG s) p l→∀q∈(p::l).dropLast,q∈s.map (·.id):=by
  intro l
  induction l with
  | nil=>intro p _ q hq;simp at hq
  | cons r l ih=>
   intro p h q hq
   rw[List.dropLast_cons_of_ne_nil (by simp),List.mem_cons]at hq
   rcases hq with rfl | hq
   ·have h1:=h.1
    unfold nxG at h1
    cases hg:get s q with
    | none=>rw[hg]at h1;cases h1
    | some x=>exact List.mem_map.2 ⟨x,(get_mem hg).1,(get_mem hg).2⟩
   ·exact ih h.2 q hq
 have:=nodup_len (List.Nodup.sublist (List.dropLast_sublist _) h.nodup) (key h)
 simpa using this
theorem qGoesOn_c(l:List Ev)(p day:Int)(ha:Acc l):Pur Pg 25 [refG l,di p,di day] (di (goN (onL l day) ((onL l day).length+1) p)):=by
 obtain⟨ch,hch⟩:=(ha.invOn day).1.gon p
 have hcl:=chain_len hch
 rw[←nxG_prg]at hch
 rw[←goN_prg,←prg_len]
 rw[←prg_len]at hcl
 refine fn Tryz.func25 [] [] (.cons (pd_refG l) (.cons (.v _) (.cons (.v _) .nil))) ?_
 refine(onP_c l day ha).call ?_
 generalize prg (onL l day)=t at hch hcl
 conv=>whnf
 refine AW_idx ch.length (fun i st=>∃q rest,IsCh (nxG t) q rest∧i+rest.length=ch.length∧goN t (t.length+1) p=goN t (t.length+1-i) q∧Has [(1,di q),(7,stD t)] [] st) ⟨p,ch,hch,by omega,rfl,has ⟨rfl,rfl,trivial⟩ rfl⟩ ?_
 rintro i _ hi ⟨q,rest,h1,h2,h3,e0,rfl⟩
 refine go [] [] ?_
 obtain⟨k,hk⟩:∃k,t.length+1-i=k+1:=⟨t.length-i,by omega⟩
 rw[hk]at h3
 cases hg:get t q with
 | none=>
  have h4:goN t (k+1) q=0:=by rw[goN,hg]
  refine st_no hg ?_
  refine st_no hg ?_
  exact frzi (by rw[h3,h4])
 | some x=>
  refine st_at hg ?_
  refine st_at hg ?_
  refine if_ (fun hx=>?_) fun hx=>?_
  ·have hx:x.ex=false:=by simpa using hx
   have hnx:nxG t q=some x.into:=by unfold nxG;rw[hg];simp[hx]
   refine st_at hg ?_
   cases rest with
   | nil=>rw[show nxG t q=none from h1]at hnx;cases hnx
   | cons r rest=>
    have hr:r=x.into:=by have:=h1.1;rw[hnx]at this;exact(Option.some.inj this).symm
    subst hr
    refine⟨by simp at h2;omega,x.into,rest,h1.2,by simp at h2;omega,?_,has ⟨rfl,rfl,trivial⟩ rfl⟩
    rw[h3,goN,hg,show t.length+1-(i+1)=k by omega]
    simp[hx]
  ·have hx:x.ex=true:=by simpa using hx
   refine st_at hg ?_
   exact frzi (by rw[h3,goN,hg];simp[hx])
noncomputable def c46:Code:=Tryz.f46.body.getD .skip
end Go.Proofs.YtpndfdfipkadkaaGreatDoor
