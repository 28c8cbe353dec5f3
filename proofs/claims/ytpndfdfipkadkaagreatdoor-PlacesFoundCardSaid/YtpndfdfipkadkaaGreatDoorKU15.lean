/- The law holds: part 347. Conditions: none. -/
import Derived.Test.YtpndfdfipkadkaaGreatDoorKU14
set_option linter.all false
set_option maxRecDepth 100000
namespace Go.Proofs.YtpndfdfipkadkaaGreatDoor
open Go Go.Wx Go.Ax
theorem all1{k b:Nat}(h:k≤b):[b].all (Nat.ble k)=true:=by simp[List.all,Nat.ble_eq_true_of_le h]
theorem pend_l{T:List (List Nat)}{i:Nat}{ms:List Nat}{pd:List (Nat × Option Nat)}(h:(pd.all fun q=>later T i q.1)=true:=by kernel_rfl):pendOk T i ms pd=true:=
 List.all_eq_true.2 fun q hq=>by rw[List.all_eq_true.1 h q hq,Bool.or_true]
theorem use_ex(name:ByteArray)(k day:Int)(H:Heap):Ex Pg 167 [ds' name,.v (.int .u8 k),di day] H (.agg [ds' name,.v (.int .u8 k),di day,di 100001]):=(use_c name k day).use (FrzL.refl (.cons (.v _) (.cons (.v _) (.cons (.v _) .nil))))
def own(k:Nat)(H:Heap):List Nat:=List.range' k (H.length-k)
theorem own_all{k k':Nat}{H:Heap}(h:k'≤k):(own k H).all (Nat.ble k')=true:=List.all_eq_true.2 fun b hb=>by
 have:=List.mem_range'_1.1 hb
 exact Nat.ble_eq_true_of_le (by omega)
theorem mup_at{H:Heap}{b:Nat}{ks:List Value}{ds:List D}{Q:List Value→List D→Prop}(h:H[b]? =some (.map ks ds))(k:Q ks ds):(match H[b]? with | some (.map ks ds)=>Q ks ds | _=>False):=by rw[h];exact k
theorem Lay.fin {H H1 H' : Heap} {k m i : Nat} {ps : List (Nat × Nat)} {t t' : List Pl} {p : Nat × Nat} {x x' : Pl} (h : Lay H1 k m ps t) (hold : ∀ b, b < k → H1[b]? = H[b]?) (hlen : H.length ≤ H1.length) (hp : ps[i]? = some p) (hx : t[i]? = some x) (ht : t' = t.set i x') (hid : x'.id = x.id)
    {us : List (List D)} {pl : List D} (h1 : H'[p.1]? = some (.arr 142 4 us)) (hB : us = x'.uses.map Use.enc) (h2 : H'[p.2]? = some (.arr 121 4 [pl])) (hC : pl = plM p.1 x') (ho : ∀ b, b ≠ p.1 → b ≠ p.2 → H'[b]? = H1[b]?) (hl : H'.length = H1.length) :
    (∃ ps', Lay H' k m ps' t') ∧ (∀ b, b < k → H'[b]? = H[b]?) ∧ H.length ≤ H'.length ∧ own k H = own k H := by
  subst ht
  have g1 := h.ge _ (layB_mem hp).1
  have g2 := h.ge _ (layB_mem hp).2
  exact ⟨⟨ps, h.upd hp hx hid (by rw [h1, hB]) (by rw [h2, hC]) fun b _ a c => ho b a c⟩, fun b hb => (ho b (by omega) (by omega)).trans (hold b hb), by omega, rfl⟩
theorem renL_len(l:List Use)(name:ByteArray)(day:Int):(renL l name day).length=l.length+1:=by simp[renL,setAt]
theorem plM_len(b:Nat)(x:Pl)(u:List Use)(n:Nat)(h:u.length=n):[db x.ex,di x.parent,di x.into,D.sl b 0 n n]=plM b {x with uses:=u}:=by subst h;rfl
theorem mput_new{key:Value}{v:D}{ks:List Value}{ds:List D}(h:kidx key ks=none):mput key v ks ds= .map (ks++[key]) (ds++[v]):=by unfold mput;rw[h]
theorem renL_enc {l : List Use} {name : ByteArray} {day : Int} {j : Nat} (hj : lastT l = j) (hjl : j < l.length) (hd : 0 ≤ day ∧ day ≤ 100000) :
    (l.map Use.enc).set (0 + (j : Int).toNat) (Use.enc { l[j] with til := if (100001 : Int) < IntKind.i64.wrap (day + 3650) then 100001 else IntKind.i64.wrap (day + 3650) }) ++ [Use.enc (newT name day)] = (renL l name day).map Use.enc := by
  have hw : IntKind.wrap .i64 (day + 3650) = day + 3650 := wadd (by omega) (by omega)
  have hmin : (if (100001 : Int) < day + 3650 then 100001 else day + 3650) = min (day + 3650) 100001 := by split <;> omega
  rw [hw, hmin, renL, List.map_append, hj]
  congr 1
  rw [show (0 + (j : Int).toNat) = j by simp]
  refine List.ext_getElem? fun n => ?_
  rw [List.getElem?_set, setAt, List.getElem?_map, List.getElem?_map, List.getElem?_mapIdx]
  by_cases hn : j = n
  · subst hn
    rw [if_pos rfl, if_pos (by simpa using hjl), List.getElem?_eq_getElem hjl]
    simp
  · rw [if_neg hn]
    cases l[n]? with
    | none => rfl
    | some u => simp [show ¬ ((n : Int) = j) by omega]
theorem map_at{H:Heap}{b:Nat}{ks:List Value}{ds:List D}{Q:List Value→List D→Prop}(h:H[b]? =some (.map ks ds))(k:Q ks ds):dmap H (.map b) fun ks ds _=>Q ks ds:=dmap_at h k
noncomputable def c98:Code:=Tryz.f98.body.getD .skip
def repP(e:Ev)(x:Pl):Pl:=if x.ex&&x.parent==e.place then{x with parent:=e.other}else x
def appP(s:List Pl)(e:Ev):List Pl:=
 if e.kind==1 then s++[foundP e]
 else if e.kind==2 then modP s e.place fun x=>{x with uses:=renL x.uses e.name e.day}
 else if e.kind==3 then modP s e.place fun x=>{x with parent:=e.other}
 else if e.kind==4 then
  modP ((modP (modP s e.other (mergeTo e ((get s e.place).elim [] (·.uses)))) e.place fun x=>{x with uses:=capT e.day x.uses}).map (repP e)) e.place fun x=>{x with ex:=false,parent:=0,into:=e.other}
 else if e.kind==5 then modP s e.place fun x=>{x with uses:=x.uses++[newA e.name e.day]}
 else s
def pl98:Plan:=[(4,[.p 0,.p 1,.l 2,.p 3,.l 4,.p 5,.l 6,.p 7,.l 8,.e 9,.e 10,.p 11,.e 12,.e 13]),(6,[.p 0,.p 1,.p 2,.l 3,.p 4,.p 5,.p 6,.l 7,.p 9,.l 10,.p 11,.p 12,.e 8,.p 13,.p 14,.e 15]),(7,[.p 0,.p 1,.p 2,.p 3,.l 4,.p 5,.l 6,.p 7,.l 8,.e 9,.e 10,.e 11,.p 12,.p 13,.e 14]),(11,[.p 0,.p 1,.p 2,.p 3,.l 4,.p 5,.l 6,.p 7,.l 8,.e 9,.e 10,.e 11,.p 12,.p 13,.e 14])]
def ChP(f:FuncId)(t t':List Pl)(e:Ev):Prop:=∀{H:Heap} {k m:Nat} {ps:List (Nat × Nat)},Lay H k m ps t→k≤H.length→AC Pg f [.map m,.agg e.enc] H fun _ H' ms=>(∃ps',Lay H' k m ps' t')∧(∀b,b<k→H'[b]? =H[b]?)∧H.length≤H'.length∧ms=own k H
theorem apply_c(t:List Pl)(e:Ev)(hf:EvFits t e)(hu:∀x∈t,x.uses.length≤300000)(hd:0≤e.day∧e.day≤100000)(hl:e.kind=2→∀x,get t e.place=some x→0≤lastT x.uses)(hm:e.kind=4→ChP 168 t (appP t e) e):ChP 98 t (appP t e) e:=by
 intro H k m ps hL hk
 refine AC_fn Tryz.func98 rfl rfl rfl (own k H) (Nat.ble k) (fun b h h2=>List.mem_range'_1.2 (by have:=Nat.le_of_ble_eq_true h2;omega)) (AW_rest (c':=restC 0 c98) ?_)
 refine goC 1 [] pl98 ?_
 have hL1:Lay (H++[.arr 23 5 [e.enc]]) k m ps t:=hL.app _
 have hE:(H++[AO.arr 23 5 [e.enc]])[H.length]? =some (.arr 23 5 [e.enc]):=by simp
 cases hg:get t e.place with
 | none=>
  have hk1:e.kind=1:=Classical.byContradiction fun h=>by
   have:=hf.old h
   rw[hereB_none hg]at this;cases this
  obtain⟨hmg,hki⟩:=hL1.no hg
  have hmk:k≤m:=hL.ge m (by simp[layB])
  have hml:m<H.length:=hL.lt m (by simp[layB])
  refine go [23] pl98 ?_
  repeat ((conv=>whnf);(first | refine datarr_at hE ?_ | refine map_at hL1.map ?_))
  refine⟨keys_st _ _,mlk_none hmg ?_⟩
  repeat ((conv=>whnf);(refine datarr_at hE ?_))
  refine ift (by simpa using hk1) ?_
  repeat ((conv=>whnf);(refine datarr_at hE ?_))
  refine(use_ex e.name 1 e.day _).call ?_
  repeat ((conv=>whnf);(first | refine datarr_at hE ?_))
  conv=>whnf
  refine mup_at (((List.getElem?_append_left (by simp;omega)).trans (List.getElem?_append_left (by simp;omega))).trans hL1.map) ?_
  refine⟨keys_st _ _,?_⟩
  conv=>whnf
  refine ck (and_t (all1 hmk) pend_l) ?_
  conv=>whnf
  refine⟨⟨ps++[((H++[AO.arr 23 5 [e.enc]]).length,(H++[AO.arr 23 5 [e.enc]]++[AO.arr 142 4 [Use.enc (newT e.name e.day)]]).length)],?_⟩,fun b hb=>?_,?_,rfl⟩
  ·rw[show appP t e=t++[foundP e] by simp[appP,hk1]]
   refine hL1.push ?_ ?_ ?_ ?_ ?_
   ·exact(List.getElem?_set_self (by simp;omega)).trans (congrArg some (mput_new hki))
   ·exact(List.getElem?_set_ne (by simp;omega)).trans ((List.getElem?_append_left (by simp)).trans List.getElem?_concat_length)
   ·exact(List.getElem?_set_ne (by simp;omega)).trans List.getElem?_concat_length
   ·have:=hL.lt
    refine⟨fun h=>?_,fun h=>?_,by simp,by simp;omega,by simp;omega⟩
    ·have:=hL.lt _ h;simp at this;omega
    ·have:=hL.lt _ h;simp at this;omega
   ·intro b hb h
    have:=hL.lt b hb
    exact(List.getElem?_set_ne (Ne.symm h)).trans ((List.getElem?_append_left (by simp;omega)).trans (List.getElem?_append_left (by simp;omega)))
  ·exact(List.getElem?_set_ne (by omega)).trans ((List.getElem?_append_left (by simp;omega)).trans ((List.getElem?_append_left (by simp;omega)).trans (List.getElem?_append_left (by omega))))
  ·show H.length≤(List.set _ _ _).length
   simp
 | some x=>
  obtain⟨i,p,hp,hx,hmod,hmg⟩:=hL1.get hg
  have hU:=hL1.uses i p x hp hx
  have hP:=hL1.plc i p x hp hx
  have hlast:Ex Pg 109 [.sl p.1 0 x.uses.length x.uses.length] (H++[.arr 23 5 [e.enc]]) (di (lastT x.uses)):=(lastTrue_c x.uses).borrow (.v _) (.cons (frzK_rows hU rfl rfl pdUse (fun _=>rfl) (Nat.zero_le _)) .nil)
  have hk1:k≤p.1:=hL1.ge _ (layB_mem hp).1
  have hk2:k≤p.2:=hL1.ge _ (layB_mem hp).2
  have hne:=(hL1.ne hp).1
  have hl1:=hL.lt _ (layB_mem hp).1
  have hl2:=hL.lt _ (layB_mem hp).2
  have hP2:∀{o:AO},((H++[AO.arr 23 5 [e.enc]]).set p.1 o)[p.2]? =some (.arr 121 4 [plM p.1 x]):=fun{o}=>(List.getElem?_set_ne hne).trans hP
  have hE2:∀{o:AO},((H++[AO.arr 23 5 [e.enc]]).set p.1 o)[H.length]? =some (.arr 23 5 [e.enc]):=fun{o}=>(List.getElem?_set_ne (by omega)).trans hE
  have hl1':p.1<(H++[AO.arr 23 5 [e.enc]]).length:=by simp;omega
  have hxu:=hu x (List.mem_of_getElem? hx)
  have hl2':p.2<(H++[AO.arr 23 5 [e.enc]]).length:=by simp;omega
  have hold:∀b,b<k→(H++[AO.arr 23 5 [e.enc]])[b]? =H[b]? :=fun b hb=>List.getElem?_append_left (by omega)
  have ht:e.kind=2→∃j:Nat,lastT x.uses=j∧j<x.uses.length:=fun h=>by
   have h1:=hl h x hg
   have h2:=lastT_lt x.uses
   obtain⟨j,hj⟩:=Int.eq_ofNat_of_zero_le h1
   exact⟨j,hj,by omega⟩
  refine go [] pl98 ?_
  repeat ((conv=>whnf);(first | refine datarr_at hE ?_ | refine map_at hL1.map ?_))
  refine⟨keys_st _ _,mlk_some hmg ?_⟩
  repeat ((conv=>whnf);(refine datarr_at hE ?_))
  refine if_ (fun k1=>?_) fun k1=>if_ (fun k2=>?_) fun k2=>if_ (fun k3=>?_) fun k3=>if_ (fun k5=>?_) fun k5=>if_ (fun k4=>?_) fun k4=>?_
  ·exact absurd (hf.new (by simpa using k1)) (by rw[hg];simp)
  ·repeat ((conv=>whnf);(first | refine datarr_at hE ?_ | refine datarr_at hP ?_ | refine datarr_at hU ?_))
   refine hlast.call ?_
   obtain⟨j,hj,hjl⟩:=ht (by simpa using k2)
   rw[hj]
   conv=>whnf
   repeat ((conv=>whnf);(first | refine datarr_at hE ?_ | refine datarr_at hP ?_ | refine datarr_at hU ?_))
   refine ck (and_t (by simp) rfl) ?_
   refine ixl_any (by simpa using hjl) hjl ?_
   repeat ((conv=>whnf);(first | refine datarr_at hE ?_ | refine datarr_at hP ?_ | refine datarr_at hU ?_ | refine ck (beq_len (by simp)) ?_ | refine nth_at hjl ?_))
   conv=>whnf
   refine ck (and_t (all1 hk1) pend_l) ?_
   repeat ((conv=>whnf);(first | refine datarr_at hP2 ?_ | refine datarr_at hE2 ?_))
   refine(use_ex e.name 1 e.day _).call ?_
   repeat ((conv=>whnf);(first | refine datarr_at (List.getElem?_set_self hl1') ?_))
   refine push (by simp) (by omega) ?_
   conv=>whnf
   refine ck (and_t (all1 hk1) pend_l) ?_
   repeat ((conv=>whnf);(refine datarr_at ((List.getElem?_set_ne hne).trans hP2) ?_))
   conv=>whnf
   refine ck (and_t (all1 hk2) pend_l) ?_
   conv=>whnf
   refine hL1.fin (i:=i) (x:=x) (x':={x with uses:=renL x.uses e.name e.day}) hold (by simp) hp hx (by simp[appP,k1,k2,hmod]) rfl
    ((List.getElem?_set_ne hne.symm).trans (List.getElem?_set_self (by simpa using hl1'))) (renL_enc hj hjl hd) (List.getElem?_set_self (by simpa using hl2')) (plM_len p.1 x (renL x.uses e.name e.day) (x.uses.length+1) (renL_len _ _ _))
    (fun b h1 h2=>(List.getElem?_set_ne h2.symm).trans ((List.getElem?_set_ne h1.symm).trans (List.getElem?_set_ne h1.symm))) (by simp)
  ·repeat ((conv=>whnf);(first | refine datarr_at hE ?_ | refine datarr_at hP ?_))
   conv=>whnf
   refine ck (all1 hk2) ?_
   conv=>whnf
   exact hL1.fin (i:=i) (x:=x) (x':={x with parent:=e.other}) hold (by simp) hp hx (by simp[appP,k1,k2,k3,hmod]) rfl
    ((List.getElem?_set_ne hne.symm).trans hU) rfl (List.getElem?_set_self (by simpa using hl2')) rfl
    (fun b h1 h2=>List.getElem?_set_ne h2.symm) (by simp)
  ·repeat ((conv=>whnf);(first | refine datarr_at hE ?_ | refine datarr_at hP ?_))
   refine(use_ex e.name 2 e.day _).call ?_
   repeat ((conv=>whnf);(first | refine datarr_at hE ?_ | refine datarr_at hP ?_ | refine datarr_at hU ?_))
   refine push (by simp) (by omega) ?_
   conv=>whnf
   refine ck (and_t (all1 hk1) pend_l) ?_
   repeat ((conv=>whnf);(refine datarr_at hP2 ?_))
   conv=>whnf
   refine ck (and_t (all1 hk2) pend_l) ?_
   conv=>whnf
   exact hL1.fin (i:=i) (x:=x) (x':={x with uses:=x.uses++[newA e.name e.day]}) hold (by simp) hp hx (by simp[appP,k1,k2,k3,show(e.kind==4)=false by simp at k5;simp[k5],k5,hmod]) rfl
    ((List.getElem?_set_ne hne.symm).trans (List.getElem?_set_self (by simpa using hl1'))) (by rw[List.map_append];rfl) (List.getElem?_set_self (by simpa using hl2')) (plM_len p.1 x (x.uses++[newA e.name e.day]) (x.uses.length+1) (by simp))
    (fun b h1 h2=>(List.getElem?_set_ne h2.symm).trans (List.getElem?_set_ne h1.symm)) (by simp)
  ·repeat ((conv=>whnf);(first | refine datarr_at hE ?_))
   refine AC.mono (hm (by simpa using k4) hL1 (by simp;omega)) ?_
   rintro d H' ms ⟨h1,h2,h3,rfl⟩
   refine ck (own_all (Nat.le_refl _)) ?_
   refine force_to ?_
   exact⟨h1,fun b hb=>(h2 b hb).trans (hold b hb),Nat.le_trans (by simp) h3,rfl⟩
  ·exact⟨⟨ps,by rw[show appP t e=t by simp[appP,k1,k2,k3,k4,k5]];exact hL1⟩,hold,by simp,rfl⟩
end Go.Proofs.YtpndfdfipkadkaaGreatDoor
