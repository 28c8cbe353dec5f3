/- The law holds: part 349. Conditions: none. -/
import Derived.Test.YtpndfdfipkadkaaGreatDoorKU16
set_option linter.all false
set_option maxRecDepth 100000
namespace Go.Proofs.YtpndfdfipkadkaaGreatDoor
open Go Go.Wx Go.Ax
def nrm(p:Pl):Pl:=if p.ex then p else{p with parent:=0}
theorem nrm_id(p:Pl):(nrm p).id=p.id:=by unfold nrm;split<;>rfl
theorem nrm_ex(p:Pl):(nrm p).ex=p.ex:=by unfold nrm;split<;>rfl
theorem nrm_uses(p:Pl):(nrm p).uses=p.uses:=by unfold nrm;split<;>rfl
theorem nrm_into(p:Pl):(nrm p).into=p.into:=by unfold nrm;split<;>rfl
theorem nrm_here{p:Pl}(h:p.ex=true):nrm p=p:=by unfold nrm;rw[if_pos h]
theorem nrm_gone{p:Pl}(h:p.ex=false):nrm p={p with parent:=0}:=by unfold nrm;rw[h];rfl
def prg(s:List Pl):List Pl:=s.map nrm
theorem prg_len(s:List Pl):(prg s).length=s.length:=by simp[prg]
theorem get_prg(s:List Pl)(q:Int):get (prg s) q=(get s q).map nrm:=get_map nrm_id
theorem here_prg(s:List Pl)(q:Int):hereB (prg s) q=hereB s q:=by
 unfold hereB
 rw[get_prg]
 cases get s q with
 | none=>rfl
 | some x=>exact nrm_ex x
theorem par_prg(s:List Pl)(q:Int):parI (prg s) q=parI s q:=by
 unfold parI
 rw[get_prg]
 cases get s q with
 | none=>rfl
 | some x=>
  show(if(nrm x).ex then(nrm x).parent else 0)=if x.ex then x.parent else 0
  rw[nrm_ex]
  split
  ·rename_i h
   rw[nrm_here h]
  ·rfl
theorem pthN_prg(s:List Pl):∀(n:Nat) (q:Int),pthN (prg s) n q=pthN s n q
 | 0,_=>rfl
 | n+1,q=>by rw[pthN,pthN,par_prg,pthN_prg s n]
theorem pth_prg(s:List Pl)(q:Int):pth (prg s) q=pth s q:=by rw[pth,pth,pthN_prg,prg_len]
theorem cont_prg(s:List Pl)(a b:Int):cont (prg s) a b=cont s a b:=by unfold cont contB;rw[here_prg,here_prg,pth_prg]
theorem none_prg(s:List Pl)(q:Int):(get (prg s) q).isNone=(get s q).isNone:=by rw[get_prg];cases get s q<;>rfl
theorem some_prg(s:List Pl)(q:Int):(get (prg s) q).isSome=(get s q).isSome:=by rw[get_prg];cases get s q<;>rfl
theorem founded_prg(s:List Pl)(e:Ev):foundedL (prg s) e=foundedL s e:=by simp only[foundedL,none_prg,some_prg,here_prg]
theorem refL_prg(s:List Pl)(e:Ev):refL (prg s) e=refL s e:=by simp only[refL,founded_prg,cont_prg]
theorem usesOf_prg(s:List Pl)(q:Int):usesOf (prg s) q=usesOf s q:=by
 unfold usesOf
 rw[get_prg]
 cases get s q with
 | none=>rfl
 | some x=>exact nrm_uses x
theorem twice_prg(s:List Pl)(e:Ev):twiceB (prg s) e=twiceB s e:=by simp only[twiceB,usesOf_prg]
theorem path_prg{s:List Pl}:∀{l:List Int} {q:Int},IsPath (prg s) q l↔IsPath s q l
 |[],q=>by simp only[IsPath,par_prg]
 | r::l,q=>by simp only[IsPath,par_prg,path_prg]
theorem deep_prg(s:List Pl):deepB (prg s)=deepB s:=by
 unfold deepB
 rw[show(prg s).any _=s.any _ from List.any_map]
 congr 1
 funext x
 simp only[Function.comp,nrm_ex,nrm_id,pth_prg]
theorem long_prg(s:List Pl):longB (prg s)=longB s:=by
 unfold longB
 rw[show(prg s).any _=s.any _ from List.any_map]
 congr 1
 funext x
 simp only[Function.comp,nrm_uses]
theorem Inv0.zero{s:List Pl}(h:Inv0 s):hereB s 0=false:=by
 cases hb:hereB s 0 with
 | false=>rfl
 | true=>
  have h1:=here_mem hb
  obtain⟨x,hx,he⟩:=List.mem_map.1 h1
  have:=h.pos x hx
  omega
theorem Inv0.st{s:List Pl}(h:Inv0 s)(hl:s.length≤100000):StOk (prg s) where
 par:=fun p hp=>by rw[par_prg]at hp ⊢;rw[here_prg];exact h.par p hp
 zero:=by rw[here_prg];exact h.zero
 fin:=fun p=>by
  obtain⟨l,hl⟩:=h.fin p
  exact⟨l,path_prg.2 hl⟩
 len:=by rw[prg_len];exact hl
theorem modP_prg{s:List Pl}{p:Int}{f f':Pl→Pl}(h:∀x,get s p=some x→nrm (f x)=f' (nrm x)):prg (modP s p f)=modP (prg s) p f':=by
 induction s with
 | nil=>rfl
 | cons x s ih=>
  show prg (if x.id==p then f x::s else x::modP s p f)=if(nrm x).id==p then f' (nrm x)::prg s else nrm x::modP (prg s) p f'
  rw[nrm_id]
  by_cases hx:x.id==p
  ·rw[if_pos hx,if_pos hx]
   have:get (x::s) p=some x:=by unfold get;rw[List.find?_cons,hx]
   show nrm (f x)::prg s=_
   rw[h x this]
  ·rw[if_neg hx,if_neg hx]
   have hg:get (x::s) p=get s p:=by unfold get;rw[List.find?_cons];simp[hx]
   show nrm x::prg (modP s p f)=_
   rw[ih fun y hy=>h y (hg.trans hy)]
theorem app4 {t : List Pl} {e : Ev} {x y : Pl} {i j : Nat} (h4 : e.kind = 4) (hx : get t e.place = some x) (hi : idx (fun x : Pl => x.id == e.place) t = i) (hxi : t[i]? = some x) (hj : idx (fun x : Pl => x.id == e.other) t = j) (hyj : t[j]? = some y) (hij : i ≠ j) :
    appP t e = (((t.set j { y with uses := mergedL y.uses x.uses e.day }).set i { x with uses := capT e.day x.uses }).map (repP e)).set i { repP e { x with uses := capT e.day x.uses } with ex := false, parent := 0, into := e.other } := by
  have e1 : modP t e.other (mergeTo e ((get t e.place).elim [] (·.uses))) = t.set j { y with uses := mergedL y.uses x.uses e.day } := by
    rw [modP_same hj rfl hyj, hx]; rfl
  have i1 : (t.set j { y with uses := mergedL y.uses x.uses e.day }).map (·.id) = t.map (·.id) := set_ids hyj rfl
  have x1 : (t.set j { y with uses := mergedL y.uses x.uses e.day })[i]? = some x := by rw [List.getElem?_set_ne (Ne.symm hij)]; exact hxi
  have e2 := modP_same hi i1 x1 fun x => { x with uses := capT e.day x.uses }
  have i2 := (set_ids x1 (x' := { x with uses := capT e.day x.uses }) rfl).trans i1
  have x2 : ((t.set j { y with uses := mergedL y.uses x.uses e.day }).set i { x with uses := capT e.day x.uses })[i]? = some { x with uses := capT e.day x.uses } := List.getElem?_set_self (List.getElem?_eq_some_iff.1 x1).1
  have i3 : (((t.set j { y with uses := mergedL y.uses x.uses e.day }).set i { x with uses := capT e.day x.uses }).map (repP e)).map (·.id) = t.map (·.id) := by
    rw [← i2, List.map_map]
    exact List.map_congr_left fun z _ => repP_id e z
  have x3 : (((t.set j { y with uses := mergedL y.uses x.uses e.day }).set i { x with uses := capT e.day x.uses }).map (repP e))[i]? = some (repP e { x with uses := capT e.day x.uses }) := by rw [List.getElem?_map, x2]; rfl
  have e3 := modP_same hi i3 x3 fun x => { x with ex := false, parent := 0, into := e.other }
  have : appP t e = modP ((modP (modP t e.other (mergeTo e ((get t e.place).elim [] (·.uses)))) e.place fun x => { x with uses := capT e.day x.uses }).map (repP e)) e.place fun x => { x with ex := false, parent := 0, into := e.other } := by
    simp [appP, h4]
  rw [this, e1, e2, e3]
theorem after4 {s : List Pl} {e : Ev} {x y : Pl} {i j : Nat} (h4 : e.kind = 4) (hx : get s e.place = some x) (hi : idx (fun x : Pl => x.id == e.place) s = i) (hxi : s[i]? = some x) (hj : idx (fun x : Pl => x.id == e.other) s = j) (hyj : s[j]? = some y) (hij : i ≠ j) :
    afterL s e = ((s.set j { y with uses := mergedL y.uses x.uses e.day }).set i (mergeFrom e x)).map (reParent e) := by
  have e1 : modP s e.other (mergeTo e ((get s e.place).elim [] (·.uses))) = s.set j { y with uses := mergedL y.uses x.uses e.day } := by
    rw [modP_same hj rfl hyj, hx]; rfl
  have i1 : (s.set j { y with uses := mergedL y.uses x.uses e.day }).map (·.id) = s.map (·.id) := set_ids hyj rfl
  have x1 : (s.set j { y with uses := mergedL y.uses x.uses e.day })[i]? = some x := by rw [List.getElem?_set_ne (Ne.symm hij)]; exact hxi
  rw [afterL_merge h4, e1, modP_same hi i1 x1]
theorem app_prg{s:List Pl}{e:Ev}(hf:EvFits s e)(ho:e.kind=4→e.other≠0∧e.other≠e.place):appP (prg s) e=prg (afterL s e):=by
 by_cases k1:e.kind=1
 ·simp[appP,afterL,k1,prg,nrm_here (p:=foundP e) rfl]
 by_cases k2:e.kind=2
 ·rw[show appP (prg s) e=modP (prg s) e.place fun x=>{x with uses:=renL x.uses e.name e.day} by simp[appP,k2],show afterL s e=modP s e.place fun x=>{x with uses:=renL x.uses e.name e.day} by simp[afterL,k2]]
  refine(modP_prg fun x _=>?_).symm
  unfold nrm
  show(if x.ex then _ else _)=_
  split<;>rfl
 by_cases k3:e.kind=3
 ·rw[show appP (prg s) e=modP (prg s) e.place fun x=>{x with parent:=e.other} by simp[appP,k3],show afterL s e=modP s e.place fun x=>{x with parent:=e.other} by simp[afterL,k3]]
  refine(modP_prg fun x hx=>?_).symm
  have h1:=hf.old k1
  rw[hereB_get hx]at h1
  unfold nrm
  show(if x.ex then _ else _)=_
  rw[if_pos h1,if_pos h1]
 by_cases k4:e.kind=4
 ·obtain⟨x,hx,hxe⟩:=hereB_iff.1 (hf.old k1)
  obtain⟨y,hy,hye⟩:=hereB_iff.1 (hf.oth (ho k4).1)
  obtain⟨i,hi1,hi,hi2⟩:=(get_idx (s:=s) (p:=e.place)).resolve_left fun h=>by rw[hx]at h;exact nomatch h.2
  obtain⟨j,hj1,hj,hj2⟩:=(get_idx (s:=s) (p:=e.other)).resolve_left fun h=>by rw[hy]at h;exact nomatch h.2
  have hxi:s[i]? =some x:=by rw[List.getElem?_eq_getElem hi,←hi2,hx]
  have hyj:s[j]? =some y:=by rw[List.getElem?_eq_getElem hj,←hj2,hy]
  have hij:i≠j:=fun h=>by
   subst h
   rw[hxi]at hyj;cases hyj
   exact(ho k4).2 ((get_mem hy).2.symm.trans (get_mem hx).2)
  have hids:(prg s).map (·.id)=s.map (·.id):=by
   unfold prg
   rw[List.map_map]
   exact List.map_congr_left fun z _=>nrm_id z
  have hxn:nrm x=x:=nrm_here hxe
  have hyn:nrm y=y:=nrm_here hye
  have hxi2:(prg s)[i]? =some x:=by unfold prg;rw[List.getElem?_map,hxi];exact congrArg some hxn
  have hyj2:(prg s)[j]? =some y:=by unfold prg;rw[List.getElem?_map,hyj];exact congrArg some hyn
  rw[app4 k4 (by rw[get_prg,hx];exact congrArg some hxn) ((idx_ids hids _).trans hi1) hxi2 ((idx_ids hids _).trans hj1) hyj2 hij,after4 k4 hx hi1 hxi hj1 hyj hij]
  refine List.ext_getElem? fun n=>?_
  unfold prg
  rw[List.getElem?_map,List.getElem?_map,List.getElem?_set]
  by_cases hn:i=n
  ·subst hn
   rw[if_pos rfl,if_pos (by simpa using hi),List.getElem?_set_self (by simpa using hi)]
   refine congrArg some ?_
   have hex:(reParent e (mergeFrom e x)).ex=false:=by unfold reParent;split<;>rfl
   show _=nrm (reParent e (mergeFrom e x))
   rw[nrm_gone hex]
   unfold reParent repP mergeFrom
   split<;>split<;>rfl
  ·rw[if_neg hn,List.getElem?_map,List.getElem?_set_ne hn,List.getElem?_set_ne hn]
   by_cases hm:j=n
   ·subst hm
    rw[List.getElem?_set_self (by simpa using hj),List.getElem?_set_self hj]
    refine congrArg some ?_
    have hex:(reParent e {y with uses:=mergedL y.uses x.uses e.day}).ex=true:=by unfold reParent;split<;>exact hye
    rw[nrm_here hex]
    unfold reParent repP
    show(if y.ex&&y.parent==e.place then _ else _)=if y.parent==e.place then _ else _
    rw[hye]
    simp
   ·rw[List.getElem?_set_ne hm,List.getElem?_set_ne hm,List.getElem?_map]
    cases hz:s[n]? with
    | none=>rfl
    | some z=>
     refine congrArg some ?_
     cases hze:z.ex with
     | true=>
      have hex:(reParent e z).ex=true:=by unfold reParent;split<;>exact hze
      rw[nrm_here hze,nrm_here hex]
      unfold reParent repP
      rw[hze]
      simp
     | false=>
      have hex:(reParent e z).ex=false:=by unfold reParent;split<;>exact hze
      have hrp:repP e {z with parent:=0}={z with parent:=0}:=by
       unfold repP
       show(if z.ex&&_ then _ else _)=_
       rw[hze];rfl
      rw[nrm_gone hze,nrm_gone hex,hrp]
      unfold reParent
      split<;>rfl
 by_cases k5:e.kind=5
 ·rw[show appP (prg s) e=modP (prg s) e.place fun x=>{x with uses:=x.uses++[newA e.name e.day]} by simp[appP,k5],show afterL s e=modP s e.place fun x=>{x with uses:=x.uses++[newA e.name e.day]} by simp[afterL,k5]]
  refine(modP_prg fun x _=>?_).symm
  unfold nrm
  show(if x.ex then _ else _)=_
  split<;>rfl
 ·simp[appP,afterL,k1,k2,k3,k4,k5]
end Go.Proofs.YtpndfdfipkadkaaGreatDoor
set_option maxRecDepth 100000
namespace Go.Proofs.YtpndfdfipkadkaaGreatDoor
open Go Go.Wx Go.Ax
theorem on1_c(i:Int)(e:Ev)(day:Int):Pur Pg 161 [di i,.agg e.enc,.fp [di day]] (db (decide (e.day≤day))):=by
 refine fn Tryz.func161 [] [] (.cons (.v _) (.cons (.agg (pdEv e)) (.cons (.fp (PdL.one (.v _))) .nil))) ?_
 exact frzb rfl
theorem all1_c(i:Int)(e:Ev):Pur Pg 163 [di i,.agg e.enc] (db true):=by
 refine fn Tryz.func163 [] [] (.cons (.v _) (.cons (.agg (pdEv e)) .nil)) ?_
 exact frzb rfl
theorem takeW_end{w:Ev→Bool}:∀{l:List Ev} {c:Nat} (h:c<l.length),(∀e∈l.take c,w e=true)→w l[c]=false→l.takeWhile w=l.take c
 | x::l,0,_,_,h=>by simp at h;simp[h]
 | x::l,c+1,hc,h1,h2=>by
  have hx:w x=true:=h1 x (by simp)
  rw[List.takeWhile_cons,if_pos hx,List.take_succ_cons,takeW_end (by simpa using hc) (fun e he=>h1 e (by simp[he])) (by simpa using h2)]
theorem takeW_all{w:Ev→Bool}{l:List Ev}(h:∀e∈l,w e=true):l.takeWhile w=l:=by
 induction l with
 | nil=>rfl
 | cons x l ih=>rw[List.takeWhile_cons,if_pos (h x (by simp)),ih fun e he=>h e (by simp[he])]
theorem take_all{w:Ev→Bool}{l:List Ev}{c:Nat}(hc:c<l.length)(h:∀e∈l.take c,w e=true)(h2:w l[c]=true):∀e∈l.take (c+1),w e=true:=fun e he=>by
 rw[List.take_succ_eq_append_getElem hc,List.mem_append,List.mem_singleton]at he
 rcases he with he | rfl
 ·exact h e he
 ·exact h2
theorem fits_prg{s:List Pl}{e:Ev}(h:EvFits s e):EvFits (prg s) e:=
 ⟨fun k=>by rw[get_prg,h.new k];rfl,fun k=>by rw[here_prg];exact h.old k,fun k=>by rw[here_prg];exact h.oth k⟩
theorem applyL_c{l:List Ev}{e:Ev}(ha:Acc l)(ht:Takes (stL l) e):ChP 98 (prg (stL l)) (prg (afterL (stL l) e)) e:=by
 have hi:=ha.ok.inv
 have ho:e.kind=4→e.other≠0∧e.other≠e.place:=fun h4=>by
  have:=ht.form.o4 h4
  exact⟨by omega,this.2⟩
 have hf:=fits_prg ht.fits
 have hu:∀x∈prg (stL l),x.uses.length≤300000:=fun x hx=>by
  obtain⟨y,hy,rfl⟩:=List.mem_map.1 hx
  rw[nrm_uses]
  have:=hi.few y hy
  omega
 rw[←app_prg ht.fits ho]
 intro H k m ps hL hk
 refine apply_c _ e hf hu ⟨ht.form.day0,ht.form.day1⟩ (fun _ x hx=>?_) (fun h4=>?_) hL hk
 ·rw[get_prg,Option.map_eq_some_iff]at hx
  obtain⟨y,hy,rfl⟩:=hx
  rw[nrm_uses]
  exact hi.tru y (get_mem hy).1
 ·obtain⟨x,hx,_⟩:=hereB_iff.1 (hf.old (by omega))
  obtain⟨y,hy,_⟩:=hereB_iff.1 (hf.oth (ho h4).1)
  intro H k m ps hL hk
  exact merge_c _ e h4 (ho h4).2 hx hy hu hL hk
theorem replay_c (l : List Ev) (w : Ev → Bool) (f g : D) (H : Heap) (ha : Acc l) (hg : g = .fp [rows Ev.enc l] ∧ H = [])
    (hf : (∃ day, f = .clo 161 [.fp [di day]] ∧ w = fun e => decide (e.day ≤ day)) ∨ f = .v (.func (.func 163) ⟨[]⟩ ⟨[]⟩) ∧ w = fun _ => true) :
    AC Pg 160 [g, f] H fun d H' ms => (∃ ps, d = .map H.length ∧ Lay H' H.length H.length ps (prg (stL (l.takeWhile w)))) ∧ (∀ b, b < H.length → H'[b]? = H[b]?) ∧ H.length ≤ H'.length ∧ ms = [] := by
  have hl := ha.ok.len
  have taken : ∀ {c : Nat} (hc : c < l.length), Takes (stL (l.take c)) l[c] := fun {c} hc => by
    have h1 := Takes.of (addE_zero (ha.at hc))
    rw [all_days (ha.pre c).ok.form] at h1
    exact h1
  have hll : (l.map Ev.enc).length = l.length := by simp
  obtain ⟨rfl, rfl⟩ := hg
  rcases hf with ⟨day, rfl, hwd⟩ | ⟨rfl, hwd⟩
  all_goals
    refine AC_fn Tryz.func160 rfl rfl rfl [] (Nat.ble (List.length _)) (fun b h h2 => absurd (Nat.le_of_ble_eq_true h2) (Nat.not_le_of_lt h)) (go [] [] ?_)
    conv => whnf
    refine AW_idx l.length (fun c st => ∃ H' ps, (∀ e ∈ l.take c, w e = true) ∧ Lay H' 0 0 ps (prg (stL (l.take c))) ∧ Has [(1, _), (5, .map 0), (12, rows Ev.enc l), (13, di l.length), (14, di c)] H' st)
      ⟨[.map [] []], [], by simp, ⟨rfl, rfl, fun i p x h => (by simp at h), fun i p x h => (by simp at h), by simp [layB], fun b _ => Nat.zero_le b⟩, has ⟨rfl, rfl, rfl, by simp [rows, dlen]; rfl, rfl, trivial⟩ rfl⟩ ?_
    rintro c _ hc ⟨H', ps, hw, hL, e0, rfl⟩
    refine go [] [] (if_ (fun hlt => ?_) (fun hlt => ?_))
    · simp at hlt
      refine row_at hlt ?_
      have hN : ∀ {o : AO}, (H' ++ [o])[H'.length]? = some o := List.getElem?_concat_length
      have hN2 : ∀ {o o' : AO}, ((H' ++ [o]).set H'.length o')[H'.length]? = some o' := fun {o o'} => List.getElem?_set_self (by simp)
      have hm0 := hL.lt 0 (by simp [layB])
      repeat ((conv => whnf); (first | refine datarr_at hN2 ?_ | refine datarr_at hN ?_ | refine ck (all1 (Nat.zero_le _)) ?_))
      refine Ex.call (x := db (w l[c])) (by rw [hwd]; first | exact on1_c _ _ _ _ | exact all1_c _ _ _) ?_
      have hM : ∀ {o o' : AO}, Lay ((H' ++ [o]).set H'.length o') 0 0 ps (prg (stL (l.take c))) := fun {o o'} => (hL.app _).ext fun b hb => List.getElem?_set_ne (by have := hL.lt b hb; omega)
      cases hwc : w l[c] with
      | false =>
        refine ⟨⟨ps, rfl, ?_⟩, fun b hb => absurd hb (Nat.not_lt_zero b), Nat.zero_le _, rfl⟩
        rw [takeW_end hlt hw hwc]
        exact hM
      | true =>
        repeat ((conv => whnf); (first | refine datarr_at hN2 ?_))
        refine AC.mono (applyL_c (ha.pre c) (taken hlt) hM (Nat.zero_le _)) ?_
        rintro d H2 ms ⟨⟨ps2, h1⟩, h2, h3, rfl⟩
        refine ck (own_all (Nat.zero_le _)) ?_
        refine force_to ?_
        exact ⟨hlt, H2, ps2, take_all hlt hw hwc, by rw [List.take_succ_eq_append_getElem hlt, stL_snoc]; exact h1, has ⟨rfl, rfl, rfl, rfl, inc hlt (by simp only [maxLen]; omega), trivial⟩ rfl⟩
    · simp at hlt
      have hcl : c = l.length := by omega
      subst hcl
      rw [List.take_length] at hw hL
      refine ⟨⟨ps, rfl, ?_⟩, fun b hb => absurd hb (Nat.not_lt_zero b), Nat.zero_le _, rfl⟩
      rw [takeW_all hw]
      exact hL
theorem lay_frz{H:Heap}{k k0 m:Nat}{ps:List (Nat × Nat)}{t:List Pl}(h:Lay H k m ps t)(hk:k0≤k):FrzK k0 H (.map m) (stD t):=by
 have hge:=h.ge
 refine .map h.map (by simp[stV,layP,h.len]) (fun j d d' h1 h2=>?_) (by have:=hge m (by simp[layB]);omega)
 rw[layP,List.getElem?_map,Option.map_eq_some_iff]at h1
 rw[stV,List.getElem?_map,Option.map_eq_some_iff]at h2
 obtain⟨p,hp,rfl⟩:=h1
 obtain⟨x,hx,rfl⟩:=h2
 refine .fp (h.plc j p x hp hx) rfl (fun i d d' g1 g2=>?_) (by have:=hge _ (layB_mem hp).2;omega)
 match i,g1,g2 with
 | 0,g1,g2=>cases g1;cases g2;exact .pd (.v _)
 | 1,g1,g2=>cases g1;cases g2;exact .pd (.v _)
 | 2,g1,g2=>cases g1;cases g2;exact .pd (.v _)
 | 3,g1,g2=>cases g1;cases g2;exact frzK_rows (h.uses j p x hp hx) rfl rfl pdUse (fun _=>rfl) (by have:=hge _ (layB_mem hp).1;omega)
 | n+4,g1,_=>simp[plM]at g1
theorem takeW_filter{l:List Ev}(h:Sorted l)(d:Int):l.takeWhile (fun e=>decide (e.day≤d))=l.filter fun e=>decide (e.day≤d):=by
 obtain⟨k,hk,h2,h3,h4⟩:=filter_take h d
 rw[h2]
 by_cases hl:k<l.length
 ·refine takeW_end hl (fun e he=>by simpa using h3 e he) ?_
  have:=h4 l[k] (by rw[List.drop_eq_getElem_cons hl];exact List.mem_cons_self)
  simpa using this
 ·rw[List.take_of_length_le (by omega)]at h3 ⊢
  exact takeW_all fun e he=>by simpa using h3 e he
noncomputable def c91:Code:=Tryz.f91.body.getD .skip
theorem lay0:Lay [.map [] []] 0 0 [] []:=⟨rfl,rfl,fun i p x h=>(by simp at h),fun i p x h=>(by simp at h),by simp[layB],fun b _=>Nat.zero_le b⟩
theorem onP_c(l:List Ev)(day:Int)(ha:Acc l):Pur Pg 91 [refG l,di day] (stD (prg (onL l day))):=by
 refine Pur_of (PdL.cons (pd_refG l) (.cons (.v _) .nil)) (AC_fn Tryz.func91 rfl rfl rfl [] (fun _=>true) (fun b h=>nomatch h) (AW_rest (c':=restC 0 c91) ?_))
 refine goC 1 [] [] ?_
 refine AW_rest (c':=restC 1 c91) ?_
 refine AW_has (l:=[(0,refG l),(1,di day),(3,.ptr 0 0 0 1)]) (fun e0=>?_) ⟨rfl,rfl,rfl,trivial⟩
 refine AW_frz (r:=[(0,refG l),(1,di day),(3,.fp [di day])]) (H1:=[]) (G:=[.arr 3 1 [[di day]]]) (Nat.le_refl _) (fun _ h=>nomatch h) ⟨rfl,.pd (pd_refG l),rfl,.v,rfl,.fz (.fp rfl rfl (FrzL.refl (PdL.one (.v _))).2),trivial⟩ fun e1=>?_
 refine go [] [] ?_
 refine if_ (fun h1=>?_) fun h1=>if_ (fun h2=>?_) fun h2=>?_
 ·rw[show onL l day=[] by simp[onL,h1]]
  exact lay_frz lay0 (Nat.le_refl _)
 ·rw[show onL l day=[] by simp[onL,h2]]
  exact lay_frz lay0 (Nat.le_refl _)
 ·refine AC.mono (replay_c l (fun e=>decide (e.day≤day)) _ _ [] ha ⟨rfl,rfl⟩ (.inl ⟨day,rfl,rfl⟩)) ?_
  rintro d H' ms ⟨⟨ps,rfl,hL⟩,_,_,rfl⟩
  rw[show onL l day=stL (l.takeWhile fun e=>decide (e.day≤day)) by rw[takeW_filter ha.ok.sort,←upTo_filter];simp[onL,h1,h2]]
  exact lay_frz hL (Nat.le_refl _)
end Go.Proofs.YtpndfdfipkadkaaGreatDoor
