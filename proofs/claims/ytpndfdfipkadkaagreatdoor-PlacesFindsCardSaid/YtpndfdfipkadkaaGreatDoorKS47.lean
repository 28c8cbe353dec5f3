/- The law holds: part 257. Conditions: none. -/
import Derived.Test.YtpndfdfipkadkaaGreatDoorKS41
import Derived.Test.YtpndfdfipkadkaaGreatDoorKS46
set_option linter.all false
set_option maxRecDepth 100000
namespace Go.Proofs.YtpndfdfipkadkaaGreatDoor
open Go Go.Wx Go.Ax
abbrev Tri:=Int × Bool × Int
def triD(t:Tri):D:= .tup [di t.1,db t.2.1,di t.2.2]
theorem frzTri{H:Heap}{t:Tri}{n:Int}{b:Bool}{e:Int}(h:(n,b,e)=t):Frz H (.tup [di n,db b,di e]) (triD t):=by
 rw[←h]
 exact .pd (.tup fun d hd=>by simp at hd;rcases hd with rfl | rfl | rfl<;>exact .v _)
def fitsN(raw:ByteArray→Auto)(a:Auto)(s:List Spell)(ns:List ByteArray):Tri:=if manyL ns s≠0 then(0,false,2)else((fitL raw a ns).getD 0,(fitL raw a ns).isSome,0)
def fitsT(raw:ByteArray→Auto)(a:Auto)(s:List Spell)(ns:List ByteArray):Tri:=if chkA a≠0 then(0,false,chkA a)else if chkS s≠0 then(0,false,chkS s)else fitsN raw a s ns
theorem fitL_snoc(raw:ByteArray→Auto)(a:Auto)(ns:List ByteArray)(x:ByteArray):fitL raw a (ns++[x])=fitStep raw a (fitL raw a ns) x:=by
 unfold fitL
 rw[List.foldl_append]
 rfl
theorem meetD_val{x a:Auto}(vx:Valid x)(ha:chkA a=0):meetD x a= .tup [.agg (rdE ((meetA x a 0 0).getD noRd)),db (meetA x a 0 0).isSome,di 0]:=by
 unfold meetD
 rw[if_neg (by rw[chk_of vx];simp),if_neg (by rw[ha];simp)]
 cases meetA x a 0 0<;>rfl
noncomputable def c65:Code:=Tryz.f65.body.getD .skip
theorem rFits_c(l:List Ev)(ha:Acc l)(p d:Int)(a:Auto)(s:List Spell):Pur Pg 65 [refG l,di p,di d,.agg a.enc,rows Spell.enc s] (triD (fitsT (rawR · s) a s (namesL (onL l d) p d))):=by
 refine Pur_of (PdL.cons (pd_refG l) (.cons (.v _) (.cons (.v _) (.cons (.agg (pdAuto a)) (.one (pd_rows pdSpell s)))))) (AC_fn Tryz.func65 rfl rfl rfl [] (fun _=>true) (fun b h=>nomatch h) (AW_rest (c':=restC 0 c65) ?_))
 refine goC 20 [] [] ?_
 refine(rCheck_c a).call ?_
 refine if_ (fun h=>?_) fun h=>?_
 ·exact frzTri (by unfold fitsT;rw[if_pos (by simpa using h)])
 have hA:chkA a=0:=by simpa using h
 refine(refCheck_c s).call ?_
 refine if_ (fun h=>?_) fun h=>?_
 ·exact frzTri (by unfold fitsT;rw[if_neg (by rw[hA];simp),if_pos (by simpa using h)])
 have hS:chkS s=0:=by simpa using h
 have hr:=rulesOk_of hS
 have hz:∀x∈s,x.frm.size≤maxLen:=fun x hx=>by
  have:=hr.ok x hx
  unfold RuleOk at this
  simp only[maxLen];omega
 have hT:fitsT (rawR · s) a s (namesL (onL l d) p d)=fitsN (rawR · s) a s (namesL (onL l d) p d):=by unfold fitsT;rw[if_neg (by rw[hA];simp),if_neg (by rw[hS];simp)]
 rw[hT]
 refine(rNames_c l p d ha).call ?_
 have hnm:=names_ok ha p d
 have hnl:(namesL (onL l d) p d).length≤16:=names_len (acc_few ha d) p d
 generalize namesL (onL l d) p d=ns at hnm hnl
 refine AW_idx ns.length (fun i st=>(∀x∈ns.take i,(mtL x s).length≤100)∧HasG [(4,rows Spell.enc s),(8,.ptr 0 0 0 1),(14,rows senc ns),(15,di ((fitL (rawR · s) a (ns.take i)).getD 0)),(16,db (fitL (rawR · s) a (ns.take i)).isSome),(17,di i)] [.arr 75 3 [a.enc]] st) ⟨by simp,hasG (G:=[]) ⟨rfl,rfl,rfl,rfl,rfl,rfl,trivial⟩ rfl⟩ ?_
 rintro i _ hi ⟨hfew,e,G,rfl⟩
 refine AW_drop (BlL.cons (.pd (pd_rows pdSpell s)) (.cons (.ptr (by simp)) (.cons (.pd (pd_rows pdS ns)) (.v (.v (.v .nil)))))) (BlH.cons (fun y hy d hd=>by
  rw[List.mem_singleton.1 hy]at hd
  exact .pd (pdAuto a d hd)) .nil) (Nat.zero_le _) fun e=>?_
 refine go [] [] (if_ (fun hlt=>?_) (fun hlt=>?_))
 ·simp at hlt
  refine row_at hlt ?_
  have hn:=hnm _ (List.getElem_mem hlt)
  have hsz:ns[i].size≤100:=by have:=nameB_size hn;omega
  refine((rMatches_c ns[i] s hsz (by have:=hr.len;omega) hz).pur (.cons (.v _) (.one (pd_rows pdSpell s)))).call ?_
  have hlen:((mtL ns[i] s).map Mt.enc).length=(mtL ns[i] s).length:=List.length_map _
  refine if_ (fun he=>?_) fun he=>?_
  ·refine frzTri ?_
   unfold fitsN manyL
   rw[if_pos]
   rw[if_pos (List.any_eq_true.2 ⟨ns[i],List.getElem_mem hlt,by simp at he ⊢;omega⟩)]
   decide
  have hfi:(mtL ns[i] s).length≤100:=by simp at he;omega
  have hts:=take_succ hlt hfew hfi
  have htk:ns.take (i+1)=ns.take i++[ns[i]]:=List.take_succ_eq_append_getElem hlt
  have hst:=fitL_snoc (rawR · s) a (ns.take i) ns[i]
  rw[←htk]at hst
  have vx:Valid (rawR ns[i] s):=NmV.vR hr ⟨hn,hfi⟩
  refine row_at hlt ?_
  refine(rRaw_c ns[i] s hsz hr).call ?_
  have hM:=rMeet_c (rawR ns[i] s) a
  rw[meetD_val vx hA]at hM
  unfold fitStep at hst
  simp only at hst
  generalize fitL (rawR · s) a (ns.take i)=o at hst
  cases hm:meetA (rawR ns[i] s) a 0 0 with
  | none=>
   rw[hm]at hM hst
   refine hM.call ?_
   refine⟨hlt,hts,hasG (G:=[_,_]) ⟨rfl,rfl,rfl,?_,?_,inc hlt (by simp only[maxLen];omega),trivial⟩ rfl⟩
   ·rw[hst];rfl
   ·rw[hst];rfl
  | some r=>
   rw[hm]at hM hst
   refine hM.call ?_
   cases o with
   | none=>
    refine⟨hlt,hts,hasG (G:=[_,_]) ⟨rfl,rfl,rfl,?_,?_,inc hlt (by simp only[maxLen];omega),trivial⟩ rfl⟩
    ·rw[hst];rfl
    ·rw[hst];rfl
   | some c=>
    refine if_ (fun hq=>?_) fun hq=>?_
    ·have hq:r.cost<c:=by simpa using hq
     have hl2:lessI (some c) r.cost=some r.cost:=by unfold lessI;simp only;rw[if_pos hq]
     refine⟨hlt,hts,hasG (G:=[_,_]) ⟨rfl,rfl,rfl,?_,?_,inc hlt (by simp only[maxLen];omega),trivial⟩ rfl⟩
     ·rw[hst];simp only[hl2];rfl
     ·rw[hst];simp only[hl2];rfl
    ·have hq:¬r.cost<c:=by simpa using hq
     have hl2:lessI (some c) r.cost=some c:=by unfold lessI;simp only;rw[if_neg hq]
     refine⟨hlt,hts,hasG (G:=[_,_]) ⟨rfl,rfl,rfl,?_,?_,inc hlt (by simp only[maxLen];omega),trivial⟩ rfl⟩
     ·rw[hst];simp only[hl2];rfl
     ·rw[hst];simp only[hl2];rfl
 ·simp at hlt
  rw[List.take_of_length_le hlt]at hfew ⊢
  refine frzTri ?_
  unfold fitsN manyL
  rw[if_neg,]
  rw[if_neg]
  ·simp
  ·rw[List.any_eq_true]
   rintro⟨x,hx,h⟩
   have:=hfew x hx
   simp at h;omega
end Go.Proofs.YtpndfdfipkadkaaGreatDoor
set_option maxRecDepth 100000
namespace Go.Proofs.YtpndfdfipkadkaaGreatDoor
open Go Go.Wx Go.Ax
noncomputable def c130:Code:=Tryz.f130.body.getD .skip
def pt130_9:Tre:=(.p 0 (.p 1 (.l 3 (.fork (.e 2 (.fork (.e 4 (.p 5 (.p 6 (.p 7 (.p 8 (.e 9 (.e 10 (.p 11 (.p 12 .done))))))))) (.e 9 (.e 4 (.p 5 (.p 6 (.p 7 (.p 8 (.e 10 (.p 11 (.p 12 .done))))))))))) (.e 9 (.e 2 (.e 4 (.p 5 (.p 6 (.p 7 (.p 8 (.e 10 (.p 11 (.p 12 .done))))))))))))))
set_option maxHeartbeats 4000000 in
theorem fitsS_c (t : List Pl) (hu : ∀ x ∈ t, x.uses.length ≤ 300000) (p d : Int) (a : Auto) (s : List Spell) (hA : chkA a = 0) (hS : chkS s = 0) (hnm : ∀ n ∈ namesL t p d, nameB n = true) (hnl : (namesL t p d).length ≤ 100000) :
    Pur Pg 130 [stD t, di p, di d, .agg a.enc, rows Spell.enc s] (triD (fitsN (rawA · s) a s (namesL t p d))) := by
  have hr := rulesOk_of hS
  refine Pur_of (PdL.cons (pd_st t) (.cons (.v _) (.cons (.v _) (.cons (.agg (pdAuto a)) (.one (pd_rows pdSpell s)))))) (AC_fn Tryz.func130 rfl rfl rfl [] (fun _ => true) (fun b h => nomatch h) (AW_rest (c' := restC 0 c130) ?_))
  refine goC 20 [] [] ?_
  refine (namesP_c t p d hu).call ?_
  generalize namesL t p d = ns at hnm hnl
  refine (tooMany_c ns s (fun n hn => by have := nameB_size (hnm n hn); omega) (by have := hr.len; omega)).call ?_
  refine if_ (fun h => ?_) fun h => ?_
  · have h0 : manyL ns s ≠ 0 := by simpa using h
    refine frzTri ?_
    unfold fitsN
    rw [if_pos h0, (many_no h0).1]
  have hM0 : manyL ns s = 0 := by simpa using h
  have hV := many_ok hnm hM0
  refine AW_idx ns.length (fun i st => HasG [(4, rows Spell.enc s), (8, .ptr 0 0 0 1), (15, di ((fitL (rawA · s) a (ns.take i)).getD 0)), (16, db (fitL (rawA · s) a (ns.take i)).isSome), (32, rows senc ns), (33, di ns.length), (34, di i)] [.arr 75 3 [a.enc]] st) (hasG (G := []) ⟨rfl, rfl, rfl, rfl, rfl, by simp [rows, dlen]; rfl, rfl, trivial⟩ rfl) ?_
  rintro i _ hi ⟨e, G, rfl⟩
  refine AW_drop (BlL.cons (.pd (pd_rows pdSpell s)) (.cons (.ptr (by simp)) (.v (.v (.cons (.pd (pd_rows pdS ns)) (.v (.v .nil))))))) (BlH.cons (fun y hy d hd => by
    rw [List.mem_singleton.1 hy] at hd
    exact .pd (pdAuto a d hd)) .nil) (Nat.zero_le _) fun e => ?_
  refine go [] [] (if_ (fun hlt => ?_) (fun hlt => ?_))
  · simp at hlt
    refine row_at hlt ?_
    have hv := hV _ (List.getElem_mem hlt)
    have hn := hv.nm
    have hsz : ns[i].size ≤ 100 := by have := nameB_size hn; omega
    have htk : ns.take (i + 1) = ns.take i ++ [ns[i]] := List.take_succ_eq_append_getElem hlt
    have hst := fitL_snoc (rawA · s) a (ns.take i) ns[i]
    rw [← htk] at hst
    have vx : Valid (rawA ns[i] s) := hv.vA hr
    have hR := raw_c ns[i] s hsz (by have := hr.len; omega) hr.ok (nameOk_of hr hsz).un
    have hM := meet_c (rawA ns[i] s) a
    rw [meetD_val vx hA] at hM
    unfold fitStep at hst
    simp only at hst
    generalize fitL (rawA · s) a (ns.take i) = o at hst
    cases hm : meetA (rawA ns[i] s) a 0 0 with
    | none =>
      rw [hm] at hM hst
      conv => whnf
      refine AW_fork [] pt130_9 ?_
      repeat' (first | refine ck (by kernel_rfl) ?_ | ((conv => whnf); (first | refine And.intro ?_ ?_ | refine hR.call ?_ | refine hM.call ?_)))
      all_goals
        first
          | exact hlt
          | exact hasG (G := [_]) ⟨rfl, rfl, by rw [hst]; rfl, by rw [hst]; rfl, rfl, rfl, inc hlt (by simp only [maxLen]; omega), trivial⟩ rfl
    | some r =>
      rw [hm] at hM hst
      cases o with
      | none =>
        conv => whnf
        refine AW_fork [] pt130_9 ?_
        repeat' (first | refine ck (by kernel_rfl) ?_ | ((conv => whnf); (first | refine And.intro ?_ ?_ | refine hR.call ?_ | refine hM.call ?_)))
        all_goals
          first
            | exact hlt
            | exact hasG (G := [_]) ⟨rfl, rfl, by rw [hst]; rfl, by rw [hst]; rfl, rfl, rfl, inc hlt (by simp only [maxLen]; omega), trivial⟩ rfl
      | some c =>
        conv => whnf
        refine AW_fork [] pt130_9 ?_
        repeat' (first | refine ck (by kernel_rfl) ?_ | ((conv => whnf); (first | refine And.intro ?_ ?_ | refine hR.call ?_ | refine hM.call ?_)))
        all_goals
          refine if_ (fun hq => ?_) fun hq => ?_
          · have hq : r.cost < c := by simpa using hq
            have hl2 : lessI (some c) r.cost = some r.cost := by unfold lessI; simp only; rw [if_pos hq]
            refine ⟨hlt, hasG (G := [_]) ⟨rfl, rfl, ?_, ?_, rfl, rfl, inc hlt (by simp only [maxLen]; omega), trivial⟩ rfl⟩
            · rw [hst]; simp only [hl2]; rfl
            · rw [hst]; simp only [hl2]; rfl
          · have hq : ¬ r.cost < c := by simpa using hq
            have hl2 : lessI (some c) r.cost = some c := by unfold lessI; simp only; rw [if_neg hq]
            refine ⟨hlt, hasG (G := [_]) ⟨rfl, rfl, ?_, ?_, rfl, rfl, inc hlt (by simp only [maxLen]; omega), trivial⟩ rfl⟩
            · rw [hst]; simp only [hl2]; rfl
            · rw [hst]; simp only [hl2]; rfl
  · simp at hlt
    rw [List.take_of_length_le hlt]
    refine frzTri ?_
    unfold fitsN
    rw [if_neg (by rw [hM0]; simp)]
end Go.Proofs.YtpndfdfipkadkaaGreatDoor
set_option maxRecDepth 100000
namespace Go.Proofs.YtpndfdfipkadkaaGreatDoor
open Go Go.Wx Go.Ax
def readyL(a:Auto)(s:List Spell):Int:=if chkA a≠0 then chkA a else chkS s
theorem ready_c(l:List Ev)(a:Auto)(s:List Spell)(hok:∀x∈s,x.ok):Pur Pg 129 [refG l,.agg a.enc,rows Spell.enc s] (di (readyL a s)):=by
 refine fn Tryz.func129 [] [] (.cons (pd_refG l) (.cons (.agg (pdAuto a)) (.one (pd_rows pdSpell s)))) ?_
 refine(check_c a).call ?_
 refine if_ (fun h=>?_) fun h=>?_
 ·exact frzi (by unfold readyL;rw[if_pos (by simpa using h)])
 refine(chk_c s hok).call ?_
 exact frzi (by unfold readyL;rw[if_neg (by simpa using h)])
theorem ready_no{a:Auto}{s:List Spell}(h:readyL a s≠0)(raw:ByteArray→Auto)(ns:List ByteArray):(0,false,readyL a s)=fitsT raw a s ns:=by
 unfold readyL at h ⊢
 unfold fitsT
 by_cases hA:chkA a≠0
 ·rw[if_pos hA,if_pos hA]
 ·rw[if_neg hA]at h ⊢
  rw[if_neg hA,if_pos h]
theorem ready_ok{a:Auto}{s:List Spell}(h:readyL a s=0):chkA a=0∧chkS s=0:=by
 unfold readyL at h
 by_cases hA:chkA a≠0
 ·rw[if_pos hA]at h;exact absurd h hA
 ·rw[if_neg hA]at h;exact⟨Classical.not_not.1 hA,h⟩
theorem ready_fits{a:Auto}{s:List Spell}(h:readyL a s=0)(raw:ByteArray→Auto)(ns:List ByteArray):fitsN raw a s ns=fitsT raw a s ns:=by
 obtain⟨h1,h2⟩:=ready_ok h
 unfold fitsT
 rw[if_neg (by rw[h1];simp),if_neg (by rw[h2];simp)]
theorem prg_names{l:List Ev}(p d:Int):namesL (prg (onL l d)) p d=namesL (onL l d) p d:=names_prg _ _ _
theorem fitsOn_c(l:List Ev)(ha:Acc l)(p d:Int)(a:Auto)(s:List Spell)(hA:chkA a=0)(hS:chkS s=0):Pur Pg 130 [stD (prg (onL l d)),di p,di d,.agg a.enc,rows Spell.enc s] (triD (fitsN (rawA · s) a s (namesL (onL l d) p d))):=by
 have h:=fitsS_c (prg (onL l d)) (acc_uses ha d) p d a s hA hS (by rw[prg_names];exact names_ok ha p d) (by rw[prg_names];have:=names_len (acc_few ha d) p d;omega)
 rw[prg_names]at h
 exact h
def pl64:Plan:=[(4,[.p 0,.p 1,.p 3,.p 4,.l 5,.p 6,.e 2,.e 7,.p 8,.p 9,.p 10,.p 11,.p 12,.p 13])]
theorem qFits_c(l:List Ev)(ha:Acc l)(p d:Int)(a:Auto)(s:List Spell)(hok:∀x∈s,x.ok):Pur Pg 64 [refG l,di p,di d,.agg a.enc,rows Spell.enc s] (triD (fitsT (rawA · s) a s (namesL (onL l d) p d))):=by
 refine fn Tryz.func64 [] pl64 (.cons (pd_refG l) (.cons (.v _) (.cons (.v _) (.cons (.agg (pdAuto a)) (.one (pd_rows pdSpell s)))))) ?_
 refine(ready_c l a s hok).call ?_
 refine if_ (fun h=>?_) fun h=>?_
 ·exact frzTri (ready_no (by simpa using h) _ _)
 have h0:readyL a s=0:=by simpa using h
 obtain⟨hA,hS⟩:=ready_ok h0
 refine(onP_c l d ha).call ?_
 refine ck rfl (force_to ?_)
 refine(fitsOn_c l ha p d a s hA hS).call ?_
 rw[ready_fits h0]
 exact frzTri rfl
theorem fitsT_same{l:List Ev}(ha:Acc l)(p d:Int)(a:Auto)(s:List Spell):fitsT (rawA · s) a s (namesL (onL l d) p d)=fitsT (rawR · s) a s (namesL (onL l d) p d):=by
 unfold fitsT
 by_cases hA:chkA a≠0
 ·rw[if_pos hA,if_pos hA]
 by_cases hS:chkS s≠0
 ·rw[if_neg hA,if_neg hA,if_pos hS,if_pos hS]
 rw[if_neg hA,if_neg hA,if_neg hS,if_neg hS]
 unfold fitsN
 by_cases hM:manyL (namesL (onL l d) p d) s≠0
 ·rw[if_pos hM,if_pos hM]
 rw[if_neg hM,if_neg hM,fit_same (rulesOk_of (Classical.not_not.1 hS)) (valid_of (Classical.not_not.1 hA)) (many_ok (names_ok ha p d) (Classical.not_not.1 hM))]
end Go.Proofs.YtpndfdfipkadkaaGreatDoor
