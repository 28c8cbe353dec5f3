/- The law holds: part 375. Conditions: none. -/
import Derived.Test.YtpndfdfipkadkaaGreatDoorKU4
import Derived.Test.YtpndfdfipkadkaaGreatDoorKU21
import Derived.Test.YtpndfdfipkadkaaGreatDoorKU24
import Derived.Test.YtpndfdfipkadkaaGreatDoorKU25
import Derived.Test.YtpndfdfipkadkaaGreatDoorKU40
import Derived.Test.YtpndfdfipkadkaaGreatDoorKU41
import Derived.Test.YtpndfdfipkadkaaGreatDoorKU42
set_option linter.all false
set_option maxRecDepth 100000
namespace Go.Proofs.YtpndfdfipkadkaaGreatDoor
open Go Go.Wx Go.Ax
end Go.Proofs.YtpndfdfipkadkaaGreatDoor
set_option maxRecDepth 100000
namespace Go.Proofs.YtpndfdfipkadkaaGreatDoor
open Go Go.Wx Go.Ax
end Go.Proofs.YtpndfdfipkadkaaGreatDoor
set_option maxRecDepth 100000
namespace Go.Proofs.YtpndfdfipkadkaaGreatDoor
open Go Go.Wx Go.Ax
structure Tab(a b:Auto)(A B:Nat)(V:Int→Int→Rd)(U:Int→Int→Bool)(H:Heap):Prop where
 h0:H[0]? =some (.arr 75 3 [a.enc])
 h1:H[1]? =some (.arr 75 3 [b.enc])
 h2:H[2]? =some (.arr 161 2 [rdE noRd])
 h3:H[3]? =some (.arr 214 1 ((List.range A).map fun p=>[D.sl (5+2*p) 0 B B]))
 h4:H[4]? =some (.arr 215 1 ((List.range A).map fun p=>[D.sl (6+2*p) 0 B B]))
 row:∀p,p<A→H[5+2*p]? =some (.arr 161 2 ((List.range B).map fun(q:Nat)=>rdE (V p q)))
 irow:∀p,p<A→H[6+2*p]? =some (.arr 4 1 ((List.range B).map fun(q:Nat)=>[db (U p q)]))
 len:5+2*A≤H.length
structure Tab0(a b:Auto)(A B k:Nat)(H:Heap):Prop where
 h0:H[0]? =some (.arr 75 3 [a.enc])
 h1:H[1]? =some (.arr 75 3 [b.enc])
 h2:H[2]? =some (.arr 161 2 [rdE noRd])
 h3:H[3]? =some (.arr 214 1 ((List.range k).map (fun p=>[D.sl (5+2*p) 0 B B])++List.replicate (A-k) [.v (.slice none 0 0)]))
 h4:H[4]? =some (.arr 215 1 ((List.range k).map (fun p=>[D.sl (6+2*p) 0 B B])++List.replicate (A-k) [.v (.slice none 0 0)]))
 row:∀p,p<k→H[5+2*p]? =some (.arr 161 2 (List.replicate B (rdE noRd)))
 irow:∀p,p<k→H[6+2*p]? =some (.arr 4 1 (List.replicate B [db false]))
 len:H.length=5+2*k
def oS(A k d B:Nat):List (List D):=(List.range k).map (fun p=>[D.sl (d+2*p) 0 B B])++List.replicate (A-k) [D.v (.slice none 0 0)]
theorem oS_set{A k d B n:Nat}(h:k<A)(hn:n=d+2*k):(oS A k d B).set (0+(k:Int).toNat) [D.sl n 0 B B]=oS A (k+1) d B:=by
 subst hn
 unfold oS
 rw[Nat.zero_add,Int.toNat_natCast,List.set_append_right _ _ (by simp),List.length_map,List.length_range,Nat.sub_self,show A-k=(A-(k+1))+1 by omega,List.replicate_succ,List.set_cons_zero,List.range_succ,List.map_append,List.append_assoc]
 rfl
theorem Tab0.succ {a b : Auto} {A B k n1 n2 : Nat} {H : Heap} (hT : Tab0 a b A B k H) (h : k < A) (h1 : n1 = H.length) (h2 : n2 = H.length + 1) :
    Tab0 a b A B (k + 1) (((H ++ [AO.arr 161 2 (List.replicate B (rdE noRd))]).set 3 (.arr 214 1 ((oS A k 5 B).set (0 + (k : Int).toNat) [D.sl n1 0 B B])) ++ [AO.arr 4 1 (List.replicate B [db false])]).set 4 (.arr 215 1 ((oS A k 6 B).set (0 + (k : Int).toNat) [D.sl n2 0 B B]))) := by
  have hl := hT.len
  rw [oS_set h (by omega), oS_set h (by omega)]
  have low : ∀ {q : Nat} {o : AO}, q < H.length → q ≠ 3 → q ≠ 4 → H[q]? = some o → (((H ++ [AO.arr 161 2 (List.replicate B (rdE noRd))]).set 3 (.arr 214 1 (oS A (k + 1) 5 B)) ++ [AO.arr 4 1 (List.replicate B [db false])]).set 4 (.arr 215 1 (oS A (k + 1) 6 B)))[q]? = some o := fun {q o} h0 h3 h4 hq => by
    rw [List.getElem?_set_ne (by omega), List.getElem?_append_left (by simp; omega), List.getElem?_set_ne (by omega), List.getElem?_append_left h0]
    exact hq
  refine ⟨low (by omega) (by decide) (by decide) hT.h0, low (by omega) (by decide) (by decide) hT.h1, low (by omega) (by decide) (by decide) hT.h2, ?_, ?_, fun p hp => ?_, fun p hp => ?_, by simp; omega⟩
  · rw [List.getElem?_set_ne (by decide), List.getElem?_append_left (by simp; omega), List.getElem?_set_self (by simp; omega)]
    rfl
  · rw [List.getElem?_set_self (by simp; omega)]
    rfl
  · by_cases hpk : p < k
    · exact low (by omega) (by omega) (by omega) (hT.row p hpk)
    · have : p = k := by omega
      subst this
      rw [List.getElem?_set_ne (by omega), List.getElem?_append_left (by simp; omega), List.getElem?_set_ne (by omega), List.getElem?_append_right (by omega), show 5 + 2 * p - H.length = 0 by omega]
      rfl
  · by_cases hpk : p < k
    · exact low (by omega) (by omega) (by omega) (hT.irow p hpk)
    · have : p = k := by omega
      subst this
      rw [List.getElem?_set_ne (by omega), List.getElem?_append_right (by simp; omega)]
      simp only [List.length_set, List.length_append, List.length_cons, List.length_nil]
      rw [show 6 + 2 * p - (H.length + (0 + 1)) = 0 by omega]
      rfl
noncomputable def c134:Code:=Tryz.f134.body.getD .skip
end Go.Proofs.YtpndfdfipkadkaaGreatDoor
set_option maxRecDepth 100000
namespace Go.Proofs.YtpndfdfipkadkaaGreatDoor
open Go Go.Wx Go.Ax
noncomputable def b6:Code:=lpC (lpC (restC 1 (fstC (restC 9 c134))))
noncomputable def b8:Code:=lpC (lpC (restC 1 (lpC (fstC (restC 1 b6)))))
noncomputable def b9:Code:=lpC (fstC (restC 1 b8))
section
variable {a b : Auto} {A B : Nat}
theorem Tab.app{V:Int→Int→Rd}{U:Int→Int→Bool}{H:Heap}(h:Tab a b A B V U H)(o:AO):Tab a b A B V U (H++[o]):=by
 have hl:=h.len
 have k:∀{q:Nat} {x:AO},H[q]? =some x→(H++[o])[q]? =some x:=fun{q x} hq=>(List.getElem?_append_left (lt_of_some hq)).trans hq
 exact⟨k h.h0,k h.h1,k h.h2,k h.h3,k h.h4,fun p hp=>k (h.row p hp),fun p hp=>k (h.irow p hp),by simp;omega⟩
end
end Go.Proofs.YtpndfdfipkadkaaGreatDoor
set_option maxRecDepth 100000
namespace Go.Proofs.YtpndfdfipkadkaaGreatDoor
open Go Go.Wx Go.Ax
end Go.Proofs.YtpndfdfipkadkaaGreatDoor
set_option maxRecDepth 100000
namespace Go.Proofs.YtpndfdfipkadkaaGreatDoor
open Go Go.Wx Go.Ax
end Go.Proofs.YtpndfdfipkadkaaGreatDoor
set_option maxRecDepth 100000
namespace Go.Proofs.YtpndfdfipkadkaaGreatDoor
open Go Go.Wx Go.Ax
abbrev Tri:=Int × Bool × Int
def triD(t:Tri):D:= .tup [di t.1,db t.2.1,di t.2.2]
theorem frzTri{H:Heap}{t:Tri}{n:Int}{b:Bool}{e:Int}(h:(n,b,e)=t):Frz H (.tup [di n,db b,di e]) (triD t):=by
 rw[←h]
 exact .pd (.tup fun d hd=>by simp at hd;rcases hd with rfl | rfl | rfl<;>exact .v _)
def fitsN(raw:ByteArray→Auto)(a:Auto)(s:List Spell)(ns:List ByteArray):Tri:=if manyL ns s≠0 then(0,false,2)else((fitL raw a ns).getD 0,(fitL raw a ns).isSome,0)
def fitsT(raw:ByteArray→Auto)(a:Auto)(s:List Spell)(ns:List ByteArray):Tri:=if chkA a≠0 then(0,false,chkA a)else if chkS s≠0 then(0,false,chkS s)else fitsN raw a s ns
theorem fitL_snoc(raw:ByteArray→Auto)(a:Auto)(ns:List ByteArray)(x:ByteArray):fitL raw a (ns++[x])=fitStep raw a (fitL raw a ns) x:=by
 unfold fitL
 rw[List.foldl_append]
 rfl
theorem meetD_val{x a:Auto}(vx:Valid x)(ha:chkA a=0):meetD x a= .tup [.agg (rdE ((meetA x a 0 0).getD noRd)),db (meetA x a 0 0).isSome,di 0]:=by
 unfold meetD
 rw[if_neg (by rw[chk_of vx];simp),if_neg (by rw[ha];simp)]
 cases meetA x a 0 0<;>rfl
end Go.Proofs.YtpndfdfipkadkaaGreatDoor
set_option maxRecDepth 100000
namespace Go.Proofs.YtpndfdfipkadkaaGreatDoor
open Go Go.Wx Go.Ax
noncomputable def c130:Code:=Tryz.f130.body.getD .skip
def pt130_9:Tre:=(.p 0 (.p 1 (.l 3 (.fork (.e 2 (.fork (.e 4 (.p 5 (.p 6 (.p 7 (.p 8 (.e 9 (.e 10 (.p 11 (.p 12 .done))))))))) (.e 9 (.e 4 (.p 5 (.p 6 (.p 7 (.p 8 (.e 10 (.p 11 (.p 12 .done))))))))))) (.e 9 (.e 2 (.e 4 (.p 5 (.p 6 (.p 7 (.p 8 (.e 10 (.p 11 (.p 12 .done))))))))))))))
set_option maxHeartbeats 4000000 in
theorem fitsS_c (t : List Pl) (hu : ∀ x ∈ t, x.uses.length ≤ 300000) (p d : Int) (a : Auto) (s : List Spell) (hA : chkA a = 0) (hS : chkS s = 0) (hnm : ∀ n ∈ namesL t p d, nameB n = true) (hnl : (namesL t p d).length ≤ 100000) :
    Pur Pg 130 [stD t, di p, di d, .agg a.enc, rows Spell.enc s] (triD (fitsN (rawA · s) a s (namesL t p d))) := by
  have hr := rulesOk_of hS
  refine Pur_of (PdL.cons (pd_st t) (.cons (.v _) (.cons (.v _) (.cons (.agg (pdAuto a)) (.one (pd_rows pdSpell s)))))) (AC_fn Tryz.func130 rfl rfl rfl [] (fun _ => true) (fun b h => nomatch h) (AW_rest (c' := restC 0 c130) ?_))
  refine goC 20 [] [] ?_
  refine (namesP_c t p d hu).call ?_
  generalize namesL t p d = ns at hnm hnl
  refine (tooMany_c ns s (fun n hn => by have := nameB_size (hnm n hn); omega) (by have := hr.len; omega)).call ?_
  refine if_ (fun h => ?_) fun h => ?_
  · have h0 : manyL ns s ≠ 0 := by simpa using h
    refine frzTri ?_
    unfold fitsN
    rw [if_pos h0, (many_no h0).1]
  have hM0 : manyL ns s = 0 := by simpa using h
  have hV := many_ok hnm hM0
  refine AW_idx ns.length (fun i st => HasG [(4, rows Spell.enc s), (8, .ptr 0 0 0 1), (15, di ((fitL (rawA · s) a (ns.take i)).getD 0)), (16, db (fitL (rawA · s) a (ns.take i)).isSome), (32, rows senc ns), (33, di ns.length), (34, di i)] [.arr 75 3 [a.enc]] st) (hasG (G := []) ⟨rfl, rfl, rfl, rfl, rfl, by simp [rows, dlen]; rfl, rfl, trivial⟩ rfl) ?_
  rintro i _ hi ⟨e, G, rfl⟩
  refine AW_drop (BlL.cons (.pd (pd_rows pdSpell s)) (.cons (.ptr (by simp)) (.v (.v (.cons (.pd (pd_rows pdS ns)) (.v (.v .nil))))))) (BlH.cons (fun y hy d hd => by
    rw [List.mem_singleton.1 hy] at hd
    exact .pd (pdAuto a d hd)) .nil) (Nat.zero_le _) fun e => ?_
  refine go [] [] (if_ (fun hlt => ?_) (fun hlt => ?_))
  · simp at hlt
    refine row_at hlt ?_
    have hv := hV _ (List.getElem_mem hlt)
    have hn := hv.nm
    have hsz : ns[i].size ≤ 100 := by have := nameB_size hn; omega
    have htk : ns.take (i + 1) = ns.take i ++ [ns[i]] := List.take_succ_eq_append_getElem hlt
    have hst := fitL_snoc (rawA · s) a (ns.take i) ns[i]
    rw [← htk] at hst
    have vx : Valid (rawA ns[i] s) := hv.vA hr
    have hR := raw_c ns[i] s hsz (by have := hr.len; omega) hr.ok (nameOk_of hr hsz).un
    have hM := meet_c (rawA ns[i] s) a
    rw [meetD_val vx hA] at hM
    unfold fitStep at hst
    simp only at hst
    generalize fitL (rawA · s) a (ns.take i) = o at hst
    cases hm : meetA (rawA ns[i] s) a 0 0 with
    | none =>
      rw [hm] at hM hst
      conv => whnf
      refine AW_fork [] pt130_9 ?_
      repeat' (first | refine ck (by kernel_rfl) ?_ | ((conv => whnf); (first | refine And.intro ?_ ?_ | refine hR.call ?_ | refine hM.call ?_)))
      all_goals
        first
          | exact hlt
          | exact hasG (G := [_]) ⟨rfl, rfl, by rw [hst]; rfl, by rw [hst]; rfl, rfl, rfl, inc hlt (by simp only [maxLen]; omega), trivial⟩ rfl
    | some r =>
      rw [hm] at hM hst
      cases o with
      | none =>
        conv => whnf
        refine AW_fork [] pt130_9 ?_
        repeat' (first | refine ck (by kernel_rfl) ?_ | ((conv => whnf); (first | refine And.intro ?_ ?_ | refine hR.call ?_ | refine hM.call ?_)))
        all_goals
          first
            | exact hlt
            | exact hasG (G := [_]) ⟨rfl, rfl, by rw [hst]; rfl, by rw [hst]; rfl, rfl, rfl, inc hlt (by simp only [maxLen]; omega), trivial⟩ rfl
      | some c =>
        conv => whnf
        refine AW_fork [] pt130_9 ?_
        repeat' (first | refine ck (by kernel_rfl) ?_ | ((conv => whnf); (first | refine And.intro ?_ ?_ | refine hR.call ?_ | refine hM.call ?_)))
        all_goals
          refine if_ (fun hq => ?_) fun hq => ?_
          · have hq : r.cost < c := by simpa using hq
            have hl2 : lessI (some c) r.cost = some r.cost := by unfold lessI; simp only; rw [if_pos hq]
            refine ⟨hlt, hasG (G := [_]) ⟨rfl, rfl, ?_, ?_, rfl, rfl, inc hlt (by simp only [maxLen]; omega), trivial⟩ rfl⟩
            · rw [hst]; simp only [hl2]; rfl
            · rw [hst]; simp only [hl2]; rfl
          · have hq : ¬ r.cost < c := by simpa using hq
            have hl2 : lessI (some c) r.cost = some c := by unfold lessI; simp only; rw [if_neg hq]
            refine ⟨hlt, hasG (G := [_]) ⟨rfl, rfl, ?_, ?_, rfl, rfl, inc hlt (by simp only [maxLen]; omega), trivial⟩ rfl⟩
            · rw [hst]; simp only [hl2]; rfl
            · rw [hst]; simp only [hl2]; rfl
  · simp at hlt
    rw [List.take_of_length_le hlt]
    refine frzTri ?_
    unfold fitsN
    rw [if_neg (by rw [hM0]; simp)]
end Go.Proofs.YtpndfdfipkadkaaGreatDoor
set_option maxRecDepth 100000
namespace Go.Proofs.YtpndfdfipkadkaaGreatDoor
open Go Go.Wx Go.Ax
def readyL(a:Auto)(s:List Spell):Int:=if chkA a≠0 then chkA a else chkS s
theorem ready_c(l:List Ev)(a:Auto)(s:List Spell)(hok:∀x∈s,x.ok):Pur Pg 129 [refG l,.agg a.enc,rows Spell.enc s] (di (readyL a s)):=by
 refine fn Tryz.func129 [] [] (.cons (pd_refG l) (.cons (.agg (pdAuto a)) (.one (pd_rows pdSpell s)))) ?_
 refine(check_c a).call ?_
 refine if_ (fun h=>?_) fun h=>?_
 ·exact frzi (by unfold readyL;rw[if_pos (by simpa using h)])
 refine(chk_c s hok).call ?_
 exact frzi (by unfold readyL;rw[if_neg (by simpa using h)])
theorem ready_no{a:Auto}{s:List Spell}(h:readyL a s≠0)(raw:ByteArray→Auto)(ns:List ByteArray):(0,false,readyL a s)=fitsT raw a s ns:=by
 unfold readyL at h ⊢
 unfold fitsT
 by_cases hA:chkA a≠0
 ·rw[if_pos hA,if_pos hA]
 ·rw[if_neg hA]at h ⊢
  rw[if_neg hA,if_pos h]
theorem ready_ok{a:Auto}{s:List Spell}(h:readyL a s=0):chkA a=0∧chkS s=0:=by
 unfold readyL at h
 by_cases hA:chkA a≠0
 ·rw[if_pos hA]at h;exact absurd h hA
 ·rw[if_neg hA]at h;exact⟨Classical.not_not.1 hA,h⟩
theorem ready_fits{a:Auto}{s:List Spell}(h:readyL a s=0)(raw:ByteArray→Auto)(ns:List ByteArray):fitsN raw a s ns=fitsT raw a s ns:=by
 obtain⟨h1,h2⟩:=ready_ok h
 unfold fitsT
 rw[if_neg (by rw[h1];simp),if_neg (by rw[h2];simp)]
theorem prg_names{l:List Ev}(p d:Int):namesL (prg (onL l d)) p d=namesL (onL l d) p d:=names_prg _ _ _
theorem fitsOn_c(l:List Ev)(ha:Acc l)(p d:Int)(a:Auto)(s:List Spell)(hA:chkA a=0)(hS:chkS s=0):Pur Pg 130 [stD (prg (onL l d)),di p,di d,.agg a.enc,rows Spell.enc s] (triD (fitsN (rawA · s) a s (namesL (onL l d) p d))):=by
 have h:=fitsS_c (prg (onL l d)) (acc_uses ha d) p d a s hA hS (by rw[prg_names];exact names_ok ha p d) (by rw[prg_names];have:=names_len (acc_few ha d) p d;omega)
 rw[prg_names]at h
 exact h
def pl64:Plan:=[(4,[.p 0,.p 1,.p 3,.p 4,.l 5,.p 6,.e 2,.e 7,.p 8,.p 9,.p 10,.p 11,.p 12,.p 13])]
theorem qFits_c(l:List Ev)(ha:Acc l)(p d:Int)(a:Auto)(s:List Spell)(hok:∀x∈s,x.ok):Pur Pg 64 [refG l,di p,di d,.agg a.enc,rows Spell.enc s] (triD (fitsT (rawA · s) a s (namesL (onL l d) p d))):=by
 refine fn Tryz.func64 [] pl64 (.cons (pd_refG l) (.cons (.v _) (.cons (.v _) (.cons (.agg (pdAuto a)) (.one (pd_rows pdSpell s)))))) ?_
 refine(ready_c l a s hok).call ?_
 refine if_ (fun h=>?_) fun h=>?_
 ·exact frzTri (ready_no (by simpa using h) _ _)
 have h0:readyL a s=0:=by simpa using h
 obtain⟨hA,hS⟩:=ready_ok h0
 refine(onP_c l d ha).call ?_
 refine ck rfl (force_to ?_)
 refine(fitsOn_c l ha p d a s hA hS).call ?_
 rw[ready_fits h0]
 exact frzTri rfl
end Go.Proofs.YtpndfdfipkadkaaGreatDoor
