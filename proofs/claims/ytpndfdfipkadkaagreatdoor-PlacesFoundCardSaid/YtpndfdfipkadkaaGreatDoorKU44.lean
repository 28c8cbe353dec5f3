/- The law holds: part 376. Conditions: none. -/
import Derived.Test.YtpndfdfipkadkaaGreatDoorKU4
import Derived.Test.YtpndfdfipkadkaaGreatDoorKU43
set_option linter.all false
set_option maxRecDepth 100000
namespace Go.Proofs.YtpndfdfipkadkaaGreatDoor.Fx
open Go Go.Wx Go.Sort
@[ext] structure TPlaceMatch where
 Place:Int
 Cost:Int
deriving Inhabited
def TPlaceMatch.enc(x:TPlaceMatch):List Value:=[vi x.Place,vi x.Cost]
def places_order.R (Q : Int → World → Prop) (x : TPlaceMatch) (y : TPlaceMatch) (w : World) : Prop := (
  Al w (.cells #[vi x.Place, vi x.Cost] 80) fun b1 w1 =>
      Al w1 (.cells #[vi y.Place, vi y.Cost] 80) fun b2 w2 =>
      Dr w2 fun w3 =>
      Cl Pg 205 #[vi x.Cost, vi y.Cost] w3 (fun v w4 => ∃ (r1 : Int), v = vi r1 ∧ Kp b1 w3 w4 ∧ Kp b2 w3 w4 ∧ Cl Pg 205 #[vi x.Place, vi y.Place] w4 (fun v w5 => ∃ (r2 : Int), v = vi r2 ∧ Al w5 (.cells #[vi r1, vi r2] 3) fun b3 w6 =>
      Cl Pg 204 #[vl (some ⟨b3, 0, none⟩) 2 2] w6 (fun v w7 => ∃ (r3 : Int), v = vi r3 ∧ Q r3 w7))))
theorem places_order.ok{Q:Int→World→Prop}{x:TPlaceMatch}{y:TPlaceMatch}{w:World}(h:places_order.R Q x y w):Cl Pg 189 #[vg (TPlaceMatch.enc x),vg (TPlaceMatch.enc y)] w (fun v w'=>∃(r0:Int),v=vi r0∧Q r0 w'):=by
 refine calls_args (args:=[vg (TPlaceMatch.enc x),vg (TPlaceMatch.enc y)]) Tryz.func189 ?_
 unfold places_order.R at h
 refine W_regseq ?_
 refine alp h ?_
 intro b1 w1 eb ew hb_b1 h
 clear eb ew
 refine alp h ?_
 intro b2 w2 eb ew hb_b2 h
 have old_hb_b1:=hb_b1
 replace hb_b1:=al_keep ew hb_b1
 have ne_b1_b2:b1≠b2:=blk_ne old_hb_b1 eb
 clear old_hb_b1
 clear eb ew
 refine ps 1 [(4,vi 0)] ?_
 refine WO_nil ?_
 refine drs folM [[],[],[],[],[1,3],[],[],[],[],[1,3,6,8],[1,3,6,8],[1,3,6,8],[1,3,6,8]] [.p 0,.l 1,.p 2,.l 3,.p 5,.l 6,.p 7,.l 8,.e 4,.e 9,.e 10,.e 11,.p 12] h ?_
 intro w3 ew h
 replace hb_b1:=dr_keep ew hb_b1
 replace hb_b2:=dr_keep ew hb_b2
 clear ew
 refine psC 1 [(5,vp ⟨b1,1,none⟩)] ?_
 refine lb1C tk3 hb_b1 ?_
 refine psC 1 [(7,vp ⟨b2,1,none⟩)] ?_
 refine lb1C tk3 hb_b2 ?_
 refine psC 1 [(10,vp ⟨b1,0,none⟩)] ?_
 refine lb1C tk3 hb_b1 ?_
 refine psC 1 [(12,vp ⟨b2,0,none⟩)] ?_
 refine lb1C tk3 hb_b2 ?_
 refine clC h ?_
 rintro _ w4 ⟨r1,rfl,hk0,hk1,h⟩
 replace hb_b1:=kp_at hk0 hb_b1
 replace hb_b2:=kp_at hk1 hb_b2
 refine⟨AllOk.cons (Pend_ok (ex_load rfl rfl (run_loadVar1 tk3 (cell_blk hb_b2 rfl))))<|AllOk.cons (Pend_ok (ex_load rfl rfl (run_loadVar1 tk3 (cell_blk hb_b1 rfl))))<|AllOk.nil,?_⟩
 refine clC h ?_
 rintro _ w5 ⟨r2,rfl,h⟩
 refine⟨AllOk.nil,?_⟩
 refine alsC 2 h ?_
 intro b3 w6 eb ew hb_b3 h
 clear eb ew hb_b3
 refine⟨AllOk.nil,?_⟩
 refine clC h ?_
 rintro _ w7 ⟨r3,rfl,h⟩
 refine⟨AllOk.nil,?_⟩
 refine psC 1 [(4,vi r3)] ?_
 refine WC_nil ?_
 refine W_ret ?_
 exact ret1 (v:=vi r3) (t:=4) rfl rfl ⟨_,rfl,h⟩
theorem or2_z(a b:Int)(w:World)(blk:Nat)(hb:w.heap[blk]? =some (Obj.cells #[vi a,vi b] 3 (0,0))):Cl Pg 204 #[vl (some ⟨blk,0,none⟩) 2 2] w fun v w'=>v=vi (orZ [a,b])∧w'=w:=by
 refine Calls.mono (cmp_Or_int.ok (Q:=fun r w'=>r=orZ [a,b]∧w'=w) (vals_a:=some ⟨blk,0,none⟩) (vals_n:=2) (vals_c:=2) (w:=w) ⟨3,?_⟩) fun e w' ⟨v,he,r,hv,hr,hw⟩=>⟨v,he,by rw[hv,hr],hw⟩
 have h0:w.cell? ⟨blk,0,none⟩=some (vi a):=cell_blk hb rfl
 have h1:w.cell? ⟨blk,1,none⟩=some (vi b):=cell_blk hb rfl
 refine ifb_t (by decide) ⟨_,rfl,by decide,by decide,a,h0,⟨fun h=>⟨?_,rfl⟩,fun h=>?_⟩⟩
 ·simp[orZ,h]
 have ha:a=0:=by simpa using h
 refine ifb_t (by decide) ⟨_,rfl,by decide,by decide,b,h1,⟨fun h=>⟨?_,rfl⟩,fun h=>?_⟩⟩
 ·simp[orZ,ha,h]
 have hb0:b=0:=by simpa using h
 refine ifb_f (by decide) ⟨?_,rfl⟩
 simp[orZ,ha,hb0]
def cmpMZ(x y:TPlaceMatch):Int:=orZ [cmpZ x.Cost y.Cost,cmpZ x.Place y.Place]
theorem cmpM_z(x y:TPlaceMatch)(w:World):Calls Pg 189 #[.agg x.enc.toArray,.agg y.enc.toArray] w fun e w'=>e= .returned (.int .i64 (cmpMZ x y))∧∃q os,w'=grow (w.drewN q) os:=by
 have hk:∀{w':World} {w2:World} {b:Nat},w2=w'→Kp b w' w2:=fun h=>by subst h;rfl
 refine Calls.mono (places_order.ok (Q:=fun r w'=>r=cmpMZ x y∧w'=grow (w.drewN 1) #[.cells #[vi x.Place,vi x.Cost] 80,.cells #[vi y.Place,vi y.Cost] 80,.cells #[vi (cmpZ x.Cost y.Cost),vi (cmpZ x.Place y.Place)] 3]) (x:=x) (y:=y) (w:=w) ?_) fun e w' ⟨v,he,r,hv,hr,hw⟩=>⟨by rw[he,hv,hr],_,_,hw⟩
 show Cl _ _ _ _ _
 refine Calls.mono (cmp_z x.Cost y.Cost _) fun e w1 ⟨v,he,hv,hw⟩=>⟨v,he,cmpZ x.Cost y.Cost,hv,hk hw,hk hw,?_⟩
 subst hw
 refine Calls.mono (cmp_z x.Place y.Place _) fun e w1 ⟨v,he,hv,hw⟩=>⟨v,he,cmpZ x.Place y.Place,hv,?_⟩
 subst hw
 show Cl _ _ _ _ _
 refine Calls.mono (or2_z _ _ _ _ ?_) fun e w1 ⟨v,he,hv,hw⟩=>⟨v,he,_,hv,rfl,?_⟩
 ·exact heap_alloc_new _ _
 ·rw[hw]
  exact congrArg (fun h=>({w with heap:=h,drawn:=w.drawn+1}:World)) (push3 w.heap _ _ _)
end Go.Proofs.YtpndfdfipkadkaaGreatDoor.Fx
namespace Go.Proofs.YtpndfdfipkadkaaGreatDoor
open Go Go.Wx Go.Ax Go.Sort
structure Mh where
 place:Int
 cost:Int
deriving Inhabited,DecidableEq
def Mh.enc(x:Mh):List D:=[di x.place,di x.cost]
theorem pdMh(x:Mh):PdL x.enc:= .cons (.v _) (.one (.v _))
def Mh.vals(x:Mh):List Value:=[.int .i64 x.place,.int .i64 x.cost]
def mLt(x y:Mh):Bool:=if x.cost≠y.cost then decide (x.cost<y.cost)else decide (x.place<y.place)
def mCmp(x y:Mh):Int:=Fx.cmpMZ ⟨x.place,x.cost⟩ ⟨y.place,y.cost⟩
theorem mLt_iff{x y:Mh}:mLt x y=true↔x.cost<y.cost∨x.cost=y.cost∧x.place<y.place:=by
 unfold mLt
 by_cases h1:x.cost=y.cost
 ·simp[h1]
 ·simp[h1]
theorem swoM:SWO mLt:=by
 refine⟨fun x=>?_,fun x y z h1 h2=>?_,fun x y z h1 h2=>?_⟩
 ·cases h:mLt x x with
  | false=>rfl
  | true=>rw[mLt_iff]at h;omega
 ·rw[mLt_iff]at*;omega
 ·cases h:mLt x z with
  | false=>rfl
  | true=>
   have n1:¬mLt x y=true:=by rw[h1];simp
   have n2:¬mLt y z=true:=by rw[h2];simp
   rw[mLt_iff]at*;omega
theorem mLt_one{x y:Mh}(h1:mLt x y=false)(h2:mLt y x=false):x=y:=by
 have n1:¬mLt x y=true:=by rw[h1];simp
 have n2:¬mLt y x=true:=by rw[h2];simp
 rw[mLt_iff]at n1 n2
 cases x;cases y
 simp only[Mh.mk.injEq]at*
 omega
theorem mLt_cmp(x y:Mh):decide (mCmp x y<0)=mLt x y:=by
 unfold mCmp Fx.cmpMZ Fx.orZ Fx.cmpZ mLt
 by_cases h1:x.cost=y.cost
 ·by_cases h3:x.place<y.place
  ·simp[h1,h3]
  ·by_cases h4:x.place>y.place
   ·simp[h1,h3,h4]
   ·simp[h1,h3,h4]
 ·by_cases h3:x.cost<y.cost
  ·simp[h1,h3]
  ·have h4:x.cost>y.cost:=by omega
   simp[h1,h3,h4]
theorem lt_of_mcf:Go.Proofs.ltOf mCmp=mLt:=by
 funext x y
 exact mLt_cmp x y
theorem mEnc(l:List Mh):l.map Mh.enc=encK Mh.vals l:=by
 unfold encK
 exact List.map_congr_left fun x _=>rfl
theorem sortM_c (l : List Mh) {b n : Nat} {H : Heap} (hb : H[b]? = some (.arr 80 2 (l.map Mh.enc))) (hn : l.length = n) (hm : n ≤ 1000000) :
    AC Pg 188 [.sl b 0 n n, .v (.func (.func 189) #[] #[])] H fun d H' ms => d = .any ∧ H' = H.set b (.arr 80 2 ((isort mLt l).map Mh.enc)) ∧ ms = [b] := by
  rw [mEnc] at hb ⊢
  refine AC_rowK (enc := Mh.vals) (fun _ => rfl) (fun x => List.all_eq_true.1 rfl) hb hn (isort_perm l).length_eq (by kernel_rfl) (fun _ a c w => ?_) fun blk c w _ hnc hH hblk => ?_
  · refine Calls.mono (Go.Proofs.AnyF.slices_SortFunc_none Go.Proofs.Tryz.sortMatch a c _ w) ?_
    rintro e w' ⟨rfl, rfl⟩
    exact ⟨⟨_, rfl⟩, rfl⟩
  · have h := Go.Proofs.AnyQ.slices_SortFunc (P := Pg) Go.Proofs.Tryz.sortMatch 2 (fun w => (tyk_run (w := w) (show tyk Pg _ = some (true, 2) by kernel_rfl)).1) (fun w => (tyk_run (w := w) (show tyk Pg _ = some (true, 2) by kernel_rfl)).2) Mh.vals (fun _ => rfl) (fun x => List.all_eq_true.1 rfl) mCmp (by rw [lt_of_mcf]; exact swoM) 189 #[] blk 0 c l.toArray w (callB_enters (by kernel_rfl)) (fun m os dk hdk x y => Calls.mono (Fx.cmpM_z ⟨x.place, x.cost⟩ ⟨y.place, y.cost⟩ _) fun e w' h => h) hH hblk (by simp; omega)
    rw [show l.toArray.size = n by simpa using hn] at h
    refine Calls.mono h ?_
    rintro e w' ⟨rfl, d', m, os, hp, hs, rfl⟩
    refine ⟨⟨_, rfl⟩, m, os, ?_⟩
    rw [lt_of_mcf] at hs
    have hd : d'.size = n := hp.1.trans (by simpa using hn)
    have he := isort_unique swoM (perm_of_permIn (d := l.toArray) (d' := d') (by rw [show l.toArray.size = n by simpa using hn]; exact hp)) (asc_of_sortedIn (by rw [hd]; exact hs)) fun x _ y _ => mLt_one
    congr 1
    apply Array.ext'
    simpa using he
end Go.Proofs.YtpndfdfipkadkaaGreatDoor
set_option maxRecDepth 100000
namespace Go.Proofs.YtpndfdfipkadkaaGreatDoor
open Go Go.Wx Go.Ax
def mStep(raw:ByteArray→Auto)(a:Auto)(st:List Pl)(d:Int)(out:List Mh)(q:Int):List Mh:=match fitL raw a (namesL st q d)with
 | none=>out
 | some c=>out++[⟨q,c⟩]
def mchL(raw:ByteArray→Auto)(a:Auto)(st:List Pl)(d:Int)(ps:List Int):List Mh:=ps.foldl (mStep raw a st d) []
theorem mchL_snoc(raw:ByteArray→Auto)(a:Auto)(st:List Pl)(d:Int)(ps:List Int)(q:Int):mchL raw a st d (ps++[q])=mStep raw a st d (mchL raw a st d ps) q:=by
 unfold mchL
 rw[List.foldl_append]
 rfl
theorem mchL_take(raw:ByteArray→Auto)(a:Auto)(st:List Pl)(d:Int){ps:List Int}{i:Nat}(h:i<ps.length):mchL raw a st d (ps.take (i+1))=mStep raw a st d (mchL raw a st d (ps.take i)) ps[i]:=by
 rw[List.take_succ_eq_append_getElem h,mchL_snoc]
theorem mchL_len(raw:ByteArray→Auto)(a:Auto)(st:List Pl)(d:Int):∀ps:List Int,(mchL raw a st d ps).length≤ps.length:=by
 have key:∀(ps:List Int) out,(ps.foldl (mStep raw a st d) out).length≤out.length+ps.length:=by
  intro ps
  induction ps with
  | nil=>intro out;simp
  | cons q ps ih=>
   intro out
   have h:=ih (mStep raw a st d out q)
   have h2:(mStep raw a st d out q).length≤out.length+1:=by unfold mStep;split<;>simp
   simp only[List.foldl_cons,List.length_cons]
   omega
 intro ps
 have:=key ps []
 simpa[mchL]using this
def anyMany(st:List Pl)(d:Int)(s:List Spell)(ps:List Int):Bool:=ps.any fun q=>manyL (namesL st q d) s !=0
def mchD(v:List Mh × Int):D:= .tup [rows Mh.enc v.1,di v.2]
theorem frzMh{H:Heap}{v:List Mh × Int}{xs:List Mh}{e:Int}{x:D}(h:(xs,e)=v)(hx:FrzK 0 H x (rows Mh.enc xs)):Frz H (.tup [x,di e]) (mchD v):=by
 rw[←h]
 exact Frz.tup2 hx (.pd (.v _))
theorem frzNoM{H:Heap}:FrzK 0 H (.v (.slice none 0 0)) (rows Mh.enc []):= .nil
noncomputable def c135:Code:=Tryz.f135.body.getD .skip
end Go.Proofs.YtpndfdfipkadkaaGreatDoor
set_option maxRecDepth 100000
namespace Go.Proofs.YtpndfdfipkadkaaGreatDoor
open Go Go.Wx Go.Ax
end Go.Proofs.YtpndfdfipkadkaaGreatDoor
set_option maxRecDepth 100000
namespace Go.Proofs.YtpndfdfipkadkaaGreatDoor
open Go Go.Wx Go.Ax
def Least(l:List Mh)(o:Option Mh):Prop:=(l=[]∧o=none)∨∃m,m∈l∧o=some m∧∀y∈l,mLt y m=false
theorem Least.one{l:List Mh}{o p:Option Mh}(h1:Least l o)(h2:Least l p):o=p:=by
 rcases h1 with⟨h,rfl⟩ | ⟨m,g1,rfl,g3⟩
 ·rcases h2 with⟨_,rfl⟩ | ⟨m,g1,rfl,g3⟩
  ·rfl
  ·rw[h]at g1;cases g1
 ·rcases h2 with⟨h,_⟩ | ⟨m2,k1,rfl,k3⟩
  ·rw[h]at g1;cases g1
  ·rw[mLt_one (g3 _ k1) (k3 _ g1)]
end Go.Proofs.YtpndfdfipkadkaaGreatDoor
set_option maxRecDepth 100000
namespace Go.Proofs.YtpndfdfipkadkaaGreatDoor
open Go Go.Wx Go.Ax
def fewB(l:List Ev)(s:List Spell)(a:Auto):Bool:=decide ((l.length:Int)≤40)&&(decide ((s.length:Int)≤30)&&(decide ((a.arcs.length:Int)≤200)&&(decide (a.states≤200)&&decide ((a.ends.length:Int)≤200))))
theorem few_c(l:List Ev)(s:List Spell)(a:Auto):Pur Pg 63 [rows Ev.enc l,rows Spell.enc s,.agg a.enc] (db (fewB l s a)):=by
 refine fn Tryz.func63 [] [] (.cons (pd_rows pdEv l) (.cons (pd_rows pdSpell s) (.one (.agg (pdAuto a))))) ?_
 conv=>whnf
 refine if_ (fun h1=>?_) fun h1=>?_
 ·conv=>whnf
  refine if_ (fun h2=>?_) fun h2=>?_
  ·conv=>whnf
   refine if_ (fun h3=>?_) fun h3=>?_
   ·conv=>whnf
    refine if_ (fun h4=>?_) fun h4=>?_
    ·conv=>whnf
     refine frzb ?_
     simp at h1 h2 h3 h4
     unfold fewB
     simp[h1,h2,h3,h4]
    ·conv=>whnf
     refine frzb ?_
     simp at h1 h2 h3 h4
     unfold fewB
     simp[h1,h2,h3];omega
   ·conv=>whnf
    refine frzb ?_
    simp at h1 h2 h3
    unfold fewB
    simp[h1,h2];omega
  ·conv=>whnf
   refine frzb ?_
   simp at h1 h2
   unfold fewB
   simp[h1];omega
 ·conv=>whnf
  refine frzb ?_
  simp at h1
  unfold fewB
  simp;omega
end Go.Proofs.YtpndfdfipkadkaaGreatDoor
set_option maxRecDepth 100000
namespace Go.Proofs.YtpndfdfipkadkaaGreatDoor
open Go Go.Wx Go.Ax
theorem matchingM_c (l : List Ev) (ha : Acc l) (d : Int) (a : Auto) (s : List Spell) (hA : chkA a = 0) (hS : chkS s = 0) (ps : List Int) (hp : ps.length ≤ 100000) :
    AC Pg 135 [stD (prg (onL l d)), rows ienc ps, di d, .agg a.enc, rows Spell.enc s] [] fun D H' ms => ms = [] ∧ ((anyMany (onL l d) d s ps = true ∧ D = .tup [.v (.slice none 0 0), di 2]) ∨ (anyMany (onL l d) d s ps = false ∧ ∃ out n, out = isort mLt (mchL (rawA · s) a (onL l d) d ps) ∧ out.length = n ∧ n ≤ ps.length ∧ D = .tup [.sl 1 0 n n, di 0] ∧ H' = [.arr 75 3 [a.enc], .arr 80 2 (out.map Mh.enc)])) := by
  refine AC_fn Tryz.func135 rfl rfl rfl [] (fun _ => true) (fun b h => nomatch h) (AW_rest (c' := restC 0 c135) ?_)
  refine goC 2 [] [] ?_
  conv => whnf
  refine AW_ghost 12 80 2 (Nat.zero_le _) ?_
  refine go [] [] ?_
  refine AW_idx ps.length (fun i st => ∃ out n, out = mchL (rawA · s) a (onL l d) d (ps.take i) ∧ out.length = n ∧ (∀ q ∈ ps.take i, manyL (namesL (onL l d) q d) s = 0) ∧ HasG [(0, stD (prg (onL l d))), (2, di d), (4, rows Spell.enc s), (8, .ptr 0 0 0 1), (12, .sl 1 0 n n), (18, rows ienc ps), (19, di ps.length), (20, di i)] [.arr 75 3 [a.enc], .arr 80 2 (out.map Mh.enc)] st) ⟨[], 0, rfl, rfl, by simp, hasG (G := []) ⟨rfl, rfl, rfl, rfl, rfl, rfl, by simp [rows, dlen]; rfl, rfl, trivial⟩ rfl⟩ ?_
  rintro i _ hi ⟨out, n, ho, hn, hz, e0, G, rfl⟩
  have hnb : n ≤ 100000 := by
    have h1 := mchL_len (rawA · s) a (onL l d) d (ps.take i)
    rw [← ho, List.length_take] at h1
    omega
  refine AW_drop (BlL.cons (.pd (pd_st _)) (.v (.cons (.pd (pd_rows pdSpell s)) (.cons (.ptr (by simp)) (.cons (.sl (by simp)) (.cons (.pd (pd_rows pdI ps)) (.v (.v .nil)))))))) (BlH.cons (fun y hy d hd => by
    rw [List.mem_singleton.1 hy] at hd
    exact .pd (pdAuto a d hd)) (.cons (BlO.enc pdMh) .nil)) (Nat.zero_le _) fun e => ?_
  refine go [] [] (if_ (fun hlt => ?_) (fun hlt => ?_))
  · simp at hlt
    have htk := mchL_take (rawA · s) a (onL l d) d hlt
    rw [← ho] at htk
    refine row_at hlt ?_
    conv => whnf
    refine (fitsOn_c l ha ps[i] d a s hA hS).call ?_
    by_cases hM : manyL (namesL (onL l d) ps[i] d) s = 0
    · have hz2 : ∀ q ∈ ps.take (i + 1), manyL (namesL (onL l d) q d) s = 0 := fun q hq => by
        rw [List.take_succ_eq_append_getElem hlt, List.mem_append, List.mem_singleton] at hq
        exact hq.elim (hz q) fun h => h ▸ hM
      unfold mStep at htk
      cases hF : fitL (rawA · s) a (namesL (onL l d) ps[i] d) with
      | none =>
        have hv : fitsN (rawA · s) a s (namesL (onL l d) ps[i] d) = (0, false, 0) := by unfold fitsN; rw [if_neg (by rw [hM]; simp), hF]; rfl
        rw [hv]
        rw [hF] at htk
        conv => whnf
        exact ⟨hlt, out, n, htk.symm, hn, hz2, hasG (G := []) ⟨rfl, rfl, rfl, rfl, rfl, rfl, rfl, inc hlt (by simp only [maxLen]; omega), trivial⟩ rfl⟩
      | some c =>
        have hv : fitsN (rawA · s) a s (namesL (onL l d) ps[i] d) = (c, true, 0) := by unfold fitsN; rw [if_neg (by rw [hM]; simp), hF]; rfl
        rw [hv]
        rw [hF] at htk
        conv => whnf
        refine push (by simp [hn]) (by omega) ?_
        exact ⟨hlt, out ++ [⟨ps[i], c⟩], n + 1, htk.symm, by simp [hn], hz2, hasG ⟨rfl, rfl, rfl, rfl, rfl, rfl, rfl, inc hlt (by simp only [maxLen]; omega), trivial⟩ (by rw [List.map_append]; rfl)⟩
    · have hv : fitsN (rawA · s) a s (namesL (onL l d) ps[i] d) = (0, false, 2) := by unfold fitsN; rw [if_pos hM]
      rw [hv]
      conv => whnf
      exact ⟨rfl, .inl ⟨List.any_eq_true.2 ⟨_, List.getElem_mem hlt, by simpa using hM⟩, rfl⟩⟩
  · simp at hlt
    have hil : i = ps.length := by omega
    subst hil
    rw [List.take_length] at ho hz
    have hv : anyMany (onL l d) d s ps = false := by
      unfold anyMany
      rw [List.any_eq_false]
      intro q hq
      simp [hz q hq]
    conv => whnf
    refine AC.mono (sortM_c out (b := 1) rfl hn (by omega)) ?_
    rintro _ H' ms ⟨rfl, rfl, rfl⟩
    conv => whnf
    have hsl : (isort mLt out).length = n := by rw [(isort_perm out).length_eq, hn]
    refine ⟨rfl, .inr ⟨hv, isort mLt out, n, by rw [ho], hsl, ?_, rfl, rfl⟩⟩
    rw [← hn, ho]
    exact mchL_len _ _ _ _ _
end Go.Proofs.YtpndfdfipkadkaaGreatDoor
namespace Go.Ax
open Go Go.Wx
variable [Globs]
section
variable {P : Program} {X X' : Cx} {M M' : Nat → Prop} {e : Nat → D} {H : Heap} {o : Oper} {K : OpK}
theorem zc_len(zs:Array Value)(n:Nat):(Builtin.zeroCells zs n).toList.length=n*zs.size:=by simp[Builtin.zeroCells]
theorem zc_get(zs:Array Value)(n j:Nat)(h:j<n*zs.size):(Builtin.zeroCells zs n).toList[j]? =some zs[j % zs.size]! :=by
 unfold Builtin.zeroCells
 simp[h]
theorem clearK_ok {t el k : Nat} {x : Operand} {zs : List D} {b i n h T : Nat} {xs : List (List D)} (ho : o.op = .call { callee := .builtin .clear, args := #[x], argTypes := #[t] }) (hslk : slk P t = some (el, k)) (hz : zeroD P el = some zs) (hx : dev e x = .sl b i n h) (hb : H[b]? = some (.arr T k xs)) (hk : 0 < k) (hzl : zs.length = k) (hzo : zs.all one = true) (hl : xs.length = h) (hin : i + n ≤ xs.length) (hK : K (.tup []) (H.set b (.arr T k (fillR xs i n zs))) [b]) : AO1 P o K e H := by
  obtain ⟨hu, _⟩ := slk_spec hslk
  obtain ⟨z, rfl, hzr⟩ := zeroD_run hz
  have hzs : z.cells.size = k := by simpa using hzl
  have hone : ∀ v ∈ z.cells.toList, v.oneCell' = true := fun v hv => by
    rw [List.all_eq_true] at hzo
    have := hzo (.v v) (List.mem_map.2 ⟨v, hv, rfl⟩)
    simpa [one] using this
  intro X M ec hs hH he
  subst hH
  have hr := he.dev x
  rw [hx] at hr
  obtain ⟨a, c, hy⟩ : ∃ a c, evl ec x = .slice a n c := by
    generalize evl ec x = y at hr
    cases hr
    exact ⟨_, _, rfl⟩
  rw [hy] at hr
  have hsame : n = 0 → X.H.set b (.arr T k (fillR xs i n (z.cells.toList.map .v))) = X.H := fun h0 => by
    refine set_same ?_
    rw [hb, h0]
    simp [fillR]
  have hexec : ∀ {w'}, (Builtin.clear_ #[t] o.type #[evl ec x]).run P X.w = .ok (.tuple #[]) w' → (execOp (evl ec) o).run P X.w = .ok (.value (.tuple #[])) w' := fun {w'} hrun => by
    unfold execOp
    simp only [ho, resolve, invoke, builtin, run_bind, run_pure]
    simp [hrun]
  have empty : n = 0 → stepE P (execOp (evl ec) o) X.w fun v w' => ∃ X' M' d ms, Ev (fun b => b ∈ ms) X M X' M' ∧ Sim X' M' ∧ X'.w = w' ∧ Rp X' d v ∧ K d X'.H ms := fun h0 => by
    rw [hsame h0] at hK
    refine stepE_val (hexec (w' := X.w) ?_) ⟨X, M, _, [b], ?_, hs, rfl, .tup rfl fun j d x h1 _ => (by simp at h1), hK⟩
    · subst h0
      rw [hy]
      unfold Builtin.clear_
      cases a <;> simp [run_bind, run_pure, run_underlying hu]
    · exact Ev.refl _ X M
  rcases hs.sl hr hb hl with ⟨h0, _⟩ | ⟨hg, rfl, hnc, hcm, cur, hcur, hcs⟩
  · exact empty h0
  by_cases h0 : n = 0
  · exact empty h0
  obtain ⟨rp, hrp⟩ : ∃ rp, rp = (Builtin.zeroCells z.cells n).toList := ⟨_, rfl⟩
  have hrl : rp.length = n * k := by rw [hrp, zc_len, hzs]
  have hrg : ∀ j, j < n * k → rp[j]? = some z.cells[j % k]! := fun j hj => by rw [hrp, zc_get _ _ _ (by rw [hzs]; exact hj), hzs]
  have hro : ∀ u ∈ rp, u.oneCell' = true := fun u hu => by
    obtain ⟨j, hj, he⟩ := List.mem_iff_getElem.1 hu
    have h1 := hrg j (by omega)
    rw [List.getElem?_eq_getElem hj, he] at h1
    rw [Option.some.inj h1]
    have hm : j % k < z.cells.size := by rw [hzs]; exact Nat.mod_lt _ hk
    rw [getElem!_pos z.cells _ hm]
    exact hone _ (by simp)
  have hfit : i * k + n * k ≤ cur.size := by
    have := Nat.mul_le_mul_right k (show i + n ≤ i + c by omega)
    rw [Nat.add_mul] at this
    omega
  have hsz := size_putAt rp cur (i * k)
  have E := set_ev (xs' := fillR xs i n (z.cells.toList.map .v)) (cur' := putAt cur (i * k) rp) hs hb hg (.inl (fillR_len hin)) hcur hsz
  rcases hs.blk b _ hb with ⟨hg', _⟩ | ⟨_, cur2, hcur2, hl2, hzz, hv⟩
  · rw [hg] at hg'; cases hg'
  rw [hcur] at hcur2
  cases hcur2
  have S := set_sim (xs' := fillR xs i n (z.cells.toList.map .v)) (cur' := putAt cur (i * k) rp) hs hb hg (.inl (fillR_len hin)) hcur hsz (.inr ⟨hg, _, getElem_setB_self hcur, by rw [hsz, fillR_len hin]; exact hl2, fun ds hd => by
      unfold fillR at hd
      simp only [List.mem_append, List.mem_replicate] at hd
      rcases hd with hd | hd | hd
      · exact hzz ds (List.mem_of_mem_take hd)
      · rw [hd.2]; exact hzl
      · exact hzz ds (List.mem_of_mem_drop hd), fun i' j' d hd => by
      obtain ⟨ds, h1, h2⟩ := at2_some.1 hd
      rw [fillR_get hin] at h1
      rw [get_putAt _ _ _ _ (by rw [hrl]; exact hfit), hrl]
      by_cases hr : i ≤ i' ∧ i' < i + n
      · rw [if_pos hr] at h1
        cases h1
        obtain ⟨hj', h2'⟩ := List.getElem?_eq_some_iff.1 h2
        have hjk : j' < k := by rw [hzl] at hj'; exact hj'
        obtain ⟨q, hq⟩ : ∃ q, i' = i + q := ⟨i' - i, by omega⟩
        have hqn : q < n := by omega
        have hqk : q * k + k ≤ n * k := by
          have := Nat.mul_le_mul_right k (show q + 1 ≤ n by omega)
          rw [Nat.add_mul, Nat.one_mul] at this
          exact this
        have hpos : i' * k + j' = i * k + (q * k + j') := by rw [hq, Nat.add_mul]; omega
        rw [hpos, if_pos (by omega), Nat.add_sub_cancel_left, hrg _ (by omega)]
        have hmod : (q * k + j') % k = j' := by rw [Nat.add_comm, Nat.add_mul_mod_self_right, Nat.mod_eq_of_lt hjk]
        rw [hmod, getElem!_pos z.cells j' (by omega)]
        refine ⟨_, rfl, hone _ (by simp), ?_⟩
        rw [← h2']
        simp only [List.getElem_map]
        exact .v _
      · rw [if_neg hr] at h1
        have hj' : j' < k := by
          have g1 := (List.getElem?_eq_some_iff.1 h2).1
          rw [hzz ds (List.mem_of_getElem? h1)] at g1
          exact g1
        rw [if_neg (by
          rintro ⟨c1, c2⟩
          rcases Nat.lt_or_ge i' i with h | h
          · have := Nat.mul_le_mul_right k (show i' + 1 ≤ i by omega)
            rw [Nat.add_mul, Nat.one_mul] at this
            omega
          · have := Nat.mul_le_mul_right k (show i + n ≤ i' by omega)
            rw [Nat.add_mul] at this
            omega)]
        obtain ⟨x, hx, ho', hr'⟩ := hv i' j' d (at2_some.2 ⟨ds, h1, h2⟩)
        exact ⟨x, hx, ho', hr'.ev E hs⟩⟩)
  refine stepE_val (hexec ?_) ⟨_, M, _, [b], E, S, rfl, .tup rfl fun j d x h1 _ => (by simp at h1), hK⟩
  rw [hy]
  have hst := run_storeCells (P := P) rp 0 (w := X.w) (b := X.ρ b) (off := i * k) hcur (by rw [hrl]; simpa using hfit) hro
  unfold Builtin.clear_
  cases n with
  | zero => exact absurd rfl h0
  | succ n =>
    simp [run_bind, run_pure, run_underlying hu, hzr, ← hrp]
    rw [Nat.add_zero] at hst
    rw [hst]
    rfl
theorem AOs_dops{n:Nat}{A:Nat→Bool}{b0:Nat}{hp:List Nat}{ops:Array Oper}{K:St→Prop}{l2:List Oper}:∀{l1:List Oper} {e:Nat→D} {H:Heap},dops P n A hp ops l1 e H (fun e' H'=>AOs P n A b0 ops K l2 ⟨e',H'⟩)→AOs P n A b0 ops K (l1++l2) ⟨e,H⟩
 |[],e,H,h=>h
 | o::l,e,H,h=>by
  rw[dops_cons]at h
  obtain⟨hd,h⟩:=h.t
  rcases dguard_cases h with⟨hw,h⟩ | ⟨hw,h⟩
  ·refine AOs_step (s:=⟨e,H⟩) hw hd ((dopE_ok h).mono fun d H' ms hk=>?_)
   obtain⟨h1,h2⟩:=hk.t
   exact⟨h1,AOs_dops (force_of h2)⟩
  ·exact AOs_skip (s:=⟨e,H⟩) hw hd (AOs_dops h)
end
end Go.Ax
set_option maxRecDepth 100000
namespace Go.Proofs.YtpndfdfipkadkaaGreatDoor
open Go Go.Wx Go.Ax
theorem indexFuncM_c(xs:List Mh)(g:FuncId)(caps:List D)(p:Mh→Bool)(hc:PdL caps)(hp:∀x∈xs,Pur Pg g (.agg x.enc::caps) (db (p x))):Pur Pg 190 [rows Mh.enc xs,.clo g caps] (di (idx p xs)):=by
 refine Pur_len 0 rfl fun hl=>fn Tryz.func190 [] [] (.cons (pd_rows pdMh xs) (.cons (.clo hc) .nil)) ?_
 rw[List.length_map]at hl
 refine AW_idx xs.length (fun i st=>(∀x∈xs.take i,p x=false)∧Has [(0,rows Mh.enc xs),(1,.clo g caps),(7,di (xs.map Mh.enc).length),(8,di i)] [] st) ⟨by simp,has ⟨rfl,rfl,rfl,rfl,trivial⟩ rfl⟩ ?_
 rintro i _ _ ⟨h,e,rfl⟩
 refine go [] [] (if_ (fun hlt=>?_) (fun hlt=>?_))
 ·simp at hlt
  refine row_at hlt ?_
  refine(hp _ (List.getElem_mem hlt)).call ?_
  refine if_ (fun he=>?_) (fun he=>?_)
  ·exact frzi (idx_hit hlt he h).symm
  ·exact⟨hlt,take_succ hlt h he,has ⟨rfl,rfl,rfl,inc hlt hl,trivial⟩ rfl⟩
 ·simp at hlt
  rw[List.take_of_length_le hlt]at h
  exact frzi (idx_none h).symm
theorem first_hitG{α:Type}{xs:List α}{p:α→Bool}(h:¬∀x∈xs,p x=false):∃i,∃h:i<xs.length,p xs[i]=true∧∀x∈xs.take i,p x=false:=by
 induction xs with
 | nil=>exact absurd (fun _ h=>nomatch h) h
 | cons y l ih=>
  by_cases hy:p y=true
  ·exact⟨0,by simp,hy,by simp⟩
  ·obtain⟨i,h1,h2,h3⟩:=ih fun hl=>h fun x hx=>by
    rcases List.mem_cons.1 hx with rfl | hx
    ·simpa using hy
    ·exact hl x hx
   refine⟨i+1,by simp;omega,h2,fun x hx=>?_⟩
   rw[List.take_succ_cons]at hx
   rcases List.mem_cons.1 hx with rfl | hx
   ·simpa using hy
   ·exact h3 x hx
theorem keep_stepG{α:Type}{cur ys:List α}{i j:Nat}{F:List α}{v:α}(hl:cur.length=ys.length)(hF:cur.take i=F)(hr:cur.drop j=ys.drop j)(hij:i<j)(hj:j<ys.length):(cur.set i v).take (i+1)=F++[v]∧(cur.set i v).drop (j+1)=ys.drop (j+1)∧(cur.set i v).length=ys.length:=by
 refine⟨?_,?_,by simpa using hl⟩
 ·rw[List.take_succ_eq_append_getElem (by simp;omega),List.take_set_of_le (Nat.le_refl _),hF,List.getElem_set_self]
 ·rw[List.drop_set_of_lt (by omega)]
  rw[←List.drop_drop,←List.drop_drop,hr]
noncomputable def c137:Code:=Tryz.f137.body.getD .skip
noncomputable def r137:Array Oper:=match restC 4 c137 with | .seq (.region _ ops _) _=>ops | _=> #[]
theorem deleteM_c (B : AO) (xs : List Mh) (m : Nat) (g : FuncId) (caps : List D) (p : Mh → Bool) (hn : xs.length = m) (hb : m ≤ 500000) (hB : BlO 2 B) (hc : PdL caps) (hp : ∀ x ∈ xs, Pur Pg g (.agg x.enc :: caps) (db (p x))) :
    AC Pg 137 [.sl 1 0 m m, .clo g caps] [B, .arr 80 2 (xs.map Mh.enc)] fun d H' ms => ∃ zs : List Mh, zs.length = m ∧ zs.take (xs.filter fun x => !p x).length = xs.filter (fun x => !p x) ∧ d = .sl 1 0 (xs.filter fun x => !p x).length m ∧ H'.take 2 = [B, .arr 80 2 (zs.map Mh.enc)] ∧ ms = [1] := by
  have hI : Ex Pg 190 [.sl 1 0 m m, .clo g caps] [B, .arr 80 2 (xs.map Mh.enc)] (di (idx p xs)) := (indexFuncM_c xs g caps p hc hp).borrow (.v _) (.cons (frzK_rows (enc := Mh.enc) (xs := xs) (T := 80) (sz := 2) rfl hn hn pdMh (fun _ => rfl) (Nat.zero_le _)) (.cons (.pd (.clo hc)) .nil))
  refine AC_fn Tryz.func137 rfl rfl rfl [1] (fun b => Nat.blt 0 b) (fun b h h2 => by simp at h h2 ⊢; omega) (AW_rest (c' := restC 0 c137) ?_)
  refine goC 3 [] [] ?_
  refine hI.call ?_
  by_cases hno : ∀ x ∈ xs, p x = false
  · rw [idx_none hno]
    have hf : xs.filter (fun x => !p x) = xs := List.filter_eq_self.2 fun x hx => by rw [hno x hx]; rfl
    refine ⟨xs, hn, ?_, ?_, rfl, rfl⟩
    · rw [hf, List.take_length]
    · rw [hf, hn]; rfl
  · obtain ⟨i0, h0, h1, h2⟩ : ∃ i0, ∃ h : i0 < xs.length, p xs[i0] = true ∧ ∀ x ∈ xs.take i0, p x = false := first_hitG hno
    rw [idx_hit h0 h1 h2]
    have hw : IntKind.wrap .i64 ((i0 : Int) + 1) = ((i0 + 1 : Nat) : Int) := by rw [wadd (by omega) (by omega)]; omega
    have hlt0 : i0 < m := by omega
    conv => whnf
    refine AW_seq (AW_seq ?_)
    refine goC 1 [] [] ?_
    conv => whnf
    refine AW_block ?_
    refine AW_idx (m - (i0 + 1)) (fun c st => ∃ cur F, cur.length = m ∧ F = (xs.take (i0 + 1 + c)).filter (fun x => !p x) ∧ cur.take F.length = F ∧ F.length < i0 + 1 + c ∧ cur.drop (i0 + 1 + c) = xs.drop (i0 + 1 + c) ∧ HasG [(0, .sl 1 0 m m), (1, .clo g caps), (5, di F.length), (6, di (i0 + 1 + c : Nat))] [B, .arr 80 2 (cur.map Mh.enc)] st) ⟨xs, xs.take i0, hn, ?_, ?_, by rw [List.length_take]; omega, rfl, hasG (G := []) ⟨rfl, rfl, by rw [List.length_take, Nat.min_eq_left (by omega)]; rfl, congrArg di hw, trivial⟩ rfl⟩ ?_
    · rw [List.take_succ_eq_append_getElem h0, List.filter_append, List.filter_cons, h1, List.filter_eq_self.2 fun x hx => by rw [h2 x hx]; rfl]
      simp
    · rw [List.length_take, Nat.min_eq_left (by omega)]
    rintro c _ hcc ⟨cur, F, g1, g2, g3, g4, g5, e0, G, rfl⟩
    refine AW_drop (BlL.cons (.sl (by simp)) (.cons (.pd (.clo hc)) (.v (.v .nil)))) (BlH.cons hB (.cons (BlO.enc pdMh) .nil)) (Nat.le_refl 2) fun e => ?_
    have hnext : i0 + 1 + (c + 1) = i0 + 1 + c + 1 := by omega
    rw [hnext]
    generalize hjv : i0 + 1 + c = j at *
    refine go [] [] (if_ (fun hlt => ?_) (fun hlt => ?_))
    · have hjm : j < m := by have := of_decide_eq_true hlt; omega
      have hjx : j < xs.length := by omega
      have hjc : j < cur.length := by omega
      have hcj : cur[j] = xs[j] := by
        have h3 : (cur.drop j)[0]? = (xs.drop j)[0]? := by rw [g5]
        rw [List.getElem?_drop, List.getElem?_drop, Nat.add_zero, List.getElem?_eq_getElem hjc, List.getElem?_eq_getElem hjx] at h3
        exact Option.some.inj h3
      have hpc : Pur Pg g (.agg cur[j].enc :: caps) (db (p cur[j])) := by rw [hcj]; exact hp _ (List.getElem_mem hjx)
      have hFl : F.length < cur.length := by omega
      obtain ⟨q1, q2, q3⟩ := keep_stepG (v := cur[j]) (g1.trans hn.symm) g3 g5 g4 hjx
      have hft : (xs.take (j + 1)).filter (fun x => !p x) = if !p xs[j] then F ++ [xs[j]] else F := by
        rw [g2, filtT hjx]
      have hinc : ∀ {a : Nat}, a ≤ 600000 → IntKind.wrap .i64 ((a : Int) + 1) = ((a + 1 : Nat) : Int) := fun {a} ha => by rw [wadd (by omega) (by omega)]; omega
      refine ck (and_t (by simp [g1]) rfl) ?_
      refine ixl_any (by simpa using hjc) hjm ?_
      repeat ((conv => whnf); (first | refine ck (beq_len (by simp [g1])) ?_ | refine nth_at hjc ?_))
      conv => whnf
      refine hpc.call ?_
      refine if_ (fun hb => ?_) fun hb => ?_
      · refine ck (and_t (by simp [g1]) rfl) ?_
        refine ixl_any (by simpa using hFl) (by omega) ?_
        repeat ((conv => whnf); (first | refine ck (beq_len (by simp [g1])) ?_ | refine nth_at hFl ?_))
        refine lst_at (ds := cur[j].enc) rfl ?_
        conv => whnf
        have hb2 : p xs[j] = false := by rw [← hcj]; simpa using hb
        refine ⟨by omega, cur.set F.length cur[j], F ++ [cur[j]], by rw [q3, hn], by rw [hft, hb2, hcj]; rfl, by rw [List.length_append]; exact q1, by simp; omega, q2, hasG (G := [.arr 80 2 [cur[j].enc]]) ⟨rfl, rfl, ?_, congrArg di (hinc (by omega)), trivial⟩ ?_⟩
        · rw [List.length_append]
          exact congrArg di (hinc (by omega))
        · show [B, AO.arr 80 2 ((cur.map Mh.enc).set (0 + F.length) _), AO.arr 80 2 [cur[j].enc]] = _
          rw [Nat.zero_add, List.map_set]
          rfl
      · have hb2 : p xs[j] = true := by rw [← hcj]; simpa using hb
        refine ⟨by omega, cur, F, g1, by rw [hft, hb2]; rfl, g3, by omega, ?_, hasG (G := [_]) ⟨rfl, rfl, rfl, congrArg di (hinc (by omega)), trivial⟩ rfl⟩
        rw [← List.drop_drop, ← List.drop_drop, g5]
    · have hjm : j = m := by have := of_decide_eq_false hlt; omega
      have hFe : F = xs.filter fun x => !p x := by rw [g2, hjm, ← hn, List.take_length]
      have hFm : F.length ≤ m := by omega
      have hpos : pos' (some (F.length : Int)) = true := by
        have h : (0 : Int) ≤ (F.length : Int) := by omega
        exact nonneg_iff.2 h
      have hb1 : (lo' (some (F.length : Int))).ble (hi' m none) = true := Nat.ble_eq_true_of_le hFm
      have hb2 : (hi' m none).ble m = true := Nat.ble_eq_true_of_le (Nat.le_refl _)
      have hb3 : (lo' none).ble (hi' m (some (F.length : Int))) = true := Nat.ble_eq_true_of_le (Nat.zero_le _)
      have hb4 : (hi' m (some (F.length : Int))).ble m = true := Nat.ble_eq_true_of_le hFm
      refine AW_rest (c' := restC 4 c137) ?_
      refine AW_has (l := [(0, .sl 1 0 m m), (5, di F.length)]) (fun e1 => ?_) ⟨rfl, rfl, trivial⟩
      refine AW_seq (AW_region ?_)
      refine AOs_dops (hp := []) (l1 := r137.toList.take 3) (l2 := r137.toList.drop 3) ?_
      conv => whnf
      refine ck (beq_len (by simp [g1])) ?_
      conv => whnf
      refine ck (and_t (and_t hpos (and_t rfl (and_t hb1 hb2))) rfl) ?_
      conv => whnf
      refine AOs_step (show wantedD _ _ _ = some true from rfl) rfl ?_
      refine clearK_ok (el := 80) (k := 2) (zs := [di 0, di 0]) (b := 1) (i := 0 + F.length) (n := m - F.length) (h := m) (T := 80) (xs := cur.map Mh.enc) rfl (by kernel_rfl) (by kernel_rfl) rfl rfl (by decide) rfl rfl (by simp [g1]) (by simp; omega) ?_
      have hcl : 0 + F.length + (m - F.length) ≤ (cur.map Mh.enc).length := by simp; omega
      refine ⟨rfl, AOs_nil ?_⟩
      refine go [] [] ?_
      refine ck (beq_len ((fillR_len hcl).trans (by simp [g1]))) ?_
      conv => whnf
      refine ck (and_t (and_t rfl (and_t hpos (and_t hb3 hb4))) rfl) ?_
      conv => whnf
      refine ⟨cur.take F.length ++ (List.replicate (m - F.length) ⟨0, 0⟩ ++ cur.drop m), by simp; omega, ?_, ?_, ?_, rfl⟩
      · rw [← hFe, List.take_left' (by simp; omega), g3]
      · rw [← hFe]; rfl
      · show [B, AO.arr 80 2 (fillR (cur.map Mh.enc) (0 + F.length) (m - F.length) _)] = _
        rw [Nat.zero_add, fillR, show F.length + (m - F.length) = m by omega, List.map_append, List.map_append, List.map_replicate, List.map_take, List.map_drop]
        rfl
end Go.Proofs.YtpndfdfipkadkaaGreatDoor
set_option maxRecDepth 100000
namespace Go.Proofs.YtpndfdfipkadkaaGreatDoor
open Go Go.Wx Go.Ax
def psL(st:List Pl)(r:Int):List Int:=if r=0 then allL st else insideL st r
def findV(raw:ByteArray→Auto)(a:Auto)(s:List Spell)(st:List Pl)(d r most:Int):List Mh × Int:=
 if readyL a s≠0 then([],readyL a s)else if r≠0∧hereB st r=false then([],5)else if anyMany st d s (psL st r)then([],2)else((isort mLt (mchL raw a st d (psL st r))).filter fun m=> !decide (m.cost>most),0)
theorem find1_c(x:Mh)(most:Int):Pur Pg 138 [.agg x.enc,.fp [di most]] (db (decide (x.cost>most))):=by
 refine fn Tryz.func138 [] [] (.cons (.agg (pdMh x)) (.one (.fp (PdL.one (.v _))))) ?_
 exact frzb rfl
theorem placesP_c(t:List Pl)(hl:t.length≤400000):Pur Pg 110 [stD t] (rows ienc (allL t)):=by
 refine Pur_of (PdL.one (pd_st t)) (AC.mono (placesM_c t hl) ?_)
 rintro d H' ms ⟨ys,n,h1,h2,h3,h4,rfl,rfl,rfl⟩
 have hf:=frzK_take (k0:=0) (H:=[AO.arr 3 1 (ys.map ienc)]) (b:=0) (enc:=ienc) (n:=(allL t).length) (T:=3) (sz:=1) rfl (by omega) h1 pdI (fun _=>rfl) (Nat.le_refl _)
 rw[h2]at hf
 exact hf
theorem ps_len{l:List Ev}(ha:Acc l)(d r:Int):(psL (onL l d) r).length≤100000:=by
 have h1:=all_len (ha.invOn d).1.ids
 have h2:=inside_len (ha.invOn d).1.ids r
 have h3:=(ha.invOn d).2
 unfold psL
 split<;>omega
noncomputable def c68:Code:=Tryz.f68.body.getD .skip
theorem qFind_c(l:List Ev)(ha:Acc l)(d r:Int)(a:Auto)(s:List Spell)(hok:∀x∈s,x.ok)(most:Int):Pur Pg 68 [refG l,di d,di r,.agg a.enc,rows Spell.enc s,di most] (mchD (findV (rawA · s) a s (onL l d) d r most)):=by
 have hst:=acc_onSt ha d
 have hex:=exists_c (prg (onL l d)) r
 rw[here_prg]at hex
 have hpl:=placesP_c (prg (onL l d)) (Nat.le_trans hst.len (by omega))
 rw[allL_prg]at hpl
 have hin:=inside_c (prg (onL l d)) r hst
 rw[insideL_prg]at hin
 refine Pur_of (PdL.cons (pd_refG l) (.cons (.v _) (.cons (.v _) (.cons (.agg (pdAuto a)) (.cons (pd_rows pdSpell s) (.one (.v _))))))) (AC_fn Tryz.func68 rfl rfl rfl [] (fun _=>true) (fun b h=>nomatch h) (AW_rest (c':=restC 0 c68) ?_))
 have tail:∀(e0:Nat→D) (ps:List Int),readyL a s=0→¬(r≠0∧hereB (onL l d) r=false)→ps=psL (onL l d) r→AW Pg Tryz.f68.ntmps (fun _=>true) 0 (restC 6 c68) (fun ex s'=>dret Pg Tryz.f68.results.toList (fun d' H' _=>Frz H' d' (mchD (findV (rawA · s) a s (onL l d) d r most))) [] ex s'.e s'.H) ⟨dupds e0 [(1,di d),(4,rows Spell.enc s),(9,.ptr 0 0 0 1),(11,.ptr 1 0 0 1),(15,stD (prg (onL l d))),(16,rows ienc ps)],[.arr 75 3 [a.enc],.arr 3 1 [[di most]]]⟩:=by
  intro e0 ps h0 hE hps
  obtain⟨hA,hS⟩:=ready_ok h0
  have hpsl:=ps_len ha d r
  have hf:findV (rawA · s) a s (onL l d) d r most=if anyMany (onL l d) d s ps then([],2)else((isort mLt (mchL (rawA · s) a (onL l d) d ps)).filter fun m=> !decide (m.cost>most),0):=by
   unfold findV
   rw[if_neg (by rw[h0];simp),if_neg hE,hps]
  rw[←hps]at hpsl
  refine AW_frz (r:=[(1,di d),(4,rows Spell.enc s),(9,.fp a.enc),(11,.fp [di most]),(15,stD (prg (onL l d))),(16,rows ienc ps)]) (H1:=[]) (G:=[.arr 75 3 [a.enc],.arr 3 1 [[di most]]]) (Nat.le_refl _) (fun _ h=>nomatch h) ⟨rfl,.v,rfl,.pd (pd_rows pdSpell s),rfl,.fz (.fp rfl rfl (FrzL.refl (pdAuto a)).2),rfl,.fz (.fp rfl rfl (FrzL.refl (PdL.one (.v _))).2),rfl,.pd (pd_st _),rfl,.pd (pd_rows pdI ps),trivial⟩ fun e1=>?_
  refine goC 1 [] [] ?_
  refine AC.mono (matchingM_c l ha d a s hA hS ps hpsl) ?_
  rintro D H' ms ⟨rfl,⟨hM,rfl⟩ | ⟨hM,out,n,ho,hn,hnp,rfl,rfl⟩⟩
  ·conv=>whnf
   refine go [] [] ?_
   refine frzMh ?_ frzNoM
   rw[hf,if_pos hM]
  ·conv=>whnf
   refine go [] [] ?_
   refine AC.mono (deleteM_c (.arr 75 3 [a.enc]) out n 138 [.fp [di most]] (fun m=>decide (m.cost>most)) hn (by omega) (fun y hy d hd=>by
    rw[List.mem_singleton.1 hy]at hd
    exact .pd (pdAuto a d hd)) (PdL.one (.fp (PdL.one (.v _)))) fun x _=>find1_c x most) ?_
   rintro D H' ms ⟨zs,g1,g2,rfl,g3,rfl⟩
   have hg:H'[1]? =some (.arr 80 2 (zs.map Mh.enc)):=by
    have:(H'.take 2)[1]? =some (.arr 80 2 (zs.map Mh.enc)):=by rw[g3];rfl
    rwa[List.getElem?_take_of_lt (by decide)]at this
   have hle:(out.filter fun m=> !decide (m.cost>most)).length≤zs.length:=by
    have:=List.length_filter_le (fun m=> !decide (m.cost>most)) out
    omega
   have hfz:=frzK_take (k0:=0) (H:=H') (b:=1) (enc:=Mh.enc) (n:=(out.filter fun m=> !decide (m.cost>most)).length) (T:=80) (sz:=2) hg hle g1 pdMh (fun _=>rfl) (Nat.zero_le _)
   rw[g2]at hfz
   conv=>whnf
   refine frzMh ?_ hfz
   rw[hf,if_neg (by rw[hM];simp),ho]
 refine goC 6 [] [] ?_
 refine(ready_c l a s hok).call ?_
 refine if_ (fun h=>?_) fun h=>?_
 ·refine frzMh ?_ frzNoM
  unfold findV
  rw[if_pos (by simpa using h)]
 have h0:readyL a s=0:=by simpa using h
 refine(onP_c l d ha).call ?_
 refine ck rfl (force_to ?_)
 conv=>whnf
 by_cases hr:r=0
 ·refine iff_ (by simp[hr]) ?_
  conv=>whnf
  refine hpl.call ?_
  conv=>whnf
  refine iff_ (by simp[hr]) ?_
  conv=>whnf
  exact AW_has (fun e0=>tail e0 _ h0 (by simp[hr]) (by unfold psL;rw[if_pos hr])) (by exact⟨rfl,rfl,rfl,rfl,rfl,rfl,trivial⟩)
 ·refine ift (by simp[hr]) ?_
  conv=>whnf
  refine hex.call ?_
  conv=>whnf
  refine if_ (fun h=>?_) fun h=>?_
  ·conv=>whnf
   refine frzMh ?_ frzNoM
   unfold findV
   rw[if_neg (by rw[h0];simp),if_pos ⟨hr,by simpa using h⟩]
  ·have hE:hereB (onL l d) r=true:=by simpa using h
   conv=>whnf
   refine hpl.call ?_
   conv=>whnf
   refine ift (by simp[hr]) ?_
   conv=>whnf
   refine hin.call ?_
   conv=>whnf
   exact AW_has (fun e0=>tail e0 _ h0 (by rw[hE];simp) (by unfold psL;rw[if_neg hr])) (by exact⟨rfl,rfl,rfl,rfl,rfl,rfl,trivial⟩)
end Go.Proofs.YtpndfdfipkadkaaGreatDoor
set_option maxRecDepth 100000
namespace Go.Proofs.YtpndfdfipkadkaaGreatDoor
open Go Go.Wx Go.Ax
def pl70:Plan:=[(6,[.p 0,.p 1,.p 2,.l 3,.p 4,.p 5,.p 6,.l 7,.p 8])]
theorem sameM_c(l:List Mh):Pur Pg 70 [rows Mh.enc l,rows Mh.enc l] (db true):=by
 refine Pur_len 0 rfl fun hl=>fn Tryz.func70 [] pl70 (.cons (pd_rows pdMh l) (.cons (pd_rows pdMh l) .nil)) ?_
 rw[List.length_map]at hl
 refine iff_ (by simp) ?_
 refine AW_idx l.length (fun i st=>Has [(0,rows Mh.enc l),(1,rows Mh.enc l),(5,di i)] [] st) (has ⟨rfl,rfl,rfl,trivial⟩ rfl) ?_
 rintro i _ _ ⟨e,rfl⟩
 refine go [] pl70 (if_ (fun hlt=>?_) (fun hlt=>?_))
 ·simp at hlt
  refine row_at hlt ?_
  refine row_at hlt ?_
  conv=>whnf
  refine⟨⟨by kernel_rfl,by kernel_rfl⟩,?_⟩
  refine neq_true (by simp[eqLs,leafEq]) ?_
  exact⟨hlt,has ⟨rfl,rfl,inc hlt hl,trivial⟩ rfl⟩
 ·exact frzb rfl
theorem isort_filter(l:List Mh)(p:Mh→Bool):(isort mLt l).filter p=isort mLt (l.filter p):=
 isort_unique swoM ((isort_perm l).filter p) ((isort_asc swoM l).filter p) fun _ _ _ _=>mLt_one
end Go.Proofs.YtpndfdfipkadkaaGreatDoor
set_option maxRecDepth 100000
namespace Go.Proofs.YtpndfdfipkadkaaGreatDoor
open Go Go.Wx Go.Ax
def fF(most:Int)(m:Mh):Bool:= !decide (m.cost>most)
end Go.Proofs.YtpndfdfipkadkaaGreatDoor
set_option maxRecDepth 100000
namespace Go.Proofs.YtpndfdfipkadkaaGreatDoor
open Go Go.Wx Go.Ax
end Go.Proofs.YtpndfdfipkadkaaGreatDoor
