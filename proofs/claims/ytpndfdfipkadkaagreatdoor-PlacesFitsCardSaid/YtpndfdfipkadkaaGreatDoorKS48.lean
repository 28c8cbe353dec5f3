/- The law holds: part 258. Conditions: none. -/
import Derived.Test.YtpndfdfipkadkaaGreatDoorKS47
set_option linter.all false
set_option maxRecDepth 100000
namespace Go.Proofs.YtpndfdfipkadkaaGreatDoor.Fx
open Go Go.Wx Go.Sort
@[ext] structure TPlaceMatch where
 Place:Int
 Cost:Int
deriving Inhabited
def TPlaceMatch.enc(x:TPlaceMatch):List Value:=[vi x.Place,vi x.Cost]
def places_order.R (Q : Int → World → Prop) (x : TPlaceMatch) (y : TPlaceMatch) (w : World) : Prop := (
  Al w (.cells #[vi x.Place, vi x.Cost] 80) fun b1 w1 =>
      Al w1 (.cells #[vi y.Place, vi y.Cost] 80) fun b2 w2 =>
      Dr w2 fun w3 =>
      Cl Pg 205 #[vi x.Cost, vi y.Cost] w3 (fun v w4 => ∃ (r1 : Int), v = vi r1 ∧ Kp b1 w3 w4 ∧ Kp b2 w3 w4 ∧ Cl Pg 205 #[vi x.Place, vi y.Place] w4 (fun v w5 => ∃ (r2 : Int), v = vi r2 ∧ Al w5 (.cells #[vi r1, vi r2] 3) fun b3 w6 =>
      Cl Pg 204 #[vl (some ⟨b3, 0, none⟩) 2 2] w6 (fun v w7 => ∃ (r3 : Int), v = vi r3 ∧ Q r3 w7))))
theorem places_order.ok{Q:Int→World→Prop}{x:TPlaceMatch}{y:TPlaceMatch}{w:World}(h:places_order.R Q x y w):Cl Pg 189 #[vg (TPlaceMatch.enc x),vg (TPlaceMatch.enc y)] w (fun v w'=>∃(r0:Int),v=vi r0∧Q r0 w'):=by
 refine calls_args (args:=[vg (TPlaceMatch.enc x),vg (TPlaceMatch.enc y)]) Tryz.func189 ?_
 unfold places_order.R at h
 refine W_regseq ?_
 refine alp h ?_
 intro b1 w1 eb ew hb_b1 h
 clear eb ew
 refine alp h ?_
 intro b2 w2 eb ew hb_b2 h
 have old_hb_b1:=hb_b1
 replace hb_b1:=al_keep ew hb_b1
 have ne_b1_b2:b1≠b2:=blk_ne old_hb_b1 eb
 clear old_hb_b1
 clear eb ew
 refine ps 1 [(4,vi 0)] ?_
 refine WO_nil ?_
 refine drs folM [[],[],[],[],[1,3],[],[],[],[],[1,3,6,8],[1,3,6,8],[1,3,6,8],[1,3,6,8]] [.p 0,.l 1,.p 2,.l 3,.p 5,.l 6,.p 7,.l 8,.e 4,.e 9,.e 10,.e 11,.p 12] h ?_
 intro w3 ew h
 replace hb_b1:=dr_keep ew hb_b1
 replace hb_b2:=dr_keep ew hb_b2
 clear ew
 refine psC 1 [(5,vp ⟨b1,1,none⟩)] ?_
 refine lb1C tk3 hb_b1 ?_
 refine psC 1 [(7,vp ⟨b2,1,none⟩)] ?_
 refine lb1C tk3 hb_b2 ?_
 refine psC 1 [(10,vp ⟨b1,0,none⟩)] ?_
 refine lb1C tk3 hb_b1 ?_
 refine psC 1 [(12,vp ⟨b2,0,none⟩)] ?_
 refine lb1C tk3 hb_b2 ?_
 refine clC h ?_
 rintro _ w4 ⟨r1,rfl,hk0,hk1,h⟩
 replace hb_b1:=kp_at hk0 hb_b1
 replace hb_b2:=kp_at hk1 hb_b2
 refine⟨AllOk.cons (Pend_ok (ex_load rfl rfl (run_loadVar1 tk3 (cell_blk hb_b2 rfl))))<|AllOk.cons (Pend_ok (ex_load rfl rfl (run_loadVar1 tk3 (cell_blk hb_b1 rfl))))<|AllOk.nil,?_⟩
 refine clC h ?_
 rintro _ w5 ⟨r2,rfl,h⟩
 refine⟨AllOk.nil,?_⟩
 refine alsC 2 h ?_
 intro b3 w6 eb ew hb_b3 h
 clear eb ew hb_b3
 refine⟨AllOk.nil,?_⟩
 refine clC h ?_
 rintro _ w7 ⟨r3,rfl,h⟩
 refine⟨AllOk.nil,?_⟩
 refine psC 1 [(4,vi r3)] ?_
 refine WC_nil ?_
 refine W_ret ?_
 exact ret1 (v:=vi r3) (t:=4) rfl rfl ⟨_,rfl,h⟩
theorem or2_z(a b:Int)(w:World)(blk:Nat)(hb:w.heap[blk]? =some (Obj.cells #[vi a,vi b] 3 (0,0))):Cl Pg 204 #[vl (some ⟨blk,0,none⟩) 2 2] w fun v w'=>v=vi (orZ [a,b])∧w'=w:=by
 refine Calls.mono (cmp_Or_int.ok (Q:=fun r w'=>r=orZ [a,b]∧w'=w) (vals_a:=some ⟨blk,0,none⟩) (vals_n:=2) (vals_c:=2) (w:=w) ⟨3,?_⟩) fun e w' ⟨v,he,r,hv,hr,hw⟩=>⟨v,he,by rw[hv,hr],hw⟩
 have h0:w.cell? ⟨blk,0,none⟩=some (vi a):=cell_blk hb rfl
 have h1:w.cell? ⟨blk,1,none⟩=some (vi b):=cell_blk hb rfl
 refine ifb_t (by decide) ⟨_,rfl,by decide,by decide,a,h0,⟨fun h=>⟨?_,rfl⟩,fun h=>?_⟩⟩
 ·simp[orZ,h]
 have ha:a=0:=by simpa using h
 refine ifb_t (by decide) ⟨_,rfl,by decide,by decide,b,h1,⟨fun h=>⟨?_,rfl⟩,fun h=>?_⟩⟩
 ·simp[orZ,ha,h]
 have hb0:b=0:=by simpa using h
 refine ifb_f (by decide) ⟨?_,rfl⟩
 simp[orZ,ha,hb0]
def cmpMZ(x y:TPlaceMatch):Int:=orZ [cmpZ x.Cost y.Cost,cmpZ x.Place y.Place]
theorem cmpM_z(x y:TPlaceMatch)(w:World):Calls Pg 189 #[.agg x.enc.toArray,.agg y.enc.toArray] w fun e w'=>e= .returned (.int .i64 (cmpMZ x y))∧∃q os,w'=grow (w.drewN q) os:=by
 have hk:∀{w':World} {w2:World} {b:Nat},w2=w'→Kp b w' w2:=fun h=>by subst h;rfl
 refine Calls.mono (places_order.ok (Q:=fun r w'=>r=cmpMZ x y∧w'=grow (w.drewN 1) #[.cells #[vi x.Place,vi x.Cost] 80,.cells #[vi y.Place,vi y.Cost] 80,.cells #[vi (cmpZ x.Cost y.Cost),vi (cmpZ x.Place y.Place)] 3]) (x:=x) (y:=y) (w:=w) ?_) fun e w' ⟨v,he,r,hv,hr,hw⟩=>⟨by rw[he,hv,hr],_,_,hw⟩
 show Cl _ _ _ _ _
 refine Calls.mono (cmp_z x.Cost y.Cost _) fun e w1 ⟨v,he,hv,hw⟩=>⟨v,he,cmpZ x.Cost y.Cost,hv,hk hw,hk hw,?_⟩
 subst hw
 refine Calls.mono (cmp_z x.Place y.Place _) fun e w1 ⟨v,he,hv,hw⟩=>⟨v,he,cmpZ x.Place y.Place,hv,?_⟩
 subst hw
 show Cl _ _ _ _ _
 refine Calls.mono (or2_z _ _ _ _ ?_) fun e w1 ⟨v,he,hv,hw⟩=>⟨v,he,_,hv,rfl,?_⟩
 ·exact heap_alloc_new _ _
 ·rw[hw]
  exact congrArg (fun h=>({w with heap:=h,drawn:=w.drawn+1}:World)) (push3 w.heap _ _ _)
end Go.Proofs.YtpndfdfipkadkaaGreatDoor.Fx
namespace Go.Proofs.YtpndfdfipkadkaaGreatDoor
open Go Go.Wx Go.Ax Go.Sort
structure Mh where
 place:Int
 cost:Int
deriving Inhabited,DecidableEq
def Mh.enc(x:Mh):List D:=[di x.place,di x.cost]
theorem pdMh(x:Mh):PdL x.enc:= .cons (.v _) (.one (.v _))
def Mh.vals(x:Mh):List Value:=[.int .i64 x.place,.int .i64 x.cost]
def mLt(x y:Mh):Bool:=if x.cost≠y.cost then decide (x.cost<y.cost)else decide (x.place<y.place)
def mCmp(x y:Mh):Int:=Fx.cmpMZ ⟨x.place,x.cost⟩ ⟨y.place,y.cost⟩
theorem mLt_iff{x y:Mh}:mLt x y=true↔x.cost<y.cost∨x.cost=y.cost∧x.place<y.place:=by
 unfold mLt
 by_cases h1:x.cost=y.cost
 ·simp[h1]
 ·simp[h1]
theorem swoM:SWO mLt:=by
 refine⟨fun x=>?_,fun x y z h1 h2=>?_,fun x y z h1 h2=>?_⟩
 ·cases h:mLt x x with
  | false=>rfl
  | true=>rw[mLt_iff]at h;omega
 ·rw[mLt_iff]at*;omega
 ·cases h:mLt x z with
  | false=>rfl
  | true=>
   have n1:¬mLt x y=true:=by rw[h1];simp
   have n2:¬mLt y z=true:=by rw[h2];simp
   rw[mLt_iff]at*;omega
theorem mLt_one{x y:Mh}(h1:mLt x y=false)(h2:mLt y x=false):x=y:=by
 have n1:¬mLt x y=true:=by rw[h1];simp
 have n2:¬mLt y x=true:=by rw[h2];simp
 rw[mLt_iff]at n1 n2
 cases x;cases y
 simp only[Mh.mk.injEq]at*
 omega
theorem mLt_cmp(x y:Mh):decide (mCmp x y<0)=mLt x y:=by
 unfold mCmp Fx.cmpMZ Fx.orZ Fx.cmpZ mLt
 by_cases h1:x.cost=y.cost
 ·by_cases h3:x.place<y.place
  ·simp[h1,h3]
  ·by_cases h4:x.place>y.place
   ·simp[h1,h3,h4]
   ·simp[h1,h3,h4]
 ·by_cases h3:x.cost<y.cost
  ·simp[h1,h3]
  ·have h4:x.cost>y.cost:=by omega
   simp[h1,h3,h4]
theorem lt_of_mcf:Go.Proofs.ltOf mCmp=mLt:=by
 funext x y
 exact mLt_cmp x y
theorem mEnc(l:List Mh):l.map Mh.enc=encK Mh.vals l:=by
 unfold encK
 exact List.map_congr_left fun x _=>rfl
theorem sortM_c (l : List Mh) {b n : Nat} {H : Heap} (hb : H[b]? = some (.arr 80 2 (l.map Mh.enc))) (hn : l.length = n) (hm : n ≤ 1000000) :
    AC Pg 188 [.sl b 0 n n, .v (.func (.func 189) #[] #[])] H fun d H' ms => d = .any ∧ H' = H.set b (.arr 80 2 ((isort mLt l).map Mh.enc)) ∧ ms = [b] := by
  rw [mEnc] at hb ⊢
  refine AC_rowK (enc := Mh.vals) (fun _ => rfl) (fun x => List.all_eq_true.1 rfl) hb hn (isort_perm l).length_eq (by kernel_rfl) (fun _ a c w => ?_) fun blk c w _ hnc hH hblk => ?_
  · refine Calls.mono (Go.Proofs.AnyF.slices_SortFunc_none Go.Proofs.Tryz.sortMatch a c _ w) ?_
    rintro e w' ⟨rfl, rfl⟩
    exact ⟨⟨_, rfl⟩, rfl⟩
  · have h := Go.Proofs.AnyQ.slices_SortFunc (P := Pg) Go.Proofs.Tryz.sortMatch 2 (fun w => (tyk_run (w := w) (show tyk Pg _ = some (true, 2) by kernel_rfl)).1) (fun w => (tyk_run (w := w) (show tyk Pg _ = some (true, 2) by kernel_rfl)).2) Mh.vals (fun _ => rfl) (fun x => List.all_eq_true.1 rfl) mCmp (by rw [lt_of_mcf]; exact swoM) 189 #[] blk 0 c l.toArray w (callB_enters (by kernel_rfl)) (fun m os dk hdk x y => Calls.mono (Fx.cmpM_z ⟨x.place, x.cost⟩ ⟨y.place, y.cost⟩ _) fun e w' h => h) hH hblk (by simp; omega)
    rw [show l.toArray.size = n by simpa using hn] at h
    refine Calls.mono h ?_
    rintro e w' ⟨rfl, d', m, os, hp, hs, rfl⟩
    refine ⟨⟨_, rfl⟩, m, os, ?_⟩
    rw [lt_of_mcf] at hs
    have hd : d'.size = n := hp.1.trans (by simpa using hn)
    have he := isort_unique swoM (perm_of_permIn (d := l.toArray) (d' := d') (by rw [show l.toArray.size = n by simpa using hn]; exact hp)) (asc_of_sortedIn (by rw [hd]; exact hs)) fun x _ y _ => mLt_one
    congr 1
    apply Array.ext'
    simpa using he
end Go.Proofs.YtpndfdfipkadkaaGreatDoor
set_option maxRecDepth 100000
namespace Go.Proofs.YtpndfdfipkadkaaGreatDoor
open Go Go.Wx Go.Ax
def mStep(raw:ByteArray→Auto)(a:Auto)(st:List Pl)(d:Int)(out:List Mh)(q:Int):List Mh:=match fitL raw a (namesL st q d)with
 | none=>out
 | some c=>out++[⟨q,c⟩]
def mchL(raw:ByteArray→Auto)(a:Auto)(st:List Pl)(d:Int)(ps:List Int):List Mh:=ps.foldl (mStep raw a st d) []
theorem mchL_snoc(raw:ByteArray→Auto)(a:Auto)(st:List Pl)(d:Int)(ps:List Int)(q:Int):mchL raw a st d (ps++[q])=mStep raw a st d (mchL raw a st d ps) q:=by
 unfold mchL
 rw[List.foldl_append]
 rfl
theorem mchL_take(raw:ByteArray→Auto)(a:Auto)(st:List Pl)(d:Int){ps:List Int}{i:Nat}(h:i<ps.length):mchL raw a st d (ps.take (i+1))=mStep raw a st d (mchL raw a st d (ps.take i)) ps[i]:=by
 rw[List.take_succ_eq_append_getElem h,mchL_snoc]
theorem mchL_len(raw:ByteArray→Auto)(a:Auto)(st:List Pl)(d:Int):∀ps:List Int,(mchL raw a st d ps).length≤ps.length:=by
 have key:∀(ps:List Int) out,(ps.foldl (mStep raw a st d) out).length≤out.length+ps.length:=by
  intro ps
  induction ps with
  | nil=>intro out;simp
  | cons q ps ih=>
   intro out
   have h:=ih (mStep raw a st d out q)
   have h2:(mStep raw a st d out q).length≤out.length+1:=by unfold mStep;split<;>simp
   simp only[List.foldl_cons,List.length_cons]
   omega
 intro ps
 have:=key ps []
 simpa[mchL]using this
def anyMany(st:List Pl)(d:Int)(s:List Spell)(ps:List Int):Bool:=ps.any fun q=>manyL (namesL st q d) s !=0
def mchV(raw:ByteArray→Auto)(a:Auto)(s:List Spell)(st:List Pl)(d:Int)(ps:List Int):List Mh × Int:=if anyMany st d s ps then([],2)else(isort mLt (mchL raw a st d ps),0)
def mchD(v:List Mh × Int):D:= .tup [rows Mh.enc v.1,di v.2]
theorem frzMh{H:Heap}{v:List Mh × Int}{xs:List Mh}{e:Int}{x:D}(h:(xs,e)=v)(hx:FrzK 0 H x (rows Mh.enc xs)):Frz H (.tup [x,di e]) (mchD v):=by
 rw[←h]
 exact Frz.tup2 hx (.pd (.v _))
theorem frzNoM{H:Heap}:FrzK 0 H (.v (.slice none 0 0)) (rows Mh.enc []):= .nil
noncomputable def c135:Code:=Tryz.f135.body.getD .skip
theorem matching_c (l : List Ev) (ha : Acc l) (d : Int) (a : Auto) (s : List Spell) (hA : chkA a = 0) (hS : chkS s = 0) (ps : List Int) (hp : ps.length ≤ 100000) :
    Pur Pg 135 [stD (prg (onL l d)), rows ienc ps, di d, .agg a.enc, rows Spell.enc s] (mchD (mchV (rawA · s) a s (onL l d) d ps)) := by
  refine Pur_of (PdL.cons (pd_st _) (.cons (pd_rows pdI ps) (.cons (.v _) (.cons (.agg (pdAuto a)) (.one (pd_rows pdSpell s)))))) (AC_fn Tryz.func135 rfl rfl rfl [] (fun _ => true) (fun b h => nomatch h) (AW_rest (c' := restC 0 c135) ?_))
  refine goC 2 [] [] ?_
  conv => whnf
  refine AW_ghost 12 80 2 (Nat.zero_le _) ?_
  refine go [] [] ?_
  refine AW_idx ps.length (fun i st => ∃ out n, out = mchL (rawA · s) a (onL l d) d (ps.take i) ∧ out.length = n ∧ (∀ q ∈ ps.take i, manyL (namesL (onL l d) q d) s = 0) ∧ HasG [(0, stD (prg (onL l d))), (2, di d), (4, rows Spell.enc s), (8, .ptr 0 0 0 1), (12, .sl 1 0 n n), (18, rows ienc ps), (19, di ps.length), (20, di i)] [.arr 75 3 [a.enc], .arr 80 2 (out.map Mh.enc)] st) ⟨[], 0, rfl, rfl, by simp, hasG (G := []) ⟨rfl, rfl, rfl, rfl, rfl, rfl, by simp [rows, dlen]; rfl, rfl, trivial⟩ rfl⟩ ?_
  rintro i _ hi ⟨out, n, ho, hn, hz, e0, G, rfl⟩
  have hnb : n ≤ 100000 := by
    have h1 := mchL_len (rawA · s) a (onL l d) d (ps.take i)
    rw [← ho, List.length_take] at h1
    omega
  refine AW_drop (BlL.cons (.pd (pd_st _)) (.v (.cons (.pd (pd_rows pdSpell s)) (.cons (.ptr (by simp)) (.cons (.sl (by simp)) (.cons (.pd (pd_rows pdI ps)) (.v (.v .nil)))))))) (BlH.cons (fun y hy d hd => by
    rw [List.mem_singleton.1 hy] at hd
    exact .pd (pdAuto a d hd)) (.cons (BlO.enc pdMh) .nil)) (Nat.zero_le _) fun e => ?_
  refine go [] [] (if_ (fun hlt => ?_) (fun hlt => ?_))
  · simp at hlt
    have htk := mchL_take (rawA · s) a (onL l d) d hlt
    rw [← ho] at htk
    refine row_at hlt ?_
    conv => whnf
    refine (fitsOn_c l ha ps[i] d a s hA hS).call ?_
    by_cases hM : manyL (namesL (onL l d) ps[i] d) s = 0
    · have hz2 : ∀ q ∈ ps.take (i + 1), manyL (namesL (onL l d) q d) s = 0 := fun q hq => by
        rw [List.take_succ_eq_append_getElem hlt, List.mem_append, List.mem_singleton] at hq
        exact hq.elim (hz q) fun h => h ▸ hM
      unfold mStep at htk
      cases hF : fitL (rawA · s) a (namesL (onL l d) ps[i] d) with
      | none =>
        have hv : fitsN (rawA · s) a s (namesL (onL l d) ps[i] d) = (0, false, 0) := by unfold fitsN; rw [if_neg (by rw [hM]; simp), hF]; rfl
        rw [hv]
        rw [hF] at htk
        conv => whnf
        exact ⟨hlt, out, n, htk.symm, hn, hz2, hasG (G := []) ⟨rfl, rfl, rfl, rfl, rfl, rfl, rfl, inc hlt (by simp only [maxLen]; omega), trivial⟩ rfl⟩
      | some c =>
        have hv : fitsN (rawA · s) a s (namesL (onL l d) ps[i] d) = (c, true, 0) := by unfold fitsN; rw [if_neg (by rw [hM]; simp), hF]; rfl
        rw [hv]
        rw [hF] at htk
        conv => whnf
        refine push (by simp [hn]) (by omega) ?_
        exact ⟨hlt, out ++ [⟨ps[i], c⟩], n + 1, htk.symm, by simp [hn], hz2, hasG ⟨rfl, rfl, rfl, rfl, rfl, rfl, rfl, inc hlt (by simp only [maxLen]; omega), trivial⟩ (by rw [List.map_append]; rfl)⟩
    · have hv : fitsN (rawA · s) a s (namesL (onL l d) ps[i] d) = (0, false, 2) := by unfold fitsN; rw [if_pos hM]
      rw [hv]
      conv => whnf
      refine frzMh ?_ frzNoM
      unfold mchV anyMany
      rw [if_pos (List.any_eq_true.2 ⟨_, List.getElem_mem hlt, by simpa using hM⟩)]
  · simp at hlt
    have hil : i = ps.length := by omega
    subst hil
    rw [List.take_length] at ho hz
    have hv : mchV (rawA · s) a s (onL l d) d ps = (isort mLt out, 0) := by
      unfold mchV anyMany
      rw [if_neg, ho]
      rw [List.any_eq_true]
      rintro ⟨q, h1, h2⟩
      exact absurd (hz q h1) (by simpa using h2)
    conv => whnf
    refine AC.mono (sortM_c out (b := 1) rfl hn (by omega)) ?_
    rintro _ H' ms ⟨rfl, rfl, rfl⟩
    conv => whnf
    have hsl : (isort mLt out).length = n := by rw [(isort_perm out).length_eq, hn]
    refine frzMh hv.symm ?_
    exact frzK_rows (enc := Mh.enc) (xs := isort mLt out) (T := 80) (sz := 2) rfl hsl hsl pdMh (fun _ => rfl) (Nat.zero_le _)
end Go.Proofs.YtpndfdfipkadkaaGreatDoor
set_option maxRecDepth 100000
namespace Go.Proofs.YtpndfdfipkadkaaGreatDoor
open Go Go.Wx Go.Ax
def noM:Mh:=⟨0,0⟩
abbrev Reg:=Mh × Bool × Int
def regD(v:Reg):D:= .tup [.agg v.1.enc,db v.2.1,di v.2.2]
def regN(raw:ByteArray→Auto)(a:Auto)(s:List Spell)(st:List Pl)(d:Int)(ps:List Int):Reg:=if anyMany st d s ps then(noM,false,2)else((isort mLt (mchL raw a st d ps)).head?.getD noM,(isort mLt (mchL raw a st d ps)).head?.isSome,0)
def regV(raw:ByteArray→Auto)(a:Auto)(s:List Spell)(st:List Pl)(d:Int)(ps:List Int):Reg:=if readyL a s≠0 then(noM,false,readyL a s)else regN raw a s st d ps
theorem frzReg{H:Heap}{v:Reg}{m:Mh}{b:Bool}{e:Int}(h:(m,b,e)=v):Frz H (.tup [.agg [di m.place,di m.cost],db b,di e]) (regD v):=by
 rw[←h]
 exact frz_tup3 (FrzK.pd (d:= .agg [di m.place,di m.cost]) (Pd.agg (PdL.cons (.v _) (PdL.one (.v _))))) (.pd (.v _)) (.pd (.v _))
noncomputable def c66:Code:=Tryz.f66.body.getD .skip
def pl66:Plan:=[(5,[.p 0,.p 1,.p 2,.p 4,.l 5,.p 6,.e 3,.e 7,.p 8,.p 9,.p 10,.p 11,.p 12])]
theorem pth_len{l:List Ev}(ha:Acc l)(d p:Int):(pth (onL l d) p).length≤100000:=by
 have:=((ha.invOn d).1.paths (by have:=(ha.invOn d).2;omega) p).2
 have:=(ha.invOn d).2
 omega
theorem qRegion_c(l:List Ev)(ha:Acc l)(p d:Int)(a:Auto)(s:List Spell)(hok:∀x∈s,x.ok):Pur Pg 66 [refG l,di p,di d,.agg a.enc,rows Spell.enc s] (regD (regV (rawA · s) a s (onL l d) d (pth (onL l d) p))):=by
 have hpc:=(acc_onSt ha d).path_c p
 rw[pth_prg]at hpc
 refine Pur_of (PdL.cons (pd_refG l) (.cons (.v _) (.cons (.v _) (.cons (.agg (pdAuto a)) (.one (pd_rows pdSpell s)))))) (AC_fn Tryz.func66 rfl rfl rfl [] (fun _=>true) (fun b h=>nomatch h) (AW_rest (c':=restC 0 c66) ?_))
 refine goC 20 [] pl66 ?_
 refine(ready_c l a s hok).call ?_
 refine if_ (fun h=>?_) fun h=>?_
 ·conv=>whnf
  refine frzReg (m:=noM) ?_
  unfold regV
  rw[if_pos (by simpa using h)]
 have h0:readyL a s=0:=by simpa using h
 obtain⟨hA,hS⟩:=ready_ok h0
 have hV:regV (rawA · s) a s (onL l d) d (pth (onL l d) p)=regN (rawA · s) a s (onL l d) d (pth (onL l d) p):=by unfold regV;rw[if_neg (by rw[h0];simp)]
 refine(onP_c l d ha).call ?_
 refine ck rfl (force_to ?_)
 conv=>whnf
 refine hpc.call ?_
 conv=>whnf
 refine(matching_c l ha d a s hA hS _ (pth_len ha d p)).call ?_
 rw[hV]
 by_cases hM:anyMany (onL l d) d s (pth (onL l d) p)=true
 ·have hv:mchV (rawA · s) a s (onL l d) d (pth (onL l d) p)=([],2):=by unfold mchV;rw[if_pos hM]
  rw[hv]
  conv=>whnf
  refine frzReg (m:=noM) ?_
  unfold regN
  rw[if_pos hM]
 have hv:mchV (rawA · s) a s (onL l d) d (pth (onL l d) p)=(isort mLt (mchL (rawA · s) a (onL l d) d (pth (onL l d) p)),0):=by unfold mchV;rw[if_neg hM]
 have hr:regN (rawA · s) a s (onL l d) d (pth (onL l d) p)=((isort mLt (mchL (rawA · s) a (onL l d) d (pth (onL l d) p))).head?.getD noM,(isort mLt (mchL (rawA · s) a (onL l d) d (pth (onL l d) p))).head?.isSome,0):=by unfold regN;rw[if_neg hM]
 rw[hv,hr]
 generalize isort mLt (mchL (rawA · s) a (onL l d) d (pth (onL l d) p))=ms
 cases ms with
 | nil=>
  conv=>whnf
  exact frzReg (m:=noM) rfl
 | cons m ms=>
  conv=>whnf
  exact frzReg (m:=m) rfl
end Go.Proofs.YtpndfdfipkadkaaGreatDoor
set_option maxRecDepth 100000
namespace Go.Proofs.YtpndfdfipkadkaaGreatDoor
open Go Go.Wx Go.Ax
theorem mAhead_c(x y:Mh):Pur Pg 136 [.agg x.enc,.agg y.enc] (db (mLt x y)):=by
 refine fn Tryz.func136 [] [] (.cons (.agg (pdMh x)) (.one (.agg (pdMh y)))) ?_
 refine if_ (fun h=>?_) fun h=>?_
 ·exact frzb (by unfold mLt;rw[if_pos (by simpa using h)])
 ·exact frzb (by unfold mLt;rw[if_neg (by simpa using h)])
def mBest(o:Option Mh)(x:Mh):Option Mh:=match o with
 | none=>some x
 | some b=>if mLt x b then some x else some b
def bestM(l:List Mh):Option Mh:=l.foldl mBest none
theorem bestM_snoc(l:List Mh)(x:Mh):bestM (l++[x])=mBest (bestM l) x:=by
 unfold bestM
 rw[List.foldl_append]
 rfl
def Least(l:List Mh)(o:Option Mh):Prop:=(l=[]∧o=none)∨∃m,m∈l∧o=some m∧∀y∈l,mLt y m=false
theorem Least.one{l:List Mh}{o p:Option Mh}(h1:Least l o)(h2:Least l p):o=p:=by
 rcases h1 with⟨h,rfl⟩ | ⟨m,g1,rfl,g3⟩
 ·rcases h2 with⟨_,rfl⟩ | ⟨m,g1,rfl,g3⟩
  ·rfl
  ·rw[h]at g1;cases g1
 ·rcases h2 with⟨h,_⟩ | ⟨m2,k1,rfl,k3⟩
  ·rw[h]at g1;cases g1
  ·rw[mLt_one (g3 _ k1) (k3 _ g1)]
theorem least_head(l:List Mh):Least l (isort mLt l).head? :=by
 have hp:=isort_perm (lt:=mLt) l
 have ha:=isort_asc swoM l
 cases hh:isort mLt l with
 | nil=>
  rw[hh]at hp
  exact .inl ⟨hp.symm.eq_nil,rfl⟩
 | cons m ms=>
  rw[hh]at hp ha
  refine .inr ⟨m,hp.mem_iff.1 (by simp),rfl,fun y hy=>?_⟩
  rcases List.mem_cons.1 (hp.mem_iff.2 hy)with rfl | h
  ·exact swoM.1 _
  ·exact(List.pairwise_cons.1 ha).1 y h
theorem least_fold:∀l:List Mh,Least l (bestM l):=by
 intro l
 obtain⟨k,hk⟩:∃k,k=l.reverse:=⟨_,rfl⟩
 have hl:l=k.reverse:=by rw[hk,List.reverse_reverse]
 clear hk
 subst hl
 induction k with
 | nil=>exact .inl ⟨rfl,rfl⟩
 | cons x k ih=>
  rw[List.reverse_cons,bestM_snoc]
  rcases ih with⟨h1,h2⟩ | ⟨m,h1,h2,h3⟩
  ·rw[h2,h1]
   refine .inr ⟨x,by simp,rfl,fun y hy=>?_⟩
   rw[List.nil_append,List.mem_singleton]at hy
   rw[hy];exact swoM.1 _
  ·rw[h2]
   unfold mBest
   simp only
   split
   ·rename_i hx
    refine .inr ⟨x,by simp,rfl,fun y hy=>?_⟩
    rcases List.mem_append.1 hy with h | h
    ·have n1:¬mLt y m=true:=by rw[h3 y h];simp
     cases hyx:mLt y x with
     | false=>rfl
     | true=>rw[mLt_iff]at*;omega
    ·rw[List.mem_singleton.1 h];exact swoM.1 _
   ·rename_i hx
    refine .inr ⟨m,by simp[h1],rfl,fun y hy=>?_⟩
    rcases List.mem_append.1 hy with h | h
    ·exact h3 y h
    ·rw[List.mem_singleton.1 h];simpa using hx
theorem best_head(l:List Mh):(isort mLt l).head? =bestM l:=(least_head l).one (least_fold l)
noncomputable def c67:Code:=Tryz.f67.body.getD .skip
def pl67:Plan:=[(10,[.p 0,.p 1,.p 2,.p 3,.l 4,.p 5,.l 6,.p 7,.e 8,.p 9,.p 10,.p 11,.p 12,.p 13,.p 14,.p 15])]
theorem fitsT_ready{raw:ByteArray→Auto}{a:Auto}{s:List Spell}(ns:List ByteArray)(h:readyL a s≠0):fitsT raw a s ns=(0,false,readyL a s):=(ready_no h raw ns).symm
theorem ready_zero(a:Auto)(s:List Spell)(raw:ByteArray→Auto)(st:List Pl)(d:Int)(h:readyL a s=0)(hn:namesL st 0 d=[]):fitsT raw a s (namesL st 0 d)=(0,false,0):=by
 rw[←ready_fits h,hn]
 rfl
theorem names_zero{l:List Ev}(ha:Acc l)(d d2:Int):namesL (onL l d) 0 d2=[]:=by
 have hz:=(acc_onSt ha d).zero
 rw[here_prg]at hz
 unfold hereB at hz
 unfold namesL
 cases hg:get (onL l d) 0 with
 | none=>rfl
 | some x=>
  rw[hg]at hz
  simp only at hz
  simp[hz]
theorem rRegion_c(l:List Ev)(ha:Acc l)(p d:Int)(a:Auto)(s:List Spell):Pur Pg 67 [refG l,di p,di d,.agg a.enc,rows Spell.enc s] (regD (regV (rawR · s) a s (onL l d) d (pth (onL l d) p))):=by
 refine Pur_of (PdL.cons (pd_refG l) (.cons (.v _) (.cons (.v _) (.cons (.agg (pdAuto a)) (.one (pd_rows pdSpell s)))))) (AC_fn Tryz.func67 rfl rfl rfl [] (fun _=>true) (fun b h=>nomatch h) (AW_rest (c':=restC 0 c67) ?_))
 refine goC 20 [] pl67 ?_
 refine(rFits_c l ha 0 0 a s).call ?_
 by_cases h0:readyL a s≠0
 ·rw[fitsT_ready _ h0]
  conv=>whnf
  refine if_ (fun h=>?_) fun h=>?_
  ·conv=>whnf
   refine frzReg (m:=noM) ?_
   unfold regV
   rw[if_pos h0]
  ·exact absurd (by simpa using h) h0
 have h0:readyL a s=0:=by simpa using h0
 obtain⟨hA,hS⟩:=ready_ok h0
 rw[ready_zero a s _ _ _ h0 (names_zero ha 0 0)]
 have hV:regV (rawR · s) a s (onL l d) d (pth (onL l d) p)=regN (rawR · s) a s (onL l d) d (pth (onL l d) p):=by unfold regV;rw[if_neg (by rw[h0];simp)]
 rw[hV]
 conv=>whnf
 refine(rPath_c l p d ha).call ?_
 conv=>whnf
 have hpl:=pth_len ha d p
 generalize pth (onL l d) p=ps at hpl
 refine AW_idx ps.length (fun i st=>∃o,o=bestM (mchL (rawR · s) a (onL l d) d (ps.take i))∧(∀q∈ps.take i,manyL (namesL (onL l d) q d) s=0)∧HasG [(0,refG l),(2,di d),(4,rows Spell.enc s),(8,.ptr 0 0 0 1),(10,.ptr 1 0 0 1),(16,rows ienc ps),(17,.ptr 2 0 0 1),(18,db o.isSome),(19,di i)] [.arr 75 3 [a.enc],.arr 80 2 [noM.enc],.arr 80 2 [(o.getD noM).enc]] st) ⟨none,rfl,by simp,hasG (G:=[]) ⟨rfl,rfl,rfl,rfl,rfl,rfl,rfl,rfl,rfl,trivial⟩ rfl⟩ ?_
 rintro i _ hi ⟨o,ho,hz,e0,G,rfl⟩
 refine AW_drop (BlL.cons (.pd (pd_refG l)) (.v (.cons (.pd (pd_rows pdSpell s)) (.cons (.ptr (by simp)) (.cons (.ptr (by simp)) (.cons (.pd (pd_rows pdI ps)) (.cons (.ptr (by simp)) (.v (.v .nil))))))))) (BlH.cons (fun y hy d hd=>by
  rw[List.mem_singleton.1 hy]at hd
  exact .pd (pdAuto a d hd)) (.cons (fun y hy d hd=>by
  rw[List.mem_singleton.1 hy]at hd
  exact .pd (pdMh noM d hd)) (.cons (fun y hy d hd=>by
  rw[List.mem_singleton.1 hy]at hd
  exact .pd (pdMh _ d hd)) .nil))) (Nat.zero_le _) fun e=>?_
 refine go [] pl67 (if_ (fun hlt=>?_) (fun hlt=>?_))
 ·simp at hlt
  have htk:=mchL_take (rawR · s) a (onL l d) d hlt
  have hrF:=rFits_c l ha ps[i] d a s
  rw[←ready_fits h0]at hrF
  refine row_at hlt ?_
  conv=>whnf
  refine hrF.call ?_
  by_cases hM:manyL (namesL (onL l d) ps[i] d) s=0
  ·have hz2:∀q∈ps.take (i+1),manyL (namesL (onL l d) q d) s=0:=fun q hq=>by
    rw[List.take_succ_eq_append_getElem hlt,List.mem_append,List.mem_singleton]at hq
    exact hq.elim (hz q) fun h=>h▸hM
   unfold mStep at htk
   cases hF:fitL (rawR · s) a (namesL (onL l d) ps[i] d)with
   | none=>
    have hv:fitsN (rawR · s) a s (namesL (onL l d) ps[i] d)=(0,false,0):=by unfold fitsN;rw[if_neg (by rw[hM];simp),hF];rfl
    rw[hv]
    rw[hF]at htk
    simp only at htk
    refine row_at hlt ?_
    conv=>whnf
    refine(mAhead_c ⟨ps[i],0⟩ (o.getD noM)).call ?_
    conv=>whnf
    exact⟨hlt,o,by rw[htk];exact ho,hz2,hasG (G:=[_]) ⟨rfl,rfl,rfl,rfl,rfl,rfl,rfl,rfl,inc hlt (by simp only[maxLen];omega),trivial⟩ rfl⟩
   | some c=>
    have hv:fitsN (rawR · s) a s (namesL (onL l d) ps[i] d)=(c,true,0):=by unfold fitsN;rw[if_neg (by rw[hM];simp),hF];rfl
    rw[hv]
    rw[hF]at htk
    simp only at htk
    have hbs:bestM (mchL (rawR · s) a (onL l d) d (ps.take (i+1)))=mBest o ⟨ps[i],c⟩:=by rw[htk,bestM_snoc,←ho]
    refine row_at hlt ?_
    conv=>whnf
    refine(mAhead_c ⟨ps[i],c⟩ (o.getD noM)).call ?_
    cases o with
    | none=>
     conv=>whnf
     exact⟨hlt,some ⟨ps[i],c⟩,hbs.symm,hz2,hasG (G:=[_]) ⟨rfl,rfl,rfl,rfl,rfl,rfl,rfl,rfl,inc hlt (by simp only[maxLen];omega),trivial⟩ rfl⟩
    | some b=>
     conv=>whnf
     unfold mBest at hbs
     simp only at hbs
     refine if_ (fun hq=>?_) fun hq=>?_
     ·rw[if_pos (show mLt ⟨ps[i],c⟩ b=true from hq)]at hbs
      exact⟨hlt,some ⟨ps[i],c⟩,hbs.symm,hz2,hasG (G:=[_]) ⟨rfl,rfl,rfl,rfl,rfl,rfl,rfl,rfl,inc hlt (by simp only[maxLen];omega),trivial⟩ rfl⟩
     ·rw[if_neg (by rw[show mLt ⟨ps[i],c⟩ b=false from hq];simp)]at hbs
      exact⟨hlt,some b,hbs.symm,hz2,hasG (G:=[_]) ⟨rfl,rfl,rfl,rfl,rfl,rfl,rfl,rfl,inc hlt (by simp only[maxLen];omega),trivial⟩ rfl⟩
  ·have hv:fitsN (rawR · s) a s (namesL (onL l d) ps[i] d)=(0,false,2):=by unfold fitsN;rw[if_pos hM]
   rw[hv]
   conv=>whnf
   refine frzReg (m:=noM) ?_
   unfold regN anyMany
   rw[if_pos (List.any_eq_true.2 ⟨_,List.getElem_mem hlt,by simpa using hM⟩)]
 ·simp at hlt
  have hil:i=ps.length:=by omega
  subst hil
  rw[List.take_length]at ho hz
  have hv:regN (rawR · s) a s (onL l d) d ps=(o.getD noM,o.isSome,0):=by
   unfold regN anyMany
   rw[if_neg,best_head,ho]
   rw[List.any_eq_true]
   rintro⟨q,h1,h2⟩
   exact absurd (hz q h1) (by simpa using h2)
  rw[hv]
  conv=>whnf
  exact frzReg (m:=o.getD noM) rfl
end Go.Proofs.YtpndfdfipkadkaaGreatDoor
set_option maxRecDepth 100000
namespace Go.Proofs.YtpndfdfipkadkaaGreatDoor
open Go Go.Wx Go.Ax
def fewB(l:List Ev)(s:List Spell)(a:Auto):Bool:=decide ((l.length:Int)≤40)&&(decide ((s.length:Int)≤30)&&(decide ((a.arcs.length:Int)≤200)&&(decide (a.states≤200)&&decide ((a.ends.length:Int)≤200))))
theorem few_c(l:List Ev)(s:List Spell)(a:Auto):Pur Pg 63 [rows Ev.enc l,rows Spell.enc s,.agg a.enc] (db (fewB l s a)):=by
 refine fn Tryz.func63 [] [] (.cons (pd_rows pdEv l) (.cons (pd_rows pdSpell s) (.one (.agg (pdAuto a))))) ?_
 conv=>whnf
 refine if_ (fun h1=>?_) fun h1=>?_
 ·conv=>whnf
  refine if_ (fun h2=>?_) fun h2=>?_
  ·conv=>whnf
   refine if_ (fun h3=>?_) fun h3=>?_
   ·conv=>whnf
    refine if_ (fun h4=>?_) fun h4=>?_
    ·conv=>whnf
     refine frzb ?_
     simp at h1 h2 h3 h4
     unfold fewB
     simp[h1,h2,h3,h4]
    ·conv=>whnf
     refine frzb ?_
     simp at h1 h2 h3 h4
     unfold fewB
     simp[h1,h2,h3];omega
   ·conv=>whnf
    refine frzb ?_
    simp at h1 h2 h3
    unfold fewB
    simp[h1,h2];omega
  ·conv=>whnf
   refine frzb ?_
   simp at h1 h2
   unfold fewB
   simp[h1];omega
 ·conv=>whnf
  refine frzb ?_
  simp at h1
  unfold fewB
  simp;omega
theorem mch_same{l:List Ev}(ha:Acc l){d:Int}{a:Auto}{s:List Spell}(hA:chkA a=0)(hS:chkS s=0){ps:List Int}(h:anyMany (onL l d) d s ps=false):mchL (rawA · s) a (onL l d) d ps=mchL (rawR · s) a (onL l d) d ps:=by
 unfold mchL
 refine foldl_same fun q hq out=>?_
 unfold mStep
 have hm:manyL (namesL (onL l d) q d) s=0:=by
  have:=List.any_eq_false.1 h q hq
  simpa using this
 rw[fit_same (rulesOk_of hS) (valid_of hA) (many_ok (names_ok ha q d) hm)]
theorem reg_same{l:List Ev}(ha:Acc l)(d:Int)(a:Auto)(s:List Spell)(ps:List Int):regV (rawA · s) a s (onL l d) d ps=regV (rawR · s) a s (onL l d) d ps:=by
 unfold regV
 split
 ·rfl
 rename_i h0
 obtain⟨hA,hS⟩:=ready_ok (Classical.not_not.1 h0)
 unfold regN
 split
 ·rfl
 rename_i hM
 rw[mch_same ha hA hS (by simpa using hM)]
theorem eql_true{b:Bool}{K:Value→Prop}(h:b=true)(k:K (.bool true)):eqRes .eql b K:=by subst h;exact k
noncomputable def c13:Code:=Tryz.f13.body.getD .skip
theorem lawFits_c(l:List Ev)(hs:∀e∈l,e.name.size≤maxLen)(p d:Int)(a:Auto)(s:List Spell)(hok:∀x∈s,x.ok):Pur Pg 13 [rows Ev.enc l,di p,di d,.agg a.enc,rows Spell.enc s] (db true):=by
 refine Pur_of (PdL.cons (pd_rows pdEv l) (.cons (.v _) (.cons (.v _) (.cons (.agg (pdAuto a)) (PdL.one (pd_rows pdSpell s)))))) (AC_fn Tryz.func13 rfl rfl rfl [] (fun _=>true) (fun b h=>nomatch h) (AW_rest (c':=restC 0 c13) ?_))
 refine goC 3 [] [] ?_
 rcases opened_cases (opened_c l hs)with g | ⟨h40,ha,g⟩
 ·refine g.call ?_
  conv=>whnf
  refine alive_c.call ?_
  exact frzt
 refine g.call ?_
 conv=>whnf
 refine(few_c l s a).call ?_
 refine if_ (fun h=>?_) fun h=>?_
 ·conv=>whnf
  refine alive_c.call ?_
  exact frzt
 conv=>whnf
 have rF:=rFits_c l ha p d a s
 rw[←fitsT_same ha]at rF
 have rR:=rRegion_c l ha p d a s
 rw[←reg_same ha]at rR
 refine goC 5 [] [] ?_
 refine(qFits_c l ha p d a s hok).call ?_
 conv=>whnf
 refine rF.call ?_
 conv=>whnf
 generalize fitsT (rawA · s) a s (namesL (onL l d) p d)=v
 refine(qRegion_c l ha p d a s hok).call ?_
 refine ck rfl (force_to ?_)
 conv=>whnf
 refine rR.call ?_
 refine ck rfl (force_to ?_)
 conv=>whnf
 generalize regV (rawA · s) a s (onL l d) d (pth (onL l d) p)=u
 refine alive_c.call ?_
 conv=>whnf
 refine ift (by simp) ?_
 conv=>whnf
 refine ift (by simp) ?_
 conv=>whnf
 refine ift (by simp) ?_
 conv=>whnf
 refine⟨⟨by kernel_rfl,by kernel_rfl⟩,?_⟩
 refine eql_true (by simp[eqLs,leafEq]) ?_
 conv=>whnf
 refine ift (by simp) ?_
 conv=>whnf
 refine go [] [] ?_
 refine frzb ?_
 simp
end Go.Proofs.YtpndfdfipkadkaaGreatDoor
