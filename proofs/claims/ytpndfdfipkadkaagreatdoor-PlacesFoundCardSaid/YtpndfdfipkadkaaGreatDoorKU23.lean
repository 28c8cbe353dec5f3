/- The law holds: part 355. Conditions: none. -/
import Derived.Test.YtpndfdfipkadkaaGreatDoorKU13
import Derived.Test.YtpndfdfipkadkaaGreatDoorKU16
import Derived.Test.YtpndfdfipkadkaaGreatDoorKU22
set_option linter.all false
set_option maxRecDepth 100000
namespace Go.Proofs.YtpndfdfipkadkaaGreatDoor
open Go Go.Wx Go.Ax
def rdE(r:Rd):List D:=[ds' r.text,di r.cost]
theorem pdE(r:Rd):PdL (rdE r):= .cons (.v _) (.cons (.v _) .nil)
def pl244:Plan:=[(1,[.p 0,.l 1,.p 2,.l 3,.p 5,.l 6,.p 7,.l 8,.e 4,.e 9,.e 10,.e 11,.p 12])]
theorem compare_c(r w:Rd):Pur Pg 244 [.agg (rdE r),.agg (rdE w)] (di (orI [cmpI r.cost w.cost,cmpS r.text w.text])):=by
 refine fn Tryz.func244 [] pl244 (.cons (.agg (pdE r)) (.one (.agg (pdE w)))) ?_
 refine(cmp_c _ _).call ?_
 refine(cmpS_c _ _).call ?_
 refine(or_row [cmpI r.cost w.cost,cmpS r.text w.text]).call ?_
 exact frzi rfl
theorem cmp_rdLt(r w:Rd):decide (orI [cmpI r.cost w.cost,cmpS r.text w.text]<0)=rdLt r w:=by
 unfold orI cmpI cmpS rdLt
 by_cases h1:r.cost<w.cost
 ·simp[h1]
 ·by_cases h2:r.cost>w.cost
  ·have h3:¬r.cost=w.cost:=by omega
   simp[h1,h2,h3]
  ·have h3:r.cost=w.cost:=by omega
   by_cases h4:strLt r.text w.text=true
   ·simp[h3,h4]
   ·by_cases h5:strEq r.text w.text=true
    ·simp[h3,h4,h5]
    ·simp[h3,h4,h5]
def btrR(ok:Bool)(w r:Rd):Rd:=if !ok||rdLt r w then r else w
theorem better_c(ok:Bool)(w r:Rd):Pur Pg 218 [.agg (rdE w),db ok,.agg (rdE r)] (.tup [.agg (rdE (btrR ok w r)),db true]):=by
 refine fn Tryz.func218 [] [] (.cons (.agg (pdE w)) (.cons (.v _) (.one (.agg (pdE r))))) ?_
 have fin:∀{H:Heap} (x:Rd),btrR ok w r=x→FrzK 0 H (.tup [.agg (rdE x),db true]) (.tup [.agg (rdE (btrR ok w r)),db true]):=fun x h=>by
  rw[h]
  exact .pd (.tup fun d hd=>by simp at hd;rcases hd with rfl | rfl;exact .agg (pdE x);exact .v _)
 refine if_ (fun h=>?_) fun h=>?_
 ·exact fin r (by unfold btrR;simp at h;simp[h])
 ·refine(compare_c r w).call ?_
  refine if_ (fun h2=>?_) fun h2=>?_<;>rw[cmp_rdLt]at h2
  ·exact fin r (by unfold btrR;simp[h2])
  ·exact fin w (by unfold btrR;simp at h;simp[h,h2])
def two(p q:Int):D:= .agg [di p,di q]
def keyV(p q:Int):Value:= .agg #[.int .i64 p,.int .i64 q]
theorem keyT(p q p' q':Int):keyP Pg 247 (keyV p q) (keyV p' q')=true:=by kernel_rfl
theorem keyV_eq{p q p' q':Int}(h:vEq (keyV p q) (keyV p' q')=true):p=p'∧q=q':=by
 simp[vEq,keyV,eqLs,leafEq]at h
 exact h
structure Known(F:Int→Int→List D)(ks:List Value)(ds:List D):Prop where
 len:ds.length=ks.length
 key:∀(j:Nat) k,ks[j]? =some k→∃p q,k=keyV p q∧ds[j]? =some (.agg (F p q))
theorem Known.ok{F:Int→Int→List D}{ks:List Value}{ds:List D}(h:Known F ks ds)(p q:Int):KeysOk Pg 247 (keyV p q) ks:=⟨keyT p q p q,fun k hk=>by
 obtain⟨j,hj⟩:=List.getElem?_of_mem hk
 obtain⟨p',q',rfl,_⟩:=h.key j k hj
 exact keyT p q p' q'⟩
theorem Known.get{F:Int→Int→List D}{ks:List Value}{ds:List D}(h:Known F ks ds)(p q:Int):mget (keyV p q) ks ds=none∨mget (keyV p q) ks ds=some (.agg (F p q)):=by
 rw[mget_eq]
 cases hk:kidx (keyV p q) ks with
 | none=>exact .inl rfl
 | some j=>
  right
  obtain⟨k,hj,he⟩:=kidx_lt hk
  obtain⟨p',q',rfl,hd⟩:=h.key j k hj
  obtain⟨rfl,rfl⟩:=keyV_eq he
  exact hd
theorem Known.put{F:Int→Int→List D}{ks:List Value}{ds:List D}(h:Known F ks ds)(p q:Int):∃ks' ds',mput (keyV p q) (.agg (F p q)) ks ds= .map ks' ds'∧Known F ks' ds':=by
 unfold mput
 cases hk:kidx (keyV p q) ks with
 | none=>
  refine⟨_,_,rfl,by simp[h.len],fun j k hj=>?_⟩
  by_cases hl:j<ks.length
  ·rw[List.getElem?_append_left hl]at hj
   obtain⟨p',q',e,hd⟩:=h.key j k hj
   exact⟨p',q',e,by rw[List.getElem?_append_left (by rw[h.len];exact hl)];exact hd⟩
  ·rw[List.getElem?_append_right (by omega)]at hj
   have hj0:j-ks.length=0:=by
    have:=(List.getElem?_eq_some_iff.1 hj).1
    simp at this;omega
   rw[hj0]at hj
   cases hj
   exact⟨p,q,rfl,by rw[List.getElem?_append_right (by rw[h.len];omega),h.len,hj0];rfl⟩
 | some j=>
  refine⟨_,_,rfl,by simp[h.len],fun i k hi=>?_⟩
  obtain⟨p',q',e,hd⟩:=h.key i k hi
  refine⟨p',q',e,?_⟩
  by_cases hij:j=i
  ·subst hij
   obtain⟨k',hj,he⟩:=kidx_lt hk
   rw[hi]at hj
   cases hj
   subst e
   obtain⟨rfl,rfl⟩:=keyV_eq he
   exact List.getElem?_set_self (List.getElem?_eq_some_iff.1 hd).1
  ·rw[List.getElem?_set_ne hij];exact hd
def graphL(a:Auto):List D:=[.row false ((List.range (stN a)).map fun(s:Nat)=>[rows Arc.enc (outA a s)]),rows ienc ((List.range (stN a)).map fun(s:Nat)=>finA a s)]
def meetF(a b:Auto)(p q:Int):List D:=rdC (meetA a b p q)
structure MLay(a b:Auto)(kk km kx ky kb:Nat)(H:Heap):Prop where
 ekk:H[kk]? =some (.arr 244 1 [[.map km]])
 ekx:H[kx]? =some (.arr 242 2 [graphL a])
 eky:H[ky]? =some (.arr 242 2 [graphL b])
 ekb:H[kb]? =some (.arr 245 1 [[.clo 217 [.ptr kk 0 0 1,.ptr kx 0 0 1,.ptr ky 0 0 1,.ptr kb 0 0 1]]])
 n1:kk≠km
 n2:kx≠km
 n3:ky≠km
 n4:kb≠km
theorem rd3(o:Option Rd):∃t c s,rdC o=[ds' t,di c,db s]:=by
 cases o with
 | none=>exact⟨_,_,_,rfl⟩
 | some r=>exact⟨_,_,_,rfl⟩
noncomputable def c217:Code:=Tryz.f217.body.getD .skip
def pl217:Plan:=[(5,[.p 0,.l 1,.p 2,.l 3,.p 4,.l 5,.p 6,.l 7,.p 8,.l 9,.p 10,.l 11,.p 12,.p 13])]
theorem fin_at{a:Auto}{P:Nat}(h:P<stN a):ixl (((List.range (stN a)).map fun(s:Nat)=>finA a s).map ienc) 0 (((List.range (stN a)).map fun(s:Nat)=>finA a s).map ienc).length (P:Int)=some [di (finA a P)]:=ixl_at (by simp[h,ienc])
theorem out_at{a:Auto}{P:Nat}(h:P<stN a):ixl ((List.range (stN a)).map fun(s:Nat)=>[rows Arc.enc (outA a s)]) 0 ((List.range (stN a)).map fun(s:Nat)=>[rows Arc.enc (outA a s)]).length (P:Int)=some [rows Arc.enc (outA a P)]:=ixl_at (by simp[h])
structure MtS(a b:Auto)(H:Heap)(km b5 b6 b9 P Q:Nat)(o:Option Rd)(H5:Heap):Prop where
 old:∀c,c<H.length→c≠km→H5[c]? =H[c]?
 map:∃ks ds,H5[km]? =some (.map ks ds)∧Known (meetF a b) ks ds
 h5:H5[b5]? =some (.arr 247 2 [[di P,di Q]])
 h6:H5[b6]? =some (.arr 249 3 [rdC none])
 h9:H5[b9]? =some (.arr 249 3 [rdC o])
theorem MtS.app{a b:Auto}{H H5:Heap}{km b5 b6 b9 P Q:Nat}{o:Option Rd}(h:MtS a b H km b5 b6 b9 P Q o H5)(hl:H.length≤H5.length)(x:AO):MtS a b H km b5 b6 b9 P Q o (H5++[x]):=by
 have ap:∀{c:Nat} {y:AO},H5[c]? =some y→(H5++[x])[c]? =some y:=fun{c y} h=>(List.getElem?_append_left (lt_of_some h)).trans h
 obtain⟨ks,ds,h1,h2⟩:=h.map
 exact⟨fun c hc hn=>(List.getElem?_append_left (by omega)).trans (h.old c hc hn),⟨ks,ds,ap h1,h2⟩,ap h.h5,ap h.h6,ap h.h9⟩
theorem MtS.set{a b:Auto}{H H5:Heap}{km b5 b6 b9 P Q k:Nat}{o:Option Rd}(h:MtS a b H km b5 b6 b9 P Q o H5)(hk:H.length≤k)(hm:km<H.length)(n5:k≠b5)(n6:k≠b6)(n9:k≠b9)(x:AO):MtS a b H km b5 b6 b9 P Q o (H5.set k x):=by
 obtain⟨ks,ds,h1,h2⟩:=h.map
 exact⟨fun c hc hn=>(List.getElem?_set_ne (by omega)).trans (h.old c hc hn),⟨ks,ds,(List.getElem?_set_ne (by omega)).trans h1,h2⟩,(List.getElem?_set_ne n5).trans h.h5,(List.getElem?_set_ne n6).trans h.h6,(List.getElem?_set_ne n9).trans h.h9⟩
theorem MtS.upd{a b:Auto}{H H5:Heap}{km b5 b6 b9 P Q:Nat}{o:Option Rd}(h:MtS a b H km b5 b6 b9 P Q o H5)(hk:H.length≤b9)(hm:km<H.length)(n5:b9≠b5)(n6:b9≠b6)(o':Option Rd):MtS a b H km b5 b6 b9 P Q o' (H5.set b9 (.arr 249 3 [rdC o'])):=by
 obtain⟨ks,ds,h1,h2⟩:=h.map
 exact⟨fun c hc hn=>(List.getElem?_set_ne (by omega)).trans (h.old c hc hn),⟨ks,ds,(List.getElem?_set_ne (by omega)).trans h1,h2⟩,(List.getElem?_set_ne n5).trans h.h5,(List.getElem?_set_ne n6).trans h.h6,List.getElem?_set_self (lt_of_some h.h9)⟩
theorem MtS.call{a b:Auto}{H H5 H6:Heap}{km b5 b6 b9 P Q:Nat}{o:Option Rd}(h:MtS a b H km b5 b6 b9 P Q o H5)(hl:H.length≤H5.length)(hm:km<H.length)(l5:H.length≤b5)(l6:H.length≤b6)(l9:H.length≤b9)(hmap:∃ks ds,H6[km]? =some (.map ks ds)∧Known (meetF a b) ks ds)(ho:∀c,c<H5.length→c≠km→H6[c]? =H5[c]?):MtS a b H km b5 b6 b9 P Q o H6:=
 ⟨fun c hc hn=>(ho c (by omega) hn).trans (h.old c hc hn),hmap,(ho b5 (lt_of_some h.h5) (by omega)).trans h.h5,(ho b6 (lt_of_some h.h6) (by omega)).trans h.h6,(ho b9 (lt_of_some h.h9) (by omega)).trans h.h9⟩
theorem MtS.lay{a b:Auto}{H H5:Heap}{kk km kx ky kb b5 b6 b9 P Q:Nat}{o:Option Rd}(h:MtS a b H km b5 b6 b9 P Q o H5)(hL:MLay a b kk km kx ky kb H):MLay a b kk km kx ky kb H5:=
 ⟨(h.old kk (lt_of_some hL.ekk) hL.n1).trans hL.ekk,(h.old kx (lt_of_some hL.ekx) hL.n2).trans hL.ekx,(h.old ky (lt_of_some hL.eky) hL.n3).trans hL.eky,(h.old kb (lt_of_some hL.ekb) hL.n4).trans hL.ekb,hL.n1,hL.n2,hL.n3,hL.n4⟩
theorem rdO(o:Option Rd):∃ok w,rdC o=[ds' w.text,di w.cost,db ok]∧∀R,rdC (betterO o R)=[ds' (btrR ok w R).text,di (btrR ok w R).cost,db true]:=by
 cases o with
 | none=>exact⟨false,⟨⟨#[]⟩,0⟩,rfl,fun R=>by simp[betterO,btrR,rdC]⟩
 | some w=>
  refine⟨true,w,rfl,fun R=>?_⟩
  unfold betterO btrR
  simp only[Bool.not_true,Bool.false_or]
  split<;>rfl
theorem best_c (a b : Auto) (va : Valid a) (vb : Valid b) (kk km kx ky kb : Nat) : ∀ (n : Nat) (p q : Int), a.states - p ≤ n → 0 ≤ p → p < a.states → 0 ≤ q → q < b.states → ∀ (H : Heap) (ks : List Value) (ds : List D), MLay a b kk km kx ky kb H → H[km]? = some (.map ks ds) → Known (meetF a b) ks ds →
    AC Pg 217 [two p q, .ptr kk 0 0 1, .ptr kx 0 0 1, .ptr ky 0 0 1, .ptr kb 0 0 1] H fun d H' ms => d = .agg (meetF a b p q) ∧ (∃ ks' ds', H'[km]? = some (.map ks' ds') ∧ Known (meetF a b) ks' ds') ∧ (∀ c, c < H.length → c ≠ km → H'[c]? = H[c]?) ∧ H.length ≤ H'.length ∧ ms = [km]
  | 0, p, q, h, _, h1, _, _ => by omega
  | n + 1, p, q, hn, hp0, hp1, hq0, hq1 => by
    intro H ks ds hL hm hK
    obtain ⟨P, rfl⟩ := Int.eq_ofNat_of_zero_le hp0
    obtain ⟨Q, rfl⟩ := Int.eq_ofNat_of_zero_le hq0
    have hkm := lt_of_some hm
    refine AC_fn Tryz.func217 rfl rfl rfl [km] (fun c => Nat.beq c km || Nat.ble H.length c) (fun c hc hA => ?_) (AW_rest (c' := restC 0 c217) ?_)
    · rw [Bool.or_eq_true] at hA
      rcases hA with hA | hA
      · rw [Nat.eq_of_beq_eq_true hA]; simp
      · have := Nat.le_of_ble_eq_true hA; omega
    have allA : ∀ {b : Nat}, H.length ≤ b → ([b].all fun c => Nat.beq c km || Nat.ble H.length c) = true := fun {b} hb => by
      simp only [List.all_cons, List.all_nil, Bool.and_true]
      rw [Nat.ble_eq_true_of_le hb, Bool.or_true]
    have allK : ([km].all fun c => Nat.beq c km || Nat.ble H.length c) = true := by simp
    have mid : ∀ e0 (H4 : Heap) (b5 b6 b9 : Nat), (∀ c, c < H.length → H4[c]? = H[c]?) → H.length ≤ b5 → H.length ≤ b6 → H.length ≤ b9 → b5 ≠ b6 → b5 ≠ b9 → b6 ≠ b9 → H4[b5]? = some (.arr 247 2 [[di P, di Q]]) → H4[b6]? = some (.arr 249 3 [rdC none]) → H4[b9]? = some (.arr 249 3 [rdC (startA a b P Q)]) →
        AW Pg Tryz.f217.ntmps (fun c => Nat.beq c km || Nat.ble H.length c) H.length (restC 4 c217) (fun ex s => dret Pg Tryz.f217.results.toList (fun d H' ms => d = .agg (meetF a b P Q) ∧ (∃ ks' ds', H'[km]? = some (.map ks' ds') ∧ Known (meetF a b) ks' ds') ∧ (∀ c, c < H.length → c ≠ km → H'[c]? = H[c]?) ∧ H.length ≤ H'.length ∧ ms = [km]) [km] ex s.e s.H)
          ⟨dupds e0 [(1, .ptr kk 0 0 1), (2, .ptr kx 0 0 1), (3, .ptr ky 0 0 1), (4, .ptr kb 0 0 1), (5, .ptr b5 0 0 1), (6, .ptr b6 0 0 1), (9, .ptr b9 0 0 1)], H4⟩ := by
      intro e0 H4 b5 b6 b9 hold l5 l6 l9 n56 n59 n69 h5 h6 h9
      have gx := (hold kx (lt_of_some hL.ekx)).trans hL.ekx
      have gy := (hold ky (lt_of_some hL.eky)).trans hL.eky
      have hPn : P < stN a := by unfold stN; omega
      have hQn : Q < stN b := by unfold stN; omega
      refine goC 1 [] pl217 ?_
      repeat ((conv => whnf); (first | refine datarr_at gx ?_ | refine datarr_at h5 ?_ | refine lst_at (out_at hPn) ?_))
      conv => whnf
      have hl4 : H.length ≤ H4.length := Nat.le_trans l9 (Nat.le_of_lt (lt_of_some h9))
      have hl3 : H.length ≤ H4.length := hl4
      have hMS : MtS a b H km b5 b6 b9 P Q (startA a b P Q) H4 := ⟨fun c hc _ => hold c hc, ⟨ks, ds, (hold km hkm).trans hm, hK⟩, h5, h6, h9⟩
      have hya : ∀ y ∈ outA b Q, y ∈ b.arcs := fun y hy => (mem_out.1 hy).1
      have hxa : ∀ x ∈ outA a P, x ∈ a.arcs ∧ x.frm = P := fun x hx => mem_out.1 hx
      have hxl : (outA a P).length ≤ 4000 := Nat.le_trans (List.length_filter_le _ _) va.al
      have hyl : (outA b Q).length ≤ 4000 := Nat.le_trans (List.length_filter_le _ _) vb.al
      have hend := meetA_eq va (b := b) (q := (Q : Int)) hp0
      clear gx gy h5 h6 h9 hold
      generalize hxs : outA a (P : Int) = xs at hxa hxl hend
      generalize hys : outA b (Q : Int) = ys at hya hyl hend
      refine AW_idx xs.length (fun i st => ∃ H5, H.length ≤ H5.length ∧ MtS a b H km b5 b6 b9 P Q ((xs.take i).foldl (stepP (meetA a b) ys) (startA a b P Q)) H5 ∧ Has [(1, .ptr kk 0 0 1), (2, .ptr kx 0 0 1), (3, .ptr ky 0 0 1), (4, .ptr kb 0 0 1), (5, .ptr b5 0 0 1), (6, .ptr b6 0 0 1), (9, .ptr b9 0 0 1), (53, rows Arc.enc xs), (54, di xs.length), (55, di i)] H5 st) ?_ ?_
      · exact ⟨H4, hl4, hMS, has ⟨rfl, rfl, rfl, rfl, rfl, rfl, rfl, rfl, congrArg (fun n : Nat => di n) (List.length_map _), rfl, trivial⟩ rfl⟩
      clear hMS hl4 hl3
      clear H4
      rintro i _ hi ⟨H4, hl4, hM, e1, rfl⟩
      refine go [] pl217 (if_ (fun hlt => ?_) (fun hlt => ?_))
      · simp at hlt
        refine row_at hlt ?_
        have hxm := hxa _ (List.getElem_mem hlt)
        have hxo : xs[i]? = some xs[i] := List.getElem?_eq_getElem hlt
        generalize xs[i] = x at hxm hxo
        have hN : ∀ {o : AO}, (H4 ++ [o])[H4.length]? = some o := List.getElem?_concat_length
        have hN2 : ∀ {o o' : AO}, ((H4 ++ [o]).set H4.length o')[H4.length]? = some o' := fun {o o'} => List.getElem?_set_self (by simp)
        have hM2 : ∀ {o o' : AO}, MtS a b H km b5 b6 b9 P Q ((xs.take i).foldl (stepP (meetA a b) ys) (startA a b P Q)) ((H4 ++ [o]).set H4.length o') := fun {o o'} =>
          (hM.app hl4 o).set hl4 hkm (Ne.symm (Nat.ne_of_lt (lt_of_some hM.h5))) (Ne.symm (Nat.ne_of_lt (lt_of_some hM.h6))) (Ne.symm (Nat.ne_of_lt (lt_of_some hM.h9))) o'
        have gy : ∀ {o o' : AO}, ((H4 ++ [o]).set H4.length o')[ky]? = some (.arr 242 2 [graphL b]) := fun {o o'} => (hM2.lay hL).eky
        repeat ((conv => whnf); (first | refine datarr_at hN ?_ | refine datarr_at hN2 ?_))
        conv => whnf
        refine ck (allA hl4) ?_
        have oy : ixl ((List.range (stN b)).map fun (s : Nat) => [rows Arc.enc (outA b s)]) 0 ((List.range (stN b)).map fun (s : Nat) => [rows Arc.enc (outA b s)]).length (Q : Int) = some [rows Arc.enc ys] := by rw [← hys]; exact out_at hQn
        repeat ((conv => whnf); (first | refine datarr_at gy ?_ | refine datarr_at hM2.h5 ?_ | refine lst_at oy ?_))
        conv => whnf
        refine AW_idx ys.length (fun j st => ∃ H5, H.length ≤ H5.length ∧ MtS a b H km b5 b6 b9 P Q ((ys.take j).foldl (stepQ (meetA a b) x) ((xs.take i).foldl (stepP (meetA a b) ys) (startA a b P Q))) H5 ∧ H5[H4.length]? = some (.arr 205 4 [x.enc]) ∧ Has [(1, .ptr kk 0 0 1), (2, .ptr kx 0 0 1), (3, .ptr ky 0 0 1), (4, .ptr kb 0 0 1), (5, .ptr b5 0 0 1), (6, .ptr b6 0 0 1), (9, .ptr b9 0 0 1), (13, .ptr H4.length 0 0 1), (53, rows Arc.enc xs), (54, di xs.length), (55, di i), (64, rows Arc.enc ys), (65, di ys.length), (66, di j)] H5 st) ?_ ?_
        · exact ⟨_, by simp; omega, hM2, hN2, has ⟨rfl, rfl, rfl, rfl, rfl, rfl, rfl, rfl, rfl, rfl, rfl, rfl, congrArg (fun n : Nat => di n) (List.length_map _), rfl, trivial⟩ rfl⟩
        clear hN hN2 gy
        have n135 : H4.length ≠ b5 := Ne.symm (Nat.ne_of_lt (lt_of_some hM.h5))
        have n136 : H4.length ≠ b6 := Ne.symm (Nat.ne_of_lt (lt_of_some hM.h6))
        have n139 : H4.length ≠ b9 := Ne.symm (Nat.ne_of_lt (lt_of_some hM.h9))
        clear hM2
        generalize H4.length = b13 at hl4 n135 n136 n139
        clear hM
        clear H4
        rintro j _ hj ⟨H4, hl5, hM, h13, e2, rfl⟩
        refine go [] pl217 (if_ (fun hjlt => ?_) (fun hjlt => ?_))
        · simp at hjlt
          refine row_at hjlt ?_
          have hym := hya _ (List.getElem_mem hjlt)
          have hyo : ys[j]? = some ys[j] := List.getElem?_eq_getElem hjlt
          generalize ys[j] = y at hym hyo
          have hN : ∀ {o : AO}, (H4 ++ [o])[H4.length]? = some o := List.getElem?_concat_length
          have hN2 : ∀ {o o' : AO}, ((H4 ++ [o]).set H4.length o')[H4.length]? = some o' := fun {o o'} => List.getElem?_set_self (by simp)
          have h13' : ∀ {o o' : AO}, ((H4 ++ [o]).set H4.length o')[b13]? = some (.arr 205 4 [x.enc]) := fun {o o'} => by
            have := lt_of_some h13
            rw [List.getElem?_set_ne (by omega), List.getElem?_append_left this]; exact h13
          have hM2 : ∀ {o o' : AO}, MtS a b H km b5 b6 b9 P Q ((ys.take j).foldl (stepQ (meetA a b) x) ((xs.take i).foldl (stepP (meetA a b) ys) (startA a b P Q))) ((H4 ++ [o]).set H4.length o') := fun {o o'} =>
            (hM.app hl5 o).set hl5 hkm (Ne.symm (Nat.ne_of_lt (lt_of_some hM.h5))) (Ne.symm (Nat.ne_of_lt (lt_of_some hM.h6))) (Ne.symm (Nat.ne_of_lt (lt_of_some hM.h9))) o'
          repeat ((conv => whnf); (first | refine datarr_at hN ?_ | refine datarr_at hN2 ?_))
          conv => whnf
          refine ck (allA hl5) ?_
          repeat ((conv => whnf); (first | refine datarr_at h13' ?_ | refine datarr_at hN2 ?_))
          conv => whnf
          have htk : (ys.take (j + 1)).foldl (stepQ (meetA a b) x) ((xs.take i).foldl (stepP (meetA a b) ys) (startA a b P Q)) = stepQ (meetA a b) x ((ys.take j).foldl (stepQ (meetA a b) x) ((xs.take i).foldl (stepP (meetA a b) ys) (startA a b P Q))) y := by
            rw [List.take_add_one, hyo, Option.toList_some, List.foldl_append]; rfl
          generalize (ys.take j).foldl (stepQ (meetA a b) x) ((xs.take i).foldl (stepP (meetA a b) ys) (startA a b P Q)) = o at hM2 htk
          refine if_ (fun hne => ?_) fun hne => ?_
          · have hst : stepQ (meetA a b) x o y = o := by unfold stepQ; rw [if_neg (by simpa using hne)]
            refine ⟨hjlt, _, ?_, ?_, h13', has ⟨rfl, rfl, rfl, rfl, rfl, rfl, rfl, rfl, rfl, rfl, rfl, rfl, rfl, inc hjlt (by simp only [maxLen]; omega), trivial⟩ rfl⟩
            · simp; omega
            · rw [htk, hst]; exact hM2
          · have hl : x.letter = y.letter := by simpa using hne
            have hst : ∀ mm, mm = meetA a b x.to y.to → stepQ (meetA a b) x o y = match mm with | none => o | some r => betterO o ⟨consT x.letter r.text, x.cost + y.cost + r.cost⟩ := fun mm hmm => by
              subst hmm
              unfold stepQ
              rw [if_pos (by simpa using hl)]
              rfl
            obtain ⟨mm, hmm⟩ : ∃ mm, mm = meetA a b x.to y.to := ⟨_, rfl⟩
            have hst := hst mm hmm
            have hsm := meetA_small va vb x.to y.to
            rw [← hmm] at hsm
            have hxv := va.arc x hxm.1
            have hyv := vb.arc y hym
            have hkb : ∀ {o o' : AO}, ((H4 ++ [o]).set H4.length o')[kb]? = some (.arr 245 1 [[.clo 217 [.ptr kk 0 0 1, .ptr kx 0 0 1, .ptr ky 0 0 1, .ptr kb 0 0 1]]]) := fun {o o'} => (hM2.lay hL).ekb
            repeat ((conv => whnf); (first | refine datarr_at hkb ?_ | refine datarr_at h13' ?_ | refine datarr_at hN2 ?_))
            conv => whnf
            obtain ⟨ks1, ds1, hmp, hK1⟩ := hM2.map
            refine AC.mono (best_c a b va vb kk km kx ky kb n x.to y.to (by omega) (by omega) (by omega) (by omega) (by omega) _ ks1 ds1 (hM2.lay hL) hmp hK1) ?_
            rintro d H6 ms ⟨hd, hmap6, hold6, hlen6, rfl⟩
            have hM6 : MtS a b H km b5 b6 b9 P Q o H6 := hM2.call (by simp; omega) hkm l5 l6 l9 hmap6 hold6
            have hl6 : H.length ≤ H6.length := by simp at hlen6; omega
            have h136 : H6[b13]? = some (.arr 205 4 [x.enc]) := (hold6 b13 (lt_of_some h13') (by omega)).trans h13'
            have h156 : H6[H4.length]? = some (.arr 205 4 [y.enc]) := (hold6 H4.length (lt_of_some hN2) (by omega)).trans hN2
            have hd2 : d = .agg (rdC mm) := hd.trans (by rw [hmm]; rfl)
            subst hd2
            refine ck allK ?_
            generalize H4.length = b15 at h156
            have hN : ∀ {o : AO}, (H6 ++ [o])[H6.length]? = some o := List.getElem?_concat_length
            have hN2 : ∀ {o o' : AO}, ((H6 ++ [o]).set H6.length o')[H6.length]? = some o' := fun {o o'} => List.getElem?_set_self (by simp)
            have ap : ∀ {c : Nat} {z o o' : AO}, H6[c]? = some z → ((H6 ++ [o]).set H6.length o')[c]? = some z := fun {c z o o'} h => by
              have := lt_of_some h
              rw [List.getElem?_set_ne (by omega), List.getElem?_append_left this]; exact h
            have hM7 : ∀ {o1 o' : AO}, MtS a b H km b5 b6 b9 P Q o ((H6 ++ [o1]).set H6.length o') := fun {o1 o'} =>
              (hM6.app hl6 o1).set hl6 hkm (Ne.symm (Nat.ne_of_lt (lt_of_some hM6.h5))) (Ne.symm (Nat.ne_of_lt (lt_of_some hM6.h6))) (Ne.symm (Nat.ne_of_lt (lt_of_some hM6.h9))) o'
            cases mm with
            | none =>
              refine force_to ?_
              repeat ((conv => whnf); (first | refine datarr_at hN ?_ | refine datarr_at hN2 ?_))
              conv => whnf
              refine ck (allA hl6) ?_
              repeat ((conv => whnf); (first | refine datarr_at hN ?_ | refine datarr_at hN2 ?_))
              refine ⟨hjlt, _, ?_, ?_, ap h136, has ⟨rfl, rfl, rfl, rfl, rfl, rfl, rfl, rfl, rfl, rfl, rfl, rfl, rfl, inc hjlt (by simp only [maxLen]; omega), trivial⟩ rfl⟩
              · simp; omega
              · rw [htk, hst]; exact hM7
            | some r =>
              obtain ⟨hr0, hr1, hr2⟩ := hsm r rfl
              obtain ⟨ok, w, ho1, ho2⟩ := rdO o
              have h9' : ∀ {o1 o' : AO}, ((H6 ++ [o1]).set H6.length o')[b9]? = some (.arr 249 3 [[ds' w.text, di w.cost, db ok]]) := fun {o1 o'} => by rw [← ho1]; exact hM7.h9
              refine force_to ?_
              repeat ((conv => whnf); (first | refine datarr_at hN ?_ | refine datarr_at hN2 ?_))
              conv => whnf
              refine ck (allA hl6) ?_
              repeat ((conv => whnf); (first | refine datarr_at hN ?_ | refine datarr_at hN2 ?_ | refine datarr_at h9' ?_ | refine datarr_at (ap h136) ?_ | refine datarr_at (ap h156) ?_))
              conv => whnf
              have h1s : (strOf [x.letter]).size = 1 := rfl
              refine ck (Nat.ble_eq_true_of_le (show (strOf [x.letter]).size + r.text.size ≤ _ by omega)) ?_
              repeat ((conv => whnf); (first | refine datarr_at hN2 ?_ | refine datarr_at h9' ?_ | refine datarr_at (ap h136) ?_ | refine datarr_at (ap h156) ?_))
              conv => whnf
              refine (better_c ok w ⟨strOf [x.letter] ++ r.text, IntKind.wrap .i64 (IntKind.wrap .i64 (x.cost + y.cost) + r.cost)⟩).call ?_
              have hR : (⟨strOf [x.letter] ++ r.text, IntKind.wrap .i64 (IntKind.wrap .i64 (x.cost + y.cost) + r.cost)⟩ : Rd) = ⟨consT x.letter r.text, x.cost + y.cost + r.cost⟩ := by
                rw [wadd (a := x.cost) (b := y.cost) (by omega) (by omega), wadd (a := x.cost + y.cost) (b := r.cost) (by omega) (by omega)]; rfl
              rw [hR]
              have ho3 := ho2 ⟨consT x.letter r.text, x.cost + y.cost + r.cost⟩
              generalize btrR ok w ⟨consT x.letter r.text, x.cost + y.cost + r.cost⟩ = wn at ho3
              have h9s : ∀ {o1 o' : AO} {z : AO}, (((H6 ++ [o1]).set H6.length o').set b9 z)[b9]? = some z := fun {o1 o' z} => List.getElem?_set_self (lt_of_some h9')
              have up : ∀ {o1 o' : AO}, MtS a b H km b5 b6 b9 P Q (betterO o ⟨consT x.letter r.text, x.cost + y.cost + r.cost⟩) (((H6 ++ [o1]).set H6.length o').set b9 (.arr 249 3 [[ds' wn.text, di wn.cost, db true]])) := fun {o1 o'} => by
                have := (hM7 (o1 := o1) (o' := o')).upd l9 hkm n59.symm n69.symm (betterO o ⟨consT x.letter r.text, x.cost + y.cost + r.cost⟩)
                rw [ho3] at this
                exact this
              refine ck rfl ?_
              refine force_to ?_
              repeat ((conv => whnf); (first | refine datarr_at h9' ?_ | refine datarr_at h9s ?_ ))
              conv => whnf
              refine ck (allA l9) ?_
              repeat ((conv => whnf); (first | refine datarr_at h9s ?_ ))
              conv => whnf
              refine ck (allA l9) ?_
              conv => whnf
              refine ⟨hjlt, _, ?_, ?_, ?_, has ⟨rfl, rfl, rfl, rfl, rfl, rfl, rfl, rfl, rfl, rfl, rfl, rfl, rfl, inc hjlt (by simp only [maxLen]; omega), trivial⟩ rfl⟩
              · rw [List.length_set, List.length_set, List.length_set]; simp; omega
              · rw [htk, hst, List.set_set]
                exact up
              · exact (List.getElem?_set_ne n139.symm).trans ((List.getElem?_set_ne n139.symm).trans (ap h136))
        · simp at hjlt
          have hjl : j = ys.length := by omega
          subst hjl
          rw [List.take_length] at hM
          conv => whnf
          refine ⟨hlt, H4, hl5, ?_, has ⟨rfl, rfl, rfl, rfl, rfl, rfl, rfl, rfl, rfl, inc hlt (by simp only [maxLen]; omega), trivial⟩ rfl⟩
          rw [List.take_add_one, hxo, Option.toList_some, List.foldl_append]
          exact hM
      · simp at hlt
        have hil : i = xs.length := by omega
        subst hil
        rw [List.take_length, ← hend] at hM
        conv => whnf
        have gk := (hM.lay hL).ekk
        obtain ⟨ks1, ds1, hmp, hK1⟩ := hM.map
        obtain ⟨ks2, ds2, hput, hK2⟩ := hK1.put P Q
        obtain ⟨t0, c0, s0, he⟩ := rd3 (meetA a b P Q)
        have he' : meetF a b P Q = [ds' t0, di c0, db s0] := he
        have h9 := hM.h9
        rw [he] at h9
        rw [he'] at hput
        refine go [] pl217 ?_
        repeat ((conv => whnf); (first | refine datarr_at gk ?_ | refine datarr_at hM.h5 ?_ | refine datarr_at h9 ?_))
        conv => whnf
        refine mup_at hmp ?_
        refine ⟨hK1.ok P Q, ?_⟩
        have hks := lt_of_some hmp
        have h9m : ∀ {z : AO}, (H4.set km z)[b9]? = some (.arr 249 3 [[ds' t0, di c0, db s0]]) := fun {z} => (List.getElem?_set_ne (by omega)).trans h9
        have h6m : ∀ {z : AO}, (H4.set km z)[b6]? = some (.arr 249 3 [rdC none]) := fun {z} => (List.getElem?_set_ne (by omega)).trans hM.h6
        have h6s : ∀ {z z' : AO}, ((H4.set km z).set b6 z')[b6]? = some z' := fun {z z'} => List.getElem?_set_self (lt_of_some h6m)
        refine ck allK ?_
        repeat ((conv => whnf); (first | refine datarr_at h9m ?_ | refine datarr_at h6m ?_ | refine datarr_at h6s ?_))
        conv => whnf
        refine ck (allA l6) ?_
        repeat ((conv => whnf); (first | refine datarr_at h9m ?_ | refine datarr_at h6m ?_ | refine datarr_at h6s ?_))
        refine ⟨by rw [he']; rfl, ⟨ks2, ds2, ?_, hK2⟩, fun c hc hne => ?_, ?_, rfl⟩
        · refine (List.getElem?_set_ne (by omega)).trans ((List.getElem?_set_self hks).trans ?_)
          exact congrArg some hput
        · exact (List.getElem?_set_ne (by omega)).trans ((List.getElem?_set_ne (Ne.symm hne)).trans (hM.old c hc hne))
        · show H.length ≤ List.length ((H4.set km _).set b6 _)
          rw [List.length_set, List.length_set]; exact hl4
    have tail : ∀ e0 (H4 : Heap) (b5 b6 b9 : Nat), (∀ c, c < H.length → H4[c]? = H[c]?) → H.length ≤ b5 → H.length ≤ b6 → H.length ≤ b9 → b5 ≠ b6 → b5 ≠ b9 → b6 ≠ b9 → H4[b5]? = some (.arr 247 2 [[di P, di Q]]) → H4[b6]? = some (.arr 249 3 [rdC none]) → H4[b9]? = some (.arr 249 3 [rdC none]) →
        AW Pg Tryz.f217.ntmps (fun c => Nat.beq c km || Nat.ble H.length c) H.length (restC 3 c217) (fun ex s => dret Pg Tryz.f217.results.toList (fun d H' ms => d = .agg (meetF a b P Q) ∧ (∃ ks' ds', H'[km]? = some (.map ks' ds') ∧ Known (meetF a b) ks' ds') ∧ (∀ c, c < H.length → c ≠ km → H'[c]? = H[c]?) ∧ H.length ≤ H'.length ∧ ms = [km]) [km] ex s.e s.H)
          ⟨dupds e0 [(1, .ptr kk 0 0 1), (2, .ptr kx 0 0 1), (3, .ptr ky 0 0 1), (4, .ptr kb 0 0 1), (5, .ptr b5 0 0 1), (6, .ptr b6 0 0 1), (9, .ptr b9 0 0 1)], H4⟩ := by
      intro e0 H4 b5 b6 b9 hold l5 l6 l9 n56 n59 n69 h5 h6 h9
      have gx := (hold kx (lt_of_some hL.ekx)).trans hL.ekx
      have gy := (hold ky (lt_of_some hL.eky)).trans hL.eky
      have hPn : P < stN a := by unfold stN; omega
      have hQn : Q < stN b := by unfold stN; omega
      refine goC 1 [] pl217 ?_
      repeat ((conv => whnf); (first | refine datarr_at gx ?_ | refine datarr_at h5 ?_ | refine lst_at (fin_at hPn) ?_ | refine datarr_at gy ?_ | refine lst_at (fin_at hQn) ?_))
      conv => whnf
      have hfa := finA_le va P
      have hfb := finA_le vb Q
      refine if_ (fun c1 => if_ (fun c2 => ?_) fun c2 => ?_) fun c1 => ?_
      · have hs : startA a b P Q = some ⟨⟨#[]⟩, finA a P + finA b Q⟩ := by unfold startA; rw [if_pos (by simp at c1 c2 ⊢; omega)]
        repeat ((conv => whnf); (first | refine datarr_at h9 ?_))
        conv => whnf
        refine ck (allA l9) ?_
        conv => whnf
        refine AW_rest (c' := restC 4 c217) (AW_has (l := [(1, .ptr kk 0 0 1), (2, .ptr kx 0 0 1), (3, .ptr ky 0 0 1), (4, .ptr kb 0 0 1), (5, .ptr b5 0 0 1), (6, .ptr b6 0 0 1), (9, .ptr b9 0 0 1)]) (fun e1 => mid e1 _ b5 b6 b9 (fun c hc => ?_) l5 l6 l9 n56 n59 n69 ?_ ?_ ?_) ⟨rfl, rfl, rfl, rfl, rfl, rfl, rfl, trivial⟩)
        · exact (List.getElem?_set_ne (by omega)).trans (hold c hc)
        · exact (List.getElem?_set_ne n59.symm).trans h5
        · exact (List.getElem?_set_ne n69.symm).trans h6
        · refine (List.getElem?_set_self (lt_of_some h9)).trans ?_
          rw [hs]
          show some (AO.arr 249 3 [[ds' ⟨#[]⟩, .v (.int .i64 (IntKind.wrap .i64 (finA a P + finA b Q))), db true]]) = _
          rw [wadd (by omega) (by omega)]
          rfl
      · have hs : startA a b P Q = none := by unfold startA; rw [if_neg (by simp at c2 ⊢; omega)]
        refine AW_rest (c' := restC 4 c217) (AW_has (l := [(1, .ptr kk 0 0 1), (2, .ptr kx 0 0 1), (3, .ptr ky 0 0 1), (4, .ptr kb 0 0 1), (5, .ptr b5 0 0 1), (6, .ptr b6 0 0 1), (9, .ptr b9 0 0 1)]) (fun e1 => mid e1 _ b5 b6 b9 hold l5 l6 l9 n56 n59 n69 h5 h6 (by rw [hs]; exact h9)) ⟨rfl, rfl, rfl, rfl, rfl, rfl, rfl, trivial⟩)
      · have hs : startA a b P Q = none := by unfold startA; rw [if_neg (by simp at c1 ⊢; omega)]
        refine AW_rest (c' := restC 4 c217) (AW_has (l := [(1, .ptr kk 0 0 1), (2, .ptr kx 0 0 1), (3, .ptr ky 0 0 1), (4, .ptr kb 0 0 1), (5, .ptr b5 0 0 1), (6, .ptr b6 0 0 1), (9, .ptr b9 0 0 1)]) (fun e1 => mid e1 _ b5 b6 b9 hold l5 l6 l9 n56 n59 n69 h5 h6 (by rw [hs]; exact h9)) ⟨rfl, rfl, rfl, rfl, rfl, rfl, rfl, trivial⟩)
    refine goC 3 [] pl217 ?_
    have o2 : ∀ {c : Nat} {o x y : AO}, H[c]? = some o → (H ++ [x] ++ [y])[c]? = some o := fun {c o x y} h => by
      have := lt_of_some h
      rw [List.getElem?_append_left (by simp; omega), List.getElem?_append_left this]; exact h
    have o2a : ∀ {x y : AO}, (H ++ [x] ++ [y])[H.length]? = some x := fun {x y} => by
      rw [List.getElem?_append_left (by simp), List.getElem?_append_right (Nat.le_refl _)]; simp
    have o3 : ∀ {c : Nat} {o x y z z' : AO}, H[c]? = some o → ((H ++ [x] ++ [y] ++ [z]).set (H ++ [x] ++ [y]).length z')[c]? = some o := fun {c o x y z z'} h => by
      have := lt_of_some h
      rw [List.getElem?_set_ne (by simp; omega), List.getElem?_append_left (by simp; omega)]; exact o2 h
    have o3c : ∀ {x y z z' : AO}, ((H ++ [x] ++ [y] ++ [z]).set (H ++ [x] ++ [y]).length z')[(H ++ [x] ++ [y]).length]? = some z' := fun {x y z z'} => List.getElem?_set_self (by simp)
    have o3n : ∀ {x y z : AO}, (H ++ [x] ++ [y] ++ [z])[(H ++ [x] ++ [y]).length]? = some z := fun {x y z} => List.getElem?_concat_length
    repeat ((conv => whnf); (first | refine datarr_at (o2 hL.ekk) ?_ | refine datarr_at o2a ?_))
    conv => whnf
    refine map_at (o2 hm) ?_
    refine ⟨hK.ok P Q, ?_⟩
    rcases hK.get P Q with hg | hg
    · refine mlk_none hg ?_
      repeat ((conv => whnf); (first | refine datarr_at o3n ?_ ))
      conv => whnf
      refine ck (allA (by simp)) ?_
      conv => whnf
      refine AW_rest (c' := restC 3 c217) (AW_has (l := [(1, .ptr kk 0 0 1), (2, .ptr kx 0 0 1), (3, .ptr ky 0 0 1), (4, .ptr kb 0 0 1), (5, .ptr _ 0 0 1), (6, .ptr _ 0 0 1), (9, .ptr _ 0 0 1)]) (fun e0 => tail e0 _ _ _ _ ?_ ?_ ?_ ?_ ?_ ?_ ?_ ?_ ?_ ?_) ⟨rfl, rfl, rfl, rfl, rfl, rfl, rfl, trivial⟩)
      · intro c hc
        rw [List.getElem?_append_left (by simp; omega), List.getElem?_set_ne (by simp; omega), List.getElem?_append_left (by simp; omega), List.getElem?_append_left (by simp; omega), List.getElem?_append_left hc]
      · exact Nat.le_refl _
      · simp
      · simp
      · simp
      · simp
      · simp
      · rw [List.getElem?_append_left (by simp), List.getElem?_set_ne (by simp), List.getElem?_append_left (by simp)]
        exact o2a
      · rw [List.getElem?_append_left (by simp), List.getElem?_set_ne (by simp), List.getElem?_append_left (by simp)]
        exact List.getElem?_concat_length
      · exact List.getElem?_concat_length
    · obtain ⟨t0, c0, s0, he⟩ := rd3 (meetA a b P Q)
      have he' : meetF a b P Q = [ds' t0, di c0, db s0] := he
      rw [he'] at hg
      refine mlk_some hg ?_
      have o3b : ∀ {x y z z' : AO}, ((H ++ [x] ++ [y] ++ [z]).set (H ++ [x] ++ [y]).length z')[(H ++ [x]).length]? = some y := fun {x y z z'} => by
        rw [List.getElem?_set_ne (by simp), List.getElem?_append_left (by simp)]
        exact List.getElem?_concat_length
      have o4 : ∀ {x y z z' w : AO}, (((H ++ [x] ++ [y] ++ [z]).set (H ++ [x] ++ [y]).length z').set (H ++ [x]).length w)[(H ++ [x]).length]? = some w := fun {x y z z' w} => List.getElem?_set_self (by simp)
      have oldF : ∀ (c : Nat) {x y z z' w : AO}, c < H.length → (((H ++ [x] ++ [y] ++ [z]).set (H ++ [x] ++ [y]).length z').set (H ++ [x]).length w)[c]? = H[c]? := fun c {x y z z' w} hc => by
        rw [List.getElem?_set_ne (by simp; omega), List.getElem?_set_ne (by simp; omega), List.getElem?_append_left (by simp; omega), List.getElem?_append_left (by simp; omega), List.getElem?_append_left hc]
      have lenF : ∀ {x y z z' w : AO}, H.length ≤ (((H ++ [x] ++ [y] ++ [z]).set (H ++ [x] ++ [y]).length z').set (H ++ [x]).length w).length := by simp
      repeat ((conv => whnf); (first | refine datarr_at o3n ?_ | refine datarr_at o3c ?_ | refine datarr_at o3b ?_ | refine datarr_at o4 ?_))
      conv => whnf
      refine ck (allA (by simp)) ?_
      repeat ((conv => whnf); (first | refine datarr_at o3n ?_ | refine datarr_at o3c ?_ | refine datarr_at o3b ?_ | refine datarr_at o4 ?_))
      conv => whnf
      refine ck (allA (by simp)) ?_
      repeat ((conv => whnf); (first | refine datarr_at o3n ?_ | refine datarr_at o3c ?_ | refine datarr_at o3b ?_ | refine datarr_at o4 ?_))
      refine ⟨by rw [he']; rfl, ⟨ks, ds, ?_, hK⟩, fun c hc hne => ?_, ?_, rfl⟩
      · exact (oldF km hkm).trans hm
      · exact oldF c hc
      · exact lenF
end Go.Proofs.YtpndfdfipkadkaaGreatDoor
