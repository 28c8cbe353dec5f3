/- The law DrawersAnswers holds. Conditions: none. -/
import Derived.Test.YtcbijkakoepglaaGreatKAnswers1
set_option linter.all false
namespace Go.Proofs.YtcbijkakoepglaaGreat
open Go Go.Wx
set_option maxRecDepth 100000
def aF.l2(Q:World→Prop)(data_a:Option Addr)(data_n:Nat)(v1:Int):Nat→Int→World→Prop
 | 0,_,_=>False
 | nl2+1,v3,w4=>(
 Ifb (decide (v3<(IntKind.wrap .i64 (v1-1))))
 (Dr w4 fun w5=>
 Ix data_a data_n (IntKind.wrap .i64 (v3+1)) fun p3=>
 LdT TLot.enc w5 (Addr.add p3 ((IntKind.wrap .i64 (v3+1)).toNat*10)) fun x3=>
 Ix data_a data_n v3 fun p4=>
 LdT TLot.enc w5 (Addr.add p4 (v3.toNat*10)) fun x4=>
 Ix data_a data_n v3 fun p5=>
 St w5 (Addr.add p5 (v3.toNat*10)) (TLot.enc x3) fun w6=>
 Ix data_a data_n (IntKind.wrap .i64 (v3+1)) fun p6=>
 St w6 (Addr.add p6 ((IntKind.wrap .i64 (v3+1)).toNat*10)) (TLot.enc x4) fun w7=>
 (aF.l2 Q data_a data_n v1 nl2) (IntKind.wrap .i64 (v3+1)) w7)
 (Q w4))
def aF.l1(Q:World→Prop)(data_a:Option Addr)(data_n:Nat)(a:Int)(cmp:Value):Nat→Int→Int→World→Prop
 | 0,_,_,_=>False
 | nl1+1,v1,v2,w1=>(
 Ifb (decide (v1<v2))
 (Dr w1 fun w2=>
 Ix data_a data_n (IntKind.wrap .i64 (Int.fdiv (IntKind.wrap .u64 (IntKind.wrap .i64 (v1+v2))) (2 ^ 1))) fun p1=>
 LdT TLot.enc w2 (Addr.add p1 ((IntKind.wrap .i64 (Int.fdiv (IntKind.wrap .u64 (IntKind.wrap .i64 (v1+v2))) (2 ^ 1))).toNat*10)) fun x1=>
 Ix data_a data_n a fun p2=>
 LdT TLot.enc w2 (Addr.add p2 (a.toNat*10)) fun x2=>
 Clv Pg cmp #[vg (TLot.enc x1),vg (TLot.enc x2)] w2 (fun v w3=>∃r1,v=vi r1∧Ifb (decide (r1<0))
 ((aF.l1 Q data_a data_n a cmp nl1) (IntKind.wrap .i64 ((IntKind.wrap .i64 (Int.fdiv (IntKind.wrap .u64 (IntKind.wrap .i64 (v1+v2))) (2 ^ 1)))+1)) v2 w3)
 ((aF.l1 Q data_a data_n a cmp nl1) v1 (IntKind.wrap .i64 (Int.fdiv (IntKind.wrap .u64 (IntKind.wrap .i64 (v1+v2))) (2 ^ 1))) w3)))
 (∃k,aF.l2 Q data_a data_n v1 k a w1))
def aF.l4(Q:World→Prop)(data_a:Option Addr)(data_n:Nat)(v4:Int):Nat→Int→World→Prop
 | 0,_,_=>False
 | nl4+1,v6,w11=>(
 Ifb (decide (v6>v4))
 (Dr w11 fun w12=>
 Ix data_a data_n (IntKind.wrap .i64 (v6-1)) fun p9=>
 LdT TLot.enc w12 (Addr.add p9 ((IntKind.wrap .i64 (v6-1)).toNat*10)) fun x7=>
 Ix data_a data_n v6 fun p10=>
 LdT TLot.enc w12 (Addr.add p10 (v6.toNat*10)) fun x8=>
 Ix data_a data_n v6 fun p11=>
 St w12 (Addr.add p11 (v6.toNat*10)) (TLot.enc x7) fun w13=>
 Ix data_a data_n (IntKind.wrap .i64 (v6-1)) fun p12=>
 St w13 (Addr.add p12 ((IntKind.wrap .i64 (v6-1)).toNat*10)) (TLot.enc x8) fun w14=>
 (aF.l4 Q data_a data_n v4 nl4) (IntKind.wrap .i64 (v6-1)) w14)
 (Q w11))
def aF.l3(Q:World→Prop)(data_a:Option Addr)(data_n:Nat)(m:Int)(cmp:Value):Nat→Int→Int→World→Prop
 | 0,_,_,_=>False
 | nl3+1,v4,v5,w8=>(
 Ifb (decide (v4<v5))
 (Dr w8 fun w9=>
 Ix data_a data_n m fun p7=>
 LdT TLot.enc w9 (Addr.add p7 (m.toNat*10)) fun x5=>
 Ix data_a data_n (IntKind.wrap .i64 (Int.fdiv (IntKind.wrap .u64 (IntKind.wrap .i64 (v4+v5))) (2 ^ 1))) fun p8=>
 LdT TLot.enc w9 (Addr.add p8 ((IntKind.wrap .i64 (Int.fdiv (IntKind.wrap .u64 (IntKind.wrap .i64 (v4+v5))) (2 ^ 1))).toNat*10)) fun x6=>
 Clv Pg cmp #[vg (TLot.enc x5),vg (TLot.enc x6)] w9 (fun v w10=>∃r2,v=vi r2∧Ifb (!(decide (r2<0)))
 ((aF.l3 Q data_a data_n m cmp nl3) (IntKind.wrap .i64 ((IntKind.wrap .i64 (Int.fdiv (IntKind.wrap .u64 (IntKind.wrap .i64 (v4+v5))) (2 ^ 1)))+1)) v5 w10)
 ((aF.l3 Q data_a data_n m cmp nl3) v4 (IntKind.wrap .i64 (Int.fdiv (IntKind.wrap .u64 (IntKind.wrap .i64 (v4+v5))) (2 ^ 1))) w10)))
 (∃k,aF.l4 Q data_a data_n v4 k m w8))
def aF.j3(Q:World→Prop)(data_a:Option Addr)(data_n:Nat)(data_c:Nat)(a:Int)(m:Int)(b:Int)(cmp:Value)(v9:Int)(w20:World):Prop:=(
 Ifb ((decide ((IntKind.wrap .i64 (Int.fdiv (IntKind.wrap .u64 (IntKind.wrap .i64 (a+b))) (2 ^ 1)))<(IntKind.wrap .i64 ((IntKind.wrap .i64 ((IntKind.wrap .i64 (Int.fdiv (IntKind.wrap .u64 (IntKind.wrap .i64 (a+b))) (2 ^ 1)))+m))-v9))))&&(decide ((IntKind.wrap .i64 ((IntKind.wrap .i64 ((IntKind.wrap .i64 (Int.fdiv (IntKind.wrap .u64 (IntKind.wrap .i64 (a+b))) (2 ^ 1)))+m))-v9))<b)))
 (Cl Pg 213 #[vl data_a data_n data_c,vi (IntKind.wrap .i64 (Int.fdiv (IntKind.wrap .u64 (IntKind.wrap .i64 (a+b))) (2 ^ 1))),vi (IntKind.wrap .i64 ((IntKind.wrap .i64 ((IntKind.wrap .i64 (Int.fdiv (IntKind.wrap .u64 (IntKind.wrap .i64 (a+b))) (2 ^ 1)))+m))-v9)),vi b,cmp] w20 (fun v w21=>v= .tuple #[]∧Q w21))
 (Q w20))
def aF.j2(Q:World→Prop)(data_a:Option Addr)(data_n:Nat)(data_c:Nat)(a:Int)(m:Int)(b:Int)(cmp:Value)(v9:Int)(w19:World):Prop:=(
 Ifb ((decide (a<v9))&&(decide (v9<(IntKind.wrap .i64 (Int.fdiv (IntKind.wrap .u64 (IntKind.wrap .i64 (a+b))) (2 ^ 1))))))
 (Cl Pg 213 #[vl data_a data_n data_c,vi a,vi v9,vi (IntKind.wrap .i64 (Int.fdiv (IntKind.wrap .u64 (IntKind.wrap .i64 (a+b))) (2 ^ 1))),cmp] w19 (fun v w22=>v= .tuple #[]∧aF.j3 Q data_a data_n data_c a m b cmp v9 w22))
 (aF.j3 Q data_a data_n data_c a m b cmp v9 w19))
def aF.l5(Q:World→Prop)(data_a:Option Addr)(data_n:Nat)(data_c:Nat)(a:Int)(m:Int)(b:Int)(cmp:Value):Nat→Int→Int→World→Prop
 | 0,_,_,_=>False
 | nl5+1,v9,v10,w16=>(
 Ifb (decide (v9<v10))
 (Dr w16 fun w17=>
 Ix data_a data_n (IntKind.wrap .i64 ((IntKind.wrap .i64 ((IntKind.wrap .i64 ((IntKind.wrap .i64 (Int.fdiv (IntKind.wrap .u64 (IntKind.wrap .i64 (a+b))) (2 ^ 1)))+m))-1))-(IntKind.wrap .i64 (Int.fdiv (IntKind.wrap .u64 (IntKind.wrap .i64 (v9+v10))) (2 ^ 1))))) fun p13=>
 LdT TLot.enc w17 (Addr.add p13 ((IntKind.wrap .i64 ((IntKind.wrap .i64 ((IntKind.wrap .i64 ((IntKind.wrap .i64 (Int.fdiv (IntKind.wrap .u64 (IntKind.wrap .i64 (a+b))) (2 ^ 1)))+m))-1))-(IntKind.wrap .i64 (Int.fdiv (IntKind.wrap .u64 (IntKind.wrap .i64 (v9+v10))) (2 ^ 1))))).toNat*10)) fun x9=>
 Ix data_a data_n (IntKind.wrap .i64 (Int.fdiv (IntKind.wrap .u64 (IntKind.wrap .i64 (v9+v10))) (2 ^ 1))) fun p14=>
 LdT TLot.enc w17 (Addr.add p14 ((IntKind.wrap .i64 (Int.fdiv (IntKind.wrap .u64 (IntKind.wrap .i64 (v9+v10))) (2 ^ 1))).toNat*10)) fun x10=>
 Clv Pg cmp #[vg (TLot.enc x9),vg (TLot.enc x10)] w17 (fun v w18=>∃r3,v=vi r3∧Ifb (!(decide (r3<0)))
 ((aF.l5 Q data_a data_n data_c a m b cmp nl5) (IntKind.wrap .i64 ((IntKind.wrap .i64 (Int.fdiv (IntKind.wrap .u64 (IntKind.wrap .i64 (v9+v10))) (2 ^ 1)))+1)) v10 w18)
 ((aF.l5 Q data_a data_n data_c a m b cmp nl5) v9 (IntKind.wrap .i64 (Int.fdiv (IntKind.wrap .u64 (IntKind.wrap .i64 (v9+v10))) (2 ^ 1))) w18)))
 (Ifb ((decide (v9<m))&&(decide (m<(IntKind.wrap .i64 ((IntKind.wrap .i64 ((IntKind.wrap .i64 (Int.fdiv (IntKind.wrap .u64 (IntKind.wrap .i64 (a+b))) (2 ^ 1)))+m))-v9)))))
 (Cl Pg 218 #[vl data_a data_n data_c,vi v9,vi m,vi (IntKind.wrap .i64 ((IntKind.wrap .i64 ((IntKind.wrap .i64 (Int.fdiv (IntKind.wrap .u64 (IntKind.wrap .i64 (a+b))) (2 ^ 1)))+m))-v9)),cmp] w16 (fun v w23=>v= .tuple #[]∧aF.j2 Q data_a data_n data_c a m b cmp v9 w23))
 (aF.j2 Q data_a data_n data_c a m b cmp v9 w16)))
def aF.j1(Q:World→Prop)(data_a:Option Addr)(data_n:Nat)(data_c:Nat)(a:Int)(m:Int)(b:Int)(cmp:Value)(v7:Int)(v8:Int)(w15:World):Prop:=(
 ∃k,aF.l5 Q data_a data_n data_c a m b cmp k v7 v8 w15)
def aF.R(Q:World→Prop)(data_a:Option Addr)(data_n:Nat)(data_c:Nat)(a:Int)(m:Int)(b:Int)(cmp:Value)(w:World):Prop:=(
 Ifb ((IntKind.wrap .i64 (m-a))==1)
 (∃k,aF.l1 Q data_a data_n a cmp k m b w)
 (Ifb ((IntKind.wrap .i64 (b-m))==1)
 (∃k,aF.l3 Q data_a data_n m cmp k a m w)
 (Ifb (decide (m>(IntKind.wrap .i64 (Int.fdiv (IntKind.wrap .u64 (IntKind.wrap .i64 (a+b))) (2 ^ 1)))))
 (aF.j1 Q data_a data_n data_c a m b cmp (IntKind.wrap .i64 ((IntKind.wrap .i64 ((IntKind.wrap .i64 (Int.fdiv (IntKind.wrap .u64 (IntKind.wrap .i64 (a+b))) (2 ^ 1)))+m))-b)) (IntKind.wrap .i64 (Int.fdiv (IntKind.wrap .u64 (IntKind.wrap .i64 (a+b))) (2 ^ 1))) w)
 (aF.j1 Q data_a data_n data_c a m b cmp a m w))))
theorem aF.ok{Q:World→Prop}{data_a:Option Addr}{data_n:Nat}{data_c:Nat}{a:Int}{m:Int}{b:Int}{cmp:Value}{w:World}(h:aF.R Q data_a data_n data_c a m b cmp w):Cl Pg 213 #[vl data_a data_n data_c,vi a,vi m,vi b,cmp] w (fun v w'=>v= .tuple #[]∧Q w'):=by
 refine aI (args:=[vl data_a data_n data_c,vi a,vi m,vi b,cmp]) Tryz.func213 ?_
 unfold aF.R at h
 refine aL<|aC<|zp 4<|aD<|zc h (fun h=>?_) fun h=>?_
 refine aC<|zp 2<|aD<|aC<|zp 2<|aD<|aL<|aR ?_
 obtain⟨nl1,h⟩:=h
 refine bS (fun k e w1=>∃(e0:Env) (v1:Int) (v2:Int),e=upds e0 [(0,vl data_a data_n data_c),(1,vi a),(4,cmp),(10,vi v1),(11,vi v2)]∧aF.l1 Q data_a data_n a cmp k v1 v2 w1) nl1 ?_ ?_ ?_
 rintro _ _ ⟨_,_,_,_,h⟩
 exact h
 exact⟨_,m,b,ag,h⟩
 clear h nl1
 rintro nl1 _ w1 ⟨e0,v1,v2,rfl,h⟩
 unfold aF.l1 at h
 refine aL<|aC<|zp 3<|aD<|zc h (fun h=>?_) fun h=>?_
 refine aJ<|aR<|aC<|zp 7<|aD<|drs iG [[],[],[],[],[],[],[],[],[],[4,8],[4,8]] [.p 0,.p 1,.p 2,.p 3,.l 4,.p 5,.p 6,.p 7,.l 8,.e 9,.p 10] h fun w2 _ h=>zP 3<|zI dX h fun p1 h=>?_
 obtain⟨x1,hx1,h⟩:=h
 refine zN jU hx1<|zP 2<|zI dX h fun p2 h=>?_
 obtain⟨x2,hx2,h⟩:=h
 refine zN jU hx2<|zX h ?_
 rintro _ w3 ⟨r1,rfl,h⟩
 refine⟨AllOk.nil,?_⟩
 refine zP 1<|bF<|zc h (fun h=>?_) fun h=>?_
 exact aW<|zp 3<|aD<|aG<|⟨_,IntKind.wrap .i64 ((IntKind.wrap .i64 (Int.fdiv (IntKind.wrap .u64 (IntKind.wrap .i64 (v1+v2))) (2 ^ 1)))+1),v2,ag,h⟩
 exact aW<|zp 2<|aD<|aG<|⟨_,v1,IntKind.wrap .i64 (Int.fdiv (IntKind.wrap .u64 (IntKind.wrap .i64 (v1+v2))) (2 ^ 1)),ag,h⟩
 refine dE<|aU<|aL<|aC<|zp 2<|aD<|aR ?_
 obtain⟨nl2,h⟩:=h
 refine bS (fun k e w4=>∃(e0:Env) (v3:Int),e=upds e0 [(0,vl data_a data_n data_c),(10,vi v1),(13,vi v3)]∧aF.l2 Q data_a data_n v1 k v3 w4) nl2 ?_ ?_ ?_
 rintro _ _ ⟨_,_,_,h⟩
 exact h
 exact⟨_,a,ag,h⟩
 clear h nl2
 rintro nl2 _ w4 ⟨e0,v3,rfl,h⟩
 unfold aF.l2 at h
 refine aL<|aC<|zp 4<|aD<|zc h (fun h=>?_) fun h=>?_
 refine aJ<|aL<|aR<|drw iG [[],[],[],[],[],[],[],[],[],[],[],[],[],[],[9,13],[9,13],[9,13],[9,13]] [.p 0,.p 1,.p 2,.p 3,.p 4,.p 5,.p 6,.p 7,.p 8,.l 9,.p 10,.p 11,.p 12,.l 13,.p 14,.e 15,.p 16,.e 17] h fun w5 _ h=>zP 8<|zI dX h fun p3 h=>?_
 obtain⟨x3,hx3,h⟩:=h
 refine zN jU hx3<|zP 2<|zI dX h fun p4 h=>?_
 obtain⟨x4,hx4,h⟩:=h
 refine zN jU hx4<|zI dX h fun p5 h=>zU jU h ?_
 rintro w6 h
 refine⟨AllOk.nil,?_⟩
 refine zI dX h fun p6 h=>zU jU h ?_
 rintro w7 h
 refine⟨AllOk.nil,?_⟩
 exact bF<|aG<|aW<|zp 3<|aD<|⟨_,IntKind.wrap .i64 (v3+1),ag,h⟩
 exact dE<|aU<|aN<|aH<|uA rfl ⟨rfl,h⟩
 refine aJ<|aL<|aC<|zp 4<|aD<|zc h (fun h=>?_) fun h=>?_
 refine aC<|zp 2<|aD<|aC<|zp 2<|aD<|aL<|aR ?_
 obtain⟨nl3,h⟩:=h
 refine bS (fun k e w8=>∃(e0:Env) (v4:Int) (v5:Int),e=upds e0 [(0,vl data_a data_n data_c),(2,vi m),(4,cmp),(14,vi v4),(15,vi v5)]∧aF.l3 Q data_a data_n m cmp k v4 v5 w8) nl3 ?_ ?_ ?_
 rintro _ _ ⟨_,_,_,_,h⟩
 exact h
 exact⟨_,a,m,ag,h⟩
 clear h nl3
 rintro nl3 _ w8 ⟨e0,v4,v5,rfl,h⟩
 unfold aF.l3 at h
 refine aL<|aC<|zp 3<|aD<|zc h (fun h=>?_) fun h=>?_
 refine aJ<|aR<|aC<|zp 7<|aD<|drs iG [[],[],[],[],[],[],[],[],[],[4,8],[4,8],[4,8]] [.p 0,.p 1,.p 2,.p 3,.l 4,.p 5,.p 6,.p 7,.l 8,.e 9,.p 10,.p 11] h fun w9 _ h=>zP 3<|zI dX h fun p7 h=>?_
 obtain⟨x5,hx5,h⟩:=h
 refine zN jU hx5<|zP 2<|zI dX h fun p8 h=>?_
 obtain⟨x6,hx6,h⟩:=h
 refine zN jU hx6<|zX h ?_
 rintro _ w10 ⟨r2,rfl,h⟩
 refine⟨AllOk.nil,?_⟩
 refine zP 2<|bF<|zc h (fun h=>?_) fun h=>?_
 exact aW<|zp 3<|aD<|aG<|⟨_,IntKind.wrap .i64 ((IntKind.wrap .i64 (Int.fdiv (IntKind.wrap .u64 (IntKind.wrap .i64 (v4+v5))) (2 ^ 1)))+1),v5,ag,h⟩
 exact aW<|zp 2<|aD<|aG<|⟨_,v4,IntKind.wrap .i64 (Int.fdiv (IntKind.wrap .u64 (IntKind.wrap .i64 (v4+v5))) (2 ^ 1)),ag,h⟩
 refine dE<|aU<|aL<|aC<|zp 2<|aD<|aR ?_
 obtain⟨nl4,h⟩:=h
 refine bS (fun k e w11=>∃(e0:Env) (v6:Int),e=upds e0 [(0,vl data_a data_n data_c),(14,vi v4),(17,vi v6)]∧aF.l4 Q data_a data_n v4 k v6 w11) nl4 ?_ ?_ ?_
 rintro _ _ ⟨_,_,_,h⟩
 exact h
 exact⟨_,m,ag,h⟩
 clear h nl4
 rintro nl4 _ w11 ⟨e0,v6,rfl,h⟩
 unfold aF.l4 at h
 refine aL<|aC<|zp 3<|aD<|zc h (fun h=>?_) fun h=>?_
 refine aJ<|aL<|aR<|drw iG [[],[],[],[],[],[],[],[],[],[],[],[],[],[],[9,13],[9,13],[9,13],[9,13]] [.p 0,.p 1,.p 2,.p 3,.p 4,.p 5,.p 6,.p 7,.p 8,.l 9,.p 10,.p 11,.p 12,.l 13,.p 14,.e 15,.p 16,.e 17] h fun w12 _ h=>zP 8<|zI dX h fun p9 h=>?_
 obtain⟨x7,hx7,h⟩:=h
 refine zN jU hx7<|zP 2<|zI dX h fun p10 h=>?_
 obtain⟨x8,hx8,h⟩:=h
 refine zN jU hx8<|zI dX h fun p11 h=>zU jU h ?_
 rintro w13 h
 refine⟨AllOk.nil,?_⟩
 refine zI dX h fun p12 h=>zU jU h ?_
 rintro w14 h
 refine⟨AllOk.nil,?_⟩
 exact bF<|aG<|aW<|zp 3<|aD<|⟨_,IntKind.wrap .i64 (v6-1),ag,h⟩
 exact dE<|aU<|aN<|aH<|uA rfl ⟨rfl,h⟩
 refine aJ<|aC<|zp 7<|aD<|aC<|zp 4<|aD<|aC<|zp 2<|aD<|fD (fun e w15=>∃(e0:Env) (v7:Int) (v8:Int),e=upds e0 [(0,vl data_a data_n data_c),(1,vi a),(2,vi m),(3,vi b),(4,cmp),(18,vi (IntKind.wrap .i64 (Int.fdiv (IntKind.wrap .u64 (IntKind.wrap .i64 (a+b))) (2 ^ 1)))),(19,vi (IntKind.wrap .i64 ((IntKind.wrap .i64 (Int.fdiv (IntKind.wrap .u64 (IntKind.wrap .i64 (a+b))) (2 ^ 1)))+m))),(20,vi v7),(21,vi v8)]∧aF.j1 Q data_a data_n data_c a m b cmp v7 v8 w15) ?_ ?_
 refine aC<|zp 3<|aD<|zc h (fun h=>?_) fun h=>?_
 exact aC<|zp 4<|aD<|aW<|zp 2<|aD<|⟨_,IntKind.wrap .i64 ((IntKind.wrap .i64 ((IntKind.wrap .i64 (Int.fdiv (IntKind.wrap .u64 (IntKind.wrap .i64 (a+b))) (2 ^ 1)))+m))-b),IntKind.wrap .i64 (Int.fdiv (IntKind.wrap .u64 (IntKind.wrap .i64 (a+b))) (2 ^ 1)),ag,h⟩
 exact aC<|zp 2<|aD<|aW<|zp 2<|aD<|⟨_,a,m,ag,h⟩
 clear h
 rintro _ w15 ⟨e0,v7,v8,rfl,h⟩
 unfold aF.j1 at h
 refine aC<|zp 3<|aD<|aL<|aR ?_
 obtain⟨nl5,h⟩:=h
 refine bS (fun k e w16=>∃(e0:Env) (v9:Int) (v10:Int),e=upds e0 [(0,vl data_a data_n data_c),(1,vi a),(2,vi m),(3,vi b),(4,cmp),(18,vi (IntKind.wrap .i64 (Int.fdiv (IntKind.wrap .u64 (IntKind.wrap .i64 (a+b))) (2 ^ 1)))),(19,vi (IntKind.wrap .i64 ((IntKind.wrap .i64 (Int.fdiv (IntKind.wrap .u64 (IntKind.wrap .i64 (a+b))) (2 ^ 1)))+m))),(20,vi v9),(21,vi v10),(22,vi (IntKind.wrap .i64 ((IntKind.wrap .i64 ((IntKind.wrap .i64 (Int.fdiv (IntKind.wrap .u64 (IntKind.wrap .i64 (a+b))) (2 ^ 1)))+m))-1)))]∧aF.l5 Q data_a data_n data_c a m b cmp k v9 v10 w16) nl5 ?_ ?_ ?_
 rintro _ _ ⟨_,_,_,_,h⟩
 exact h
 exact⟨_,v7,v8,ag,h⟩
 clear h nl5
 rintro nl5 _ w16 ⟨e0,v9,v10,rfl,h⟩
 unfold aF.l5 at h
 refine aL<|aC<|zp 3<|aD<|zc h (fun h=>?_) fun h=>?_
 refine aJ<|aR<|aC<|zp 7<|aD<|drs iG [[],[],[],[],[],[],[],[],[],[],[],[6,10],[6,10],[6,10]] [.p 0,.p 1,.p 2,.p 3,.p 4,.p 5,.l 6,.p 7,.p 8,.p 9,.l 10,.e 11,.p 12,.p 13] h fun w17 _ h=>zP 5<|zI dX h fun p13 h=>?_
 obtain⟨x9,hx9,h⟩:=h
 refine zN jU hx9<|zP 2<|zI dX h fun p14 h=>?_
 obtain⟨x10,hx10,h⟩:=h
 refine zN jU hx10<|zX h ?_
 rintro _ w18 ⟨r3,rfl,h⟩
 refine⟨AllOk.nil,?_⟩
 refine zP 2<|bF<|zc h (fun h=>?_) fun h=>?_
 exact aW<|zp 3<|aD<|aG<|⟨_,IntKind.wrap .i64 ((IntKind.wrap .i64 (Int.fdiv (IntKind.wrap .u64 (IntKind.wrap .i64 (v9+v10))) (2 ^ 1)))+1),v10,ag,h⟩
 exact aW<|zp 2<|aD<|aG<|⟨_,v9,IntKind.wrap .i64 (Int.fdiv (IntKind.wrap .u64 (IntKind.wrap .i64 (v9+v10))) (2 ^ 1)),ag,h⟩
 refine dE<|aU<|aC<|zp 4<|aD<|fD (fun e w19=>∃(e0:Env),e=upds e0 [(0,vl data_a data_n data_c),(1,vi a),(3,vi b),(4,cmp),(18,vi (IntKind.wrap .i64 (Int.fdiv (IntKind.wrap .u64 (IntKind.wrap .i64 (a+b))) (2 ^ 1)))),(20,vi v9),(24,vi (IntKind.wrap .i64 ((IntKind.wrap .i64 ((IntKind.wrap .i64 (Int.fdiv (IntKind.wrap .u64 (IntKind.wrap .i64 (a+b))) (2 ^ 1)))+m))-v9)))]∧aF.j2 Q data_a data_n data_c a m b cmp v9 w19) ?_ ?_
 refine aC<|zp 4<|jV (fun e w_=>∃(e0:Env),e=upds e0 [(0,vl data_a data_n data_c),(1,vi a),(2,vi m),(3,vi b),(4,cmp),(18,vi (IntKind.wrap .i64 (Int.fdiv (IntKind.wrap .u64 (IntKind.wrap .i64 (a+b))) (2 ^ 1)))),(20,vi v9),(24,vi (IntKind.wrap .i64 ((IntKind.wrap .i64 ((IntKind.wrap .i64 (Int.fdiv (IntKind.wrap .u64 (IntKind.wrap .i64 (a+b))) (2 ^ 1)))+m))-v9))),(185,vb ((decide (v9<m))&&(decide (m<(IntKind.wrap .i64 ((IntKind.wrap .i64 ((IntKind.wrap .i64 (Int.fdiv (IntKind.wrap .u64 (IntKind.wrap .i64 (a+b))) (2 ^ 1)))+m))-v9))))))]∧w16=w_) ?_ ?_
 clear h
 refine dO 181 (b:=decide (v9<m)) rfl (fun hb0=>?_) (fun hb0=>?_)
 refine zp 4 ?_
 rw[hb0]
 exact aD ⟨_,ag,rfl⟩
 refine zp 4 ?_
 rw[hb0]
 exact aD ⟨_,ag,rfl⟩
 rintro _ _ ⟨e0,rfl,rfl⟩
 refine zc h (fun h=>?_) fun h=>?_
 refine aW<|zp 5<|zk h ?_
 rintro _ w23 ⟨rfl,h⟩
 exact aD<|⟨_,ag,h⟩
 exact aJ<|⟨_,ag,h⟩
 clear h
 rintro _ w19 ⟨e0,rfl,h⟩
 unfold aF.j2 at h
 refine fD (fun e w20=>∃(e0:Env),e=upds e0 [(0,vl data_a data_n data_c),(3,vi b),(4,cmp),(18,vi (IntKind.wrap .i64 (Int.fdiv (IntKind.wrap .u64 (IntKind.wrap .i64 (a+b))) (2 ^ 1)))),(24,vi (IntKind.wrap .i64 ((IntKind.wrap .i64 ((IntKind.wrap .i64 (Int.fdiv (IntKind.wrap .u64 (IntKind.wrap .i64 (a+b))) (2 ^ 1)))+m))-v9)))]∧aF.j3 Q data_a data_n data_c a m b cmp v9 w20) ?_ ?_
 refine aC<|zp 4<|jV (fun e w_=>∃(e0:Env),e=upds e0 [(0,vl data_a data_n data_c),(1,vi a),(3,vi b),(4,cmp),(18,vi (IntKind.wrap .i64 (Int.fdiv (IntKind.wrap .u64 (IntKind.wrap .i64 (a+b))) (2 ^ 1)))),(20,vi v9),(24,vi (IntKind.wrap .i64 ((IntKind.wrap .i64 ((IntKind.wrap .i64 (Int.fdiv (IntKind.wrap .u64 (IntKind.wrap .i64 (a+b))) (2 ^ 1)))+m))-v9))),(199,vb ((decide (a<v9))&&(decide (v9<(IntKind.wrap .i64 (Int.fdiv (IntKind.wrap .u64 (IntKind.wrap .i64 (a+b))) (2 ^ 1)))))))]∧w19=w_) ?_ ?_
 clear h
 refine dO 195 (b:=decide (a<v9)) rfl (fun hb0=>?_) (fun hb0=>?_)
 refine zp 4 ?_
 rw[hb0]
 exact aD ⟨_,ag,rfl⟩
 refine zp 4 ?_
 rw[hb0]
 exact aD ⟨_,ag,rfl⟩
 rintro _ _ ⟨e0,rfl,rfl⟩
 refine zc h (fun h=>?_) fun h=>?_
 refine aW<|zp 5<|zk h ?_
 rintro _ w22 ⟨rfl,h⟩
 exact aD<|⟨_,ag,h⟩
 exact aJ<|⟨_,ag,h⟩
 clear h
 rintro _ w20 ⟨e0,rfl,h⟩
 unfold aF.j3 at h
 refine aC<|zp 4<|jV (fun e w_=>∃(e0:Env),e=upds e0 [(0,vl data_a data_n data_c),(3,vi b),(4,cmp),(18,vi (IntKind.wrap .i64 (Int.fdiv (IntKind.wrap .u64 (IntKind.wrap .i64 (a+b))) (2 ^ 1)))),(24,vi (IntKind.wrap .i64 ((IntKind.wrap .i64 ((IntKind.wrap .i64 (Int.fdiv (IntKind.wrap .u64 (IntKind.wrap .i64 (a+b))) (2 ^ 1)))+m))-v9))),(213,vb ((decide ((IntKind.wrap .i64 (Int.fdiv (IntKind.wrap .u64 (IntKind.wrap .i64 (a+b))) (2 ^ 1)))<(IntKind.wrap .i64 ((IntKind.wrap .i64 ((IntKind.wrap .i64 (Int.fdiv (IntKind.wrap .u64 (IntKind.wrap .i64 (a+b))) (2 ^ 1)))+m))-v9))))&&(decide ((IntKind.wrap .i64 ((IntKind.wrap .i64 ((IntKind.wrap .i64 (Int.fdiv (IntKind.wrap .u64 (IntKind.wrap .i64 (a+b))) (2 ^ 1)))+m))-v9))<b))))]∧w20=w_) ?_ ?_
 clear h
 refine dO 209 (b:=decide ((IntKind.wrap .i64 (Int.fdiv (IntKind.wrap .u64 (IntKind.wrap .i64 (a+b))) (2 ^ 1)))<(IntKind.wrap .i64 ((IntKind.wrap .i64 ((IntKind.wrap .i64 (Int.fdiv (IntKind.wrap .u64 (IntKind.wrap .i64 (a+b))) (2 ^ 1)))+m))-v9)))) rfl (fun hb0=>?_) (fun hb0=>?_)
 refine zp 4 ?_
 rw[hb0]
 exact aD ⟨_,ag,rfl⟩
 refine zp 4 ?_
 rw[hb0]
 exact aD ⟨_,ag,rfl⟩
 rintro _ _ ⟨e0,rfl,rfl⟩
 refine zc h (fun h=>?_) fun h=>?_
 refine aW<|zp 5<|zk h ?_
 rintro _ w21 ⟨rfl,h⟩
 exact aD<|vG<|uA rfl ⟨rfl,h⟩
 exact aJ<|vG<|uA rfl ⟨rfl,h⟩
def dP.l1(Q:World→Prop)(data_a:Option Addr)(data_n:Nat)(data_c:Nat)(m:Int)(cmp:Value):Nat→Int→Int→World→Prop
 | 0,_,_,_=>False
 | nl1+1,v1,v2,w1=>(
 Ifb (v1 !=v2)
 (Ifb (decide (v1>v2))
 (Cl Pg 220 #[vl data_a data_n data_c,vi (IntKind.wrap .i64 (m-v1)),vi m,vi v2,cmp] w1 (fun v w2=>v= .tuple #[]∧(dP.l1 Q data_a data_n data_c m cmp nl1) (IntKind.wrap .i64 (v1-v2)) v2 w2))
 (Cl Pg 220 #[vl data_a data_n data_c,vi (IntKind.wrap .i64 (m-v1)),vi (IntKind.wrap .i64 ((IntKind.wrap .i64 (m+v2))-v1)),vi v1,cmp] w1 (fun v w3=>v= .tuple #[]∧(dP.l1 Q data_a data_n data_c m cmp nl1) v1 (IntKind.wrap .i64 (v2-v1)) w3)))
 (Cl Pg 220 #[vl data_a data_n data_c,vi (IntKind.wrap .i64 (m-v1)),vi m,vi v1,cmp] w1 (fun v w4=>v= .tuple #[]∧Q w4)))
def dP.R(Q:World→Prop)(data_a:Option Addr)(data_n:Nat)(data_c:Nat)(a:Int)(m:Int)(b:Int)(cmp:Value)(w:World):Prop:=(
 ∃k,dP.l1 Q data_a data_n data_c m cmp k (IntKind.wrap .i64 (m-a)) (IntKind.wrap .i64 (b-m)) w)
theorem dP.ok{Q:World→Prop}{data_a:Option Addr}{data_n:Nat}{data_c:Nat}{a:Int}{m:Int}{b:Int}{cmp:Value}{w:World}(h:dP.R Q data_a data_n data_c a m b cmp w):Cl Pg 218 #[vl data_a data_n data_c,vi a,vi m,vi b,cmp] w (fun v w'=>v= .tuple #[]∧Q w'):=by
 refine aI (args:=[vl data_a data_n data_c,vi a,vi m,vi b,cmp]) Tryz.func218 ?_
 unfold dP.R at h
 refine aC<|zp 4<|aD<|aC<|zp 4<|aD<|aL<|aR ?_
 obtain⟨nl1,h⟩:=h
 refine bS (fun k e w1=>∃(e0:Env) (v1:Int) (v2:Int),e=upds e0 [(0,vl data_a data_n data_c),(2,vi m),(4,cmp),(10,vi v1),(11,vi v2)]∧dP.l1 Q data_a data_n data_c m cmp k v1 v2 w1) nl1 ?_ ?_ ?_
 rintro _ _ ⟨_,_,_,_,h⟩
 exact h
 exact⟨_,IntKind.wrap .i64 (m-a),IntKind.wrap .i64 (b-m),ag,h⟩
 clear h nl1
 rintro nl1 _ w1 ⟨e0,v1,v2,rfl,h⟩
 unfold dP.l1 at h
 refine aL<|aC<|zp 3<|aD<|zc h (fun h=>?_) fun h=>?_
 refine aJ<|aR<|aC<|zp 3<|aD<|zc h (fun h=>?_) fun h=>?_
 refine aC<|zp 7<|zk h ?_
 rintro _ w2 ⟨rfl,h⟩
 exact aD<|aW<|zp 4<|aD<|aG<|⟨_,IntKind.wrap .i64 (v1-v2),v2,ag,h⟩
 refine aC<|zp 11<|zk h ?_
 rintro _ w3 ⟨rfl,h⟩
 exact aD<|aW<|zp 4<|aD<|aG<|⟨_,v1,IntKind.wrap .i64 (v2-v1),ag,h⟩
 refine dE<|aU<|aW<|zp 7<|zk h ?_
 rintro _ w4 ⟨rfl,h⟩
 exact aD<|vG<|uA rfl ⟨rfl,h⟩
def dL.l1(Q:World→Prop)(data_a:Option Addr)(data_n:Nat)(a:Int)(b:Int)(n:Int):Nat→Int→World→Prop
 | 0,_,_=>False
 | nl1+1,v1,w1=>(
 Ifb (decide (v1<n))
 (Dr w1 fun w2=>
 Ix data_a data_n (IntKind.wrap .i64 (b+v1)) fun p1=>
 LdT TLot.enc w2 (Addr.add p1 ((IntKind.wrap .i64 (b+v1)).toNat*10)) fun x1=>
 Ix data_a data_n (IntKind.wrap .i64 (a+v1)) fun p2=>
 LdT TLot.enc w2 (Addr.add p2 ((IntKind.wrap .i64 (a+v1)).toNat*10)) fun x2=>
 Ix data_a data_n (IntKind.wrap .i64 (a+v1)) fun p3=>
 St w2 (Addr.add p3 ((IntKind.wrap .i64 (a+v1)).toNat*10)) (TLot.enc x1) fun w3=>
 Ix data_a data_n (IntKind.wrap .i64 (b+v1)) fun p4=>
 St w3 (Addr.add p4 ((IntKind.wrap .i64 (b+v1)).toNat*10)) (TLot.enc x2) fun w4=>
 (dL.l1 Q data_a data_n a b n nl1) (IntKind.wrap .i64 (v1+1)) w4)
 (Q w1))
def dL.R(Q:World→Prop)(data_a:Option Addr)(data_n:Nat)(data_c:Nat)(a:Int)(b:Int)(n:Int)(cmp:Value)(w:World):Prop:=(
 ∃k,dL.l1 Q data_a data_n a b n k 0 w)
theorem dL.ok{Q:World→Prop}{data_a:Option Addr}{data_n:Nat}{data_c:Nat}{a:Int}{b:Int}{n:Int}{cmp:Value}{w:World}(h:dL.R Q data_a data_n data_c a b n cmp w):Cl Pg 220 #[vl data_a data_n data_c,vi a,vi b,vi n,cmp] w (fun v w'=>v= .tuple #[]∧Q w'):=by
 refine aI (args:=[vl data_a data_n data_c,vi a,vi b,vi n,cmp]) Tryz.func220 ?_
 unfold dL.R at h
 refine aC<|zp 1<|aD<|aR ?_
 obtain⟨nl1,h⟩:=h
 refine bS (fun k e w1=>∃(e0:Env) (v1:Int),e=upds e0 [(0,vl data_a data_n data_c),(1,vi a),(2,vi b),(3,vi n),(10,vi v1)]∧dL.l1 Q data_a data_n a b n k v1 w1) nl1 ?_ ?_ ?_
 rintro _ _ ⟨_,_,_,h⟩
 exact h
 exact⟨_,0,ag,h⟩
 clear h nl1
 rintro nl1 _ w1 ⟨e0,v1,rfl,h⟩
 unfold dL.l1 at h
 refine aL<|aC<|zp 3<|aD<|zc h (fun h=>?_) fun h=>?_
 refine aJ<|aL<|aR<|drw iG [[],[],[],[],[],[],[],[],[],[],[],[],[],[],[],[],[],[],[],[],[13,19],[13,19],[13,19],[13,19]] [.p 0,.p 1,.p 2,.p 3,.p 4,.p 5,.p 6,.p 7,.p 8,.p 9,.p 10,.p 11,.p 12,.l 13,.p 14,.p 15,.p 16,.p 17,.p 18,.l 19,.p 20,.e 21,.p 22,.e 23] h fun w2 _ h=>zP 12<|zI dX h fun p1 h=>?_
 obtain⟨x1,hx1,h⟩:=h
 refine zN jU hx1<|zP 4<|zI dX h fun p2 h=>?_
 obtain⟨x2,hx2,h⟩:=h
 refine zN jU hx2<|zI dX h fun p3 h=>zU jU h ?_
 rintro w3 h
 refine⟨AllOk.nil,?_⟩
 refine zI dX h fun p4 h=>zU jU h ?_
 rintro w4 h
 refine⟨AllOk.nil,?_⟩
 exact bF<|aG<|aW<|zp 3<|aD<|⟨_,IntKind.wrap .i64 (v1+1),ag,h⟩
 exact dE<|aU<|vG<|uA rfl ⟨rfl,h⟩
end Go.Proofs.YtcbijkakoepglaaGreat
namespace Go.Proofs.YtcbijkakoepglaaGreat
open Go Go.Wx Go.Sort
structure Rw(S:Nat→Prop)(w0:World)(a:Option Addr)(n c:Nat)(w:World)(xs:List TLot):Prop where
 own:Own 45 10 TLot.enc w a n c xs
 frm:Frm S w0 w
theorem half{i j:Nat}(h:i+j≤4000000000):IntKind.wrap .i64 (Int.fdiv (IntKind.wrap .u64 (IntKind.wrap .i64 ((i:Int)+(j:Int)))) (2 ^ 1))=(((i+j) / 2:Nat):Int):=by
 have e1:IntKind.wrap .i64 ((i:Int)+(j:Int))=((i+j:Nat):Int):=by rw[bQ (by omega) (by omega)];omega
 have e2:IntKind.wrap .u64 ((i+j:Nat):Int)=((i+j:Nat):Int):=by rw[IntKind.wrap_u64];omega
 rw[e1,e2,Int.fdiv_eq_ediv_of_nonneg _ (by omega),bQ (by omega) (by omega)];omega
section
variable {S : Nat → Prop} {w0 : World} {f : Value} {a : Option Addr} {n c : Nat} {Q : World → Prop}
theorem Rw.ext{w w':World}{xs:List TLot}(h:Rw S w0 a n c w xs)(E:Ext w w'):Rw S w0 a n c w' xs:=⟨h.own.ext E,h.frm.ext E⟩
theorem Rw.rd{w:World}{xs:List TLot}(h:Rw S w0 a n c w xs):Rd TLot.enc 10 w a n xs:=h.own.rd iQ
theorem Rw.len{w:World}{xs:List TLot}(h:Rw S w0 a n c w xs):n=xs.length:=h.own.1
theorem Rw.ld{w:World}{xs:List TLot}(h:Rw S w0 a n c w xs){I:Int}{i:Nat}(hi:I=i){x:TLot}(hx:xs[i]? =some x){K:Addr→TLot→Prop}(hk:∀p,K p x):
 Ix a n I fun p=>LdT TLot.enc w (Addr.add p (I.toNat*10)) (K p):=by
 subst hi;have hl:=(List.getElem?_eq_some_iff.1 hx).1;refine h.rd.ix (by omega) (by have:=h.len;omega) fun a0 y ha hy hc=>⟨y,hc,?_⟩;rw[Int.toNat_natCast,hx]at hy;cases hy;exact hk _
theorem aDu(hS:∀k,obk a c=some k→S k){w:World}{xs:List TLot}{I J:Int}{i j:Nat}(hi:I=i)(hj:J=j){x y:TLot}(hx:xs[i]? =some x)(hy:xs[j]? =some y)(ho:Rw S w0 a n c w xs){K:World→Prop}
 (hk:∀w',Rw S w0 a n c w' ((xs.set j x).set i y)→K w'):
 Dr w fun w2=>Ix a n I fun p1=>LdT TLot.enc w2 (Addr.add p1 (I.toNat*10)) fun x1=>Ix a n J fun p2=>LdT TLot.enc w2 (Addr.add p2 (J.toNat*10)) fun x2=>
  Ix a n J fun p3=>St w2 (Addr.add p3 (J.toNat*10)) (TLot.enc x1) fun w3=>Ix a n I fun p4=>St w3 (Addr.add p4 (I.toNat*10)) (TLot.enc x2) fun w4=>K w4:=by
 subst hi;subst hj;have hl:=(List.getElem?_eq_some_iff.1 hx).1;have hl':=(List.getElem?_eq_some_iff.1 hy).1;have hn:=ho.len;refine dr fun w2 E=>?_;have h2:=ho.ext E;refine h2.ld rfl hx fun p1=>h2.ld rfl hy fun p2=>?_;simp only[Int.toNat_natCast];refine h2.rd.ix (by omega) (by omega) fun p3 y' hp3 hy' _=>?_;refine aA4 iQ h2.own x hy hp3 fun w3 o3 F3=>?_;refine(o3.rd iQ).ix (by omega) (by omega) fun p4 z hp4 hz _=>?_;rw[Int.toNat_natCast]at hz
 refine aA4 iQ o3 y hz hp4 fun w4 o4 F4=>hk _ ⟨o4,(h2.frm.trans F3 fun k _ hk=>hS k hk).trans F4 fun k _ hk=>hS k hk⟩
theorem vJ(hS:∀k,obk a c=some k→S k)(hn:n≤1000000000){pa pb pm:Int}{P A B C T:List TLot}(e1:pa=(P.length:Nat))(e2:pb=(P.length+A.length+B.length:Nat))(e3:pm=(A.length:Nat))(e4:C.length=A.length){w:World}
 (ho:Rw S w0 a n c w (P++A++B++C++T)) (hQ:∀w',Rw S w0 a n c w' (P++C++B++A++T)→Q w'):Cl Pg 220 #[vl a n c,vi pa,vi pb,vi pm,f] w (fun v w'=>v= .tuple #[]∧Q w'):=by
 subst e1;subst e2;subst e3;refine dL.ok ⟨A.length+1,?_⟩;have hlen:=ho.len;simp only[List.length_append]at hlen;have key:∀(A2 C2 A1 C1:List TLot) (w:World),A1++A2=A→C1++C2=C→A1.length=C1.length→A2.length=C2.length→Rw S w0 a n c w (P++(C1++A2)++B++(A1++C2)++T)→
  dL.l1 Q a n (P.length:Nat) (P.length+A.length+B.length:Nat) (A.length:Nat) (A2.length+1) (A1.length:Nat) w:=by
  intro A2;induction A2 with
  | nil=>
   intro C2 A1 C1 w hA hC h1 h2 hoi;obtain rfl:C2=[]:=List.eq_nil_of_length_eq_zero h2.symm;simp only[List.append_nil]at hA hC hoi;subst hA;subst hC;unfold dL.l1;exact dK (by omega) (hQ _ hoi)
  | cons x A2 ih=>
   intro C2 A1 C1 w hA hC h1 h2 ho;cases C2 with
   | nil=>simp at h2
   | cons y C2=>
    have hAl:A1.length+1+A2.length=A.length:=by rw[←hA];simp;omega
    unfold dL.l1;refine dQ (by omega) ?_;have hI:IntKind.wrap .i64 (((P.length+A.length+B.length:Nat):Int)+((A1.length:Nat):Int))=((P.length+A.length+B.length+A1.length:Nat):Int):=by rw[bQ (by omega) (by omega)];omega
    have hJ:IntKind.wrap .i64 (((P.length:Nat):Int)+((A1.length:Nat):Int))=((P.length+A1.length:Nat):Int):=by rw[bQ (by omega) (by omega)];omega
    have e:P++(C1++x::A2)++B++(A1++y::C2)++T=(P++C1)++x::((A2++B++A1)++y::(C2++T)):=by simp
    rw[e]at ho;refine aDu hS hI hJ (aER (by simp;omega)) (nQ (by simp;omega)) ho fun w' ho'=>?_;rw[sw_lo (by simp;omega) (by simp;omega)]at ho';have e':(P++C1)++y::((A2++B++A1)++x::(C2++T))=P++((C1++[y])++A2)++B++((A1++[x])++C2)++T:=by simp
    rw[e']at ho';have hw:IntKind.wrap .i64 (((A1.length:Nat):Int)+1)=(((A1++[x]).length:Nat):Int):=by rw[bQ (by omega) (by omega)];simp
    rw[hw];exact ih C2 (A1++[x]) (C1++[y]) w' (by simpa using hA) (by simpa using hC) (by simp[h1]) (by simpa using h2) ho'
 exact key A C [] [] w rfl rfl rfl e4.symm (by simpa using ho)
theorem aFu(hS:∀k,obk a c=some k→S k)(hn:n≤1000000000){pa pm pb:Int}{P X Y T:List TLot}(e1:pa=(P.length:Nat))(e2:pm=(P.length+X.length:Nat))(e3:pb=(P.length+X.length+Y.length:Nat))(hX:X≠[])(hY:Y≠[]){w:World}
 (ho:Rw S w0 a n c w (P++X++Y++T)) (hQ:∀w',Rw S w0 a n c w' (P++Y++X++T)→Q w'):Cl Pg 218 #[vl a n c,vi pa,vi pm,vi pb,f] w (fun v w'=>v= .tuple #[]∧Q w'):=by
 refine dP.ok ?_;unfold dP.R;have hlen:=ho.len;simp only[List.length_append]at hlen;have i1:IntKind.wrap .i64 (pm-pa)=(X.length:Nat):=by rw[bQ (by omega) (by omega)];omega
 have i2:IntKind.wrap .i64 (pb-pm)=(Y.length:Nat):=by rw[bQ (by omega) (by omega)];omega
 rw[i1,i2];clear e1 e3 i1 i2;have key:∀(s:Nat) (P X Y T:List TLot) (w:World),X.length+Y.length≤s→X≠[]→Y≠[]→pm=(P.length+X.length:Nat)→Rw S w0 a n c w (P++X++Y++T)→(∀w',Rw S w0 a n c w' (P++Y++X++T)→Q w')→
  dP.l1 Q a n c pm f (s+1) (X.length:Nat) (Y.length:Nat) w:=by
  intro s;induction s with
  | zero=>
   intro P X Y T w hs hX _ _ _ _;exact absurd (List.eq_nil_of_length_eq_zero (by omega)) hX
  | succ s ih=>
   intro P X Y T w hs hX hY hm ho hQ;have hX0:0<X.length:=List.length_pos_iff.2 hX;have hY0:0<Y.length:=List.length_pos_iff.2 hY;have hlen:=ho.len;simp only[List.length_append]at hlen;have j1:IntKind.wrap .i64 (pm-((X.length:Nat):Int))=(P.length:Nat):=by rw[bQ (by omega) (by omega)];omega
   unfold dP.l1;rw[j1];refine ifb ?_;split
   ·rename_i hne;have hne:X.length≠Y.length:=by simp at hne;omega
    refine ifb ?_;split
    ·rename_i hgt;have hgt:Y.length<X.length:=by have:=of_decide_eq_true hgt;omega
     obtain⟨X1,X2,rfl,hl⟩:∃X1 X2,X=X1++X2∧X1.length=Y.length:=⟨X.take Y.length,X.drop Y.length,by simp,by simp;omega⟩;simp only[List.length_append]at*;have e:P++(X1++X2)++Y++T=P++X1++X2++Y++T:=by simp
     rw[e]at ho;refine vJ hS hn (P:=P) (A:=X1) (B:=X2) (C:=Y) (T:=T) rfl (by omega) (by omega) (by omega) ho fun w2 ho2=>?_;have j2:IntKind.wrap .i64 (((X1.length+X2.length:Nat):Int)-((Y.length:Nat):Int))=(X2.length:Nat):=by rw[bQ (by omega) (by omega)];omega
     rw[j2];have e':P++Y++X2++X1++T=(P++Y)++X2++X1++T:=by simp
     rw[e']at ho2;have hX2:X2≠[]:=List.length_pos_iff.1 (by omega);have hX1:X1≠[]:=List.length_pos_iff.1 (by omega);rw[←hl];refine ih (P++Y) X2 X1 T w2 (by omega) hX2 hX1 (by simp;omega) ho2 fun w' ho'=>hQ _ ?_;simpa using ho'
    ·rename_i hgt;have hgt:X.length<Y.length:=by simp at hgt;omega
     obtain⟨Y1,Y2,rfl,hl⟩:∃Y1 Y2,Y=Y1++Y2∧Y2.length=X.length:=⟨Y.take (Y.length-X.length),Y.drop (Y.length-X.length),by simp,by simp;omega⟩;simp only[List.length_append]at*;have e:P++X++(Y1++Y2)++T=P++X++Y1++Y2++T:=by simp
     rw[e]at ho;have j3:IntKind.wrap .i64 (IntKind.wrap .i64 (pm+((Y1.length+Y2.length:Nat):Int))-((X.length:Nat):Int))=(P.length+X.length+Y1.length:Nat):=by
      rw[bQ (x:=pm+_) (by omega) (by omega),bQ (by omega) (by omega)];omega
     rw[j3];refine vJ hS hn (P:=P) (A:=X) (B:=Y1) (C:=Y2) (T:=T) rfl rfl rfl hl ho fun w2 ho2=>?_;have j2:IntKind.wrap .i64 (((Y1.length+Y2.length:Nat):Int)-((X.length:Nat):Int))=(Y1.length:Nat):=by rw[bQ (by omega) (by omega)];omega
     rw[j2];have e':P++Y2++Y1++X++T=P++Y2++Y1++(X++T):=by simp
     rw[e']at ho2;have hY2:Y2≠[]:=List.length_pos_iff.1 (by omega);have hY1:Y1≠[]:=List.length_pos_iff.1 (by omega);rw[←hl];refine ih P Y2 Y1 (X++T) w2 (by omega) hY2 hY1 (by omega) ho2 fun w' ho'=>hQ _ ?_;simpa using ho'
   ·rename_i hne;have hne:X.length=Y.length:=by simp at hne;omega
    have e:P++X++Y++T=P++X++[]++Y++T:=by simp
    rw[e]at ho;refine vJ hS hn (P:=P) (A:=X) (B:=[]) (C:=Y) (T:=T) rfl (by simpa using hm) rfl hne.symm ho fun w2 ho2=>hQ _ ?_;simpa using ho2
 exact⟨_,key (X.length+Y.length) P X Y T w (Nat.le_refl _) hX hY e2 ho hQ⟩
theorem aEP(hf:aA2 f TLot.enc uH S w0)(hS:∀k,obk a c=some k→S k)(hn:n≤1000000000){P B T:List TLot}{x:TLot}{w:World}(hB:Asc fR B)(hk:Tot fR (x::B))(ho:Rw S w0 a n c w (P++x::(B++T)))
 (hQ:∀w',Rw S w0 a n c w' (P++isort fR (x::B)++T)→Q w'):∃k,aF.l1 Q a n (P.length:Nat) f k (P.length+1:Nat) (P.length+1+B.length:Nat) w:=by
 have hlen:=ho.len;simp only[List.length_append,List.length_cons]at hlen;refine⟨B.length+1,?_⟩;have key:∀(s i j:Nat) (w:World),j-i≤s→i≤j→j≤B.length→(∀y,i≠0→B[i-1]? =some y→fR y x=true)→(∀y,B[j]? =some y→fR y x=false)→Rw S w0 a n c w (P++x::(B++T))→
  aF.l1 Q a n (P.length:Nat) f (s+1) (P.length+1+i:Nat) (P.length+1+j:Nat) w:=by
  intro s;induction s with
  | zero=>
   intro i j w hs hij hjB h1 h2 ho;obtain rfl:i=j:=by omega
   unfold aF.l1;refine dK (by omega) ⟨i+1,?_⟩;obtain⟨B1,B2,rfl,hl⟩:∃B1 B2,B=B1++B2∧B1.length=i:=⟨B.take i,B.drop i,by simp,by simp;omega⟩;have hfin:B1++x::B2=isort fR (x::(B1++B2)):=by
    refine aEj swoLot hB (fun y hy=>?_) (fun y hy=>?_) hk
    ·obtain⟨B',rfl⟩:=List.getLast?_eq_some_iff.1 hy;simp at hl;exact swoLot.asymmA (h1 y (by omega) (by rw[List.append_assoc];exact nQ (by omega)))
    ·obtain⟨B',rfl⟩:=List.head?_eq_some_iff.1 hy;exact h2 y (nQ hl.symm)
   rw[←hfin]at hQ;have key2:∀(B1b B1a:List TLot) (w:World),B1a++B1b=B1→Rw S w0 a n c w (P++B1a++x::(B1b++B2++T))→aF.l2 Q a n (P.length+1+i:Nat) (B1b.length+1) (P.length+B1a.length:Nat) w:=by
    intro B1b;induction B1b with
    | nil=>
     intro B1a w hB1 hoi;simp only[List.append_nil]at hB1;subst hB1;unfold aF.l2;refine dK ?_ (hQ _ (by simpa using hoi));rw[bQ (by omega) (by omega)];omega
    | cons y B1b ih=>
     intro B1a w hB1 ho;have hl1:B1a.length+1+B1b.length=i:=by rw[←hl,←hB1];simp;omega
     unfold aF.l2;refine dQ (by rw[bQ (by omega) (by omega)];omega) ?_;have hw:IntKind.wrap .i64 (((P.length+B1a.length:Nat):Int)+1)=((P.length+B1a.length+1:Nat):Int):=by rw[bQ (by omega) (by omega)];omega
     have e:P++B1a++x::((y::B1b)++B2++T)=(P++B1a)++x::([]++y::(B1b++B2++T)):=by simp
     rw[e]at ho;refine aDu hS hw rfl (aER (by simp)) (nQ (by simp)) ho fun w' ho'=>?_;rw[sw_lo (by simp) (by simp)]at ho';have e':(P++B1a)++y::([]++x::(B1b++B2++T))=P++(B1a++[y])++x::(B1b++B2++T):=by simp
     rw[e']at ho';rw[hw];have:=ih (B1a++[y]) w' (by simpa using hB1) ho';rw[List.length_append,List.length_singleton,←Nat.add_assoc]at this;exact this
   have:=key2 B1 [] w rfl (by simpa using ho);simpa[hl]using this
  | succ s ih=>
   intro i j w hs hij hjB h1 h2 ho;by_cases hlt:i<j
   ·unfold aF.l1;refine dQ (by omega) (dr fun w2 E=>?_);have ho2:=ho.ext E;rw[half (by omega)];have hm:(P.length+1+i+(P.length+1+j)) / 2=P.length+1+(i+j) / 2:=by omega
    rw[hm];generalize hc:(i+j) / 2=m;have hmj:m<j:=by omega
    have him:i≤m:=by omega
    obtain⟨y,hy⟩:∃y,B[m]? =some y:=⟨_,List.getElem?_eq_getElem (by omega)⟩;have hy':(P++x::(B++T))[P.length+1+m]? =some y:=by
     rw[List.getElem?_append_right (by omega),show P.length+1+m-P.length=m+1 by omega,List.getElem?_cons_succ,List.getElem?_append_left (by omega)];exact hy
    refine ho2.ld rfl hy' fun p1=>ho2.ld rfl (nQ rfl) fun p2=>?_;refine hf y x w2 ho2.frm _ fun w3 E3=>?_;have ho3:=ho2.ext E3;have hlt':decide (uH y x<0)=fR y x:=rfl;rw[hlt'];refine ifb ?_;have hw:IntKind.wrap .i64 (((P.length+1+m:Nat):Int)+1)=((P.length+1+(m+1):Nat):Int):=by rw[bQ (by omega) (by omega)];omega
    rw[hw];split
    ·rename_i hb;exact ih (m+1) j w3 (by omega) (by omega) hjB (fun z _ hz=>by rw[Nat.add_sub_cancel,hy]at hz;cases hz;exact hb) h2 ho3
    ·rename_i hb;exact ih i m w3 (by omega) him (by omega) h1 (fun z hz=>by rw[hy]at hz;cases hz;simpa using hb) ho3
   ·have:=ih i j w (by omega) hij hjB h1 h2 ho;obtain rfl:i=j:=by omega
    unfold aF.l1 at this ⊢;exact dK (by omega) (this.2 (by simp))
 have:=key B.length 0 B.length w (by omega) (by omega) (Nat.le_refl _) (fun y h=>absurd rfl h) (fun y hy=>by rw[List.getElem?_eq_none (Nat.le_refl _)]at hy;cases hy) ho;simpa using this
theorem aDQ(hf:aA2 f TLot.enc uH S w0)(hS:∀k,obk a c=some k→S k)(hn:n≤1000000000){P A T:List TLot}{x:TLot}{w:World}(hA:Asc fR A)(hk:Tot fR (x::A))(ho:Rw S w0 a n c w (P++A++x::T))
 (hQ:∀w',Rw S w0 a n c w' (P++isort fR (x::A)++T)→Q w'):∃k,aF.l3 Q a n (P.length+A.length:Nat) f k (P.length:Nat) (P.length+A.length:Nat) w:=by
 have hlen:=ho.len;simp only[List.length_append,List.length_cons]at hlen;refine⟨A.length+1,?_⟩;have key:∀(s i j:Nat) (w:World),j-i≤s→i≤j→j≤A.length→(∀y,i≠0→A[i-1]? =some y→fR x y=false)→(∀y,A[j]? =some y→fR x y=true)→Rw S w0 a n c w (P++A++x::T)→
  aF.l3 Q a n (P.length+A.length:Nat) f (s+1) (P.length+i:Nat) (P.length+j:Nat) w:=by
  intro s;induction s with
  | zero=>
   intro i j w hs hij hjB h1 h2 ho;obtain rfl:i=j:=by omega
   unfold aF.l3;obtain⟨A1,A2,rfl,hl⟩:∃A1 A2,A=A1++A2∧A1.length=i:=⟨A.take i,A.drop i,by simp,by simp;omega⟩;refine dK (by omega) ⟨A2.length+1,?_⟩;have hfin:A1++x::A2=isort fR (x::(A1++A2)):=by
    refine aEj swoLot hA (fun y hy=>?_) (fun y hy=>?_) hk
    ·obtain⟨B',rfl⟩:=List.getLast?_eq_some_iff.1 hy;simp at hl;exact h1 y (by omega) (by rw[List.append_assoc];exact nQ (by omega))
    ·obtain⟨B',rfl⟩:=List.head?_eq_some_iff.1 hy;exact swoLot.asymmA (h2 y (nQ hl.symm))
   rw[←hfin]at hQ;have key2:∀(r:Nat) (A2a A2b:List TLot) (w:World),A2a.length=r→A2a++A2b=A2→Rw S w0 a n c w (P++A1++A2a++x::(A2b++T))→aF.l4 Q a n (P.length+i:Nat) (r+1) (P.length+i+r:Nat) w:=by
    intro r;induction r with
    | zero=>
     intro A2a A2b w hr hA2 hoi;obtain rfl:=List.eq_nil_of_length_eq_zero hr;simp only[List.nil_append]at hA2;subst hA2;unfold aF.l4;exact dK (by omega) (hQ _ (by simpa using hoi))
    | succ r ih=>
     intro A2a A2b w hr hA2 ho;obtain⟨A2',y,rfl⟩:∃A2' y,A2a=A2'++[y]:=by
      rcases List.eq_nil_or_concat A2a with h | ⟨l,y,h⟩
      ·subst h;simp at hr
      ·exact⟨l,y,by simpa using h⟩
     have hr':A2'.length=r:=by simpa using hr
     have hll:A2'.length+1+A2b.length=A2.length:=by rw[←hA2];simp;omega
     simp only[List.length_append]at hlen;unfold aF.l4;refine dQ (by omega) ?_;have hw:IntKind.wrap .i64 (((P.length+i+(r+1):Nat):Int)-1)=((P.length+i+r:Nat):Int):=by rw[bQ (by omega) (by omega)];omega
     have e:P++A1++(A2'++[y])++x::(A2b++T)=(P++A1++A2')++y::([]++x::(A2b++T)):=by simp
     rw[e]at ho;refine aDu hS hw rfl (nQ (by simp;omega)) (aER (by simp;omega)) ho fun w' ho'=>?_;rw[sw_hi (by simp;omega) (by simp;omega)]at ho';have e':(P++A1++A2')++x::([]++y::(A2b++T))=P++A1++A2'++x::((y::A2b)++T):=by simp
     rw[e']at ho';rw[hw];exact ih A2' (y::A2b) w' hr' (by simpa using hA2) ho'
   have:=key2 A2.length A2 [] w rfl (by simp) (by simpa using ho);rw[List.length_append,←Nat.add_assoc,hl];exact this
  | succ s ih=>
   intro i j w hs hij hjB h1 h2 ho;by_cases hlt:i<j
   ·unfold aF.l3;refine dQ (by omega) (dr fun w2 E=>?_);have ho2:=ho.ext E;rw[half (by omega)];have hm:(P.length+i+(P.length+j)) / 2=P.length+(i+j) / 2:=by omega
    rw[hm];generalize hc:(i+j) / 2=m;have hmj:m<j:=by omega
    have him:i≤m:=by omega
    obtain⟨y,hy⟩:∃y,A[m]? =some y:=⟨_,List.getElem?_eq_getElem (by omega)⟩;have hy':(P++A++x::T)[P.length+m]? =some y:=by
     rw[List.append_assoc,List.getElem?_append_right (by omega),show P.length+m-P.length=m by omega,List.getElem?_append_left (by omega)];exact hy
    refine ho2.ld rfl (nQ (by simp)) fun p1=>ho2.ld rfl hy' fun p2=>?_;refine hf x y w2 ho2.frm _ fun w3 E3=>?_;have ho3:=ho2.ext E3;have hlt':decide (uH x y<0)=fR x y:=rfl;rw[hlt'];refine ifb ?_;have hw:IntKind.wrap .i64 (((P.length+m:Nat):Int)+1)=((P.length+(m+1):Nat):Int):=by rw[bQ (by omega) (by omega)];omega
    rw[hw];split
    ·rename_i hb;exact ih (m+1) j w3 (by omega) (by omega) hjB (fun z _ hz=>by rw[Nat.add_sub_cancel,hy]at hz;cases hz;simpa using hb) h2 ho3
    ·rename_i hb;exact ih i m w3 (by omega) him (by omega) h1 (fun z hz=>by rw[hy]at hz;cases hz;simpa using hb) ho3
   ·have:=ih i j w (by omega) hij hjB h1 h2 ho;obtain rfl:i=j:=by omega
    unfold aF.l3 at this ⊢;exact dK (by omega) (this.2 (by simp))
 have:=key A.length 0 A.length w (by omega) (by omega) (Nat.le_refl _) (fun y h=>absurd rfl h) (fun y hy=>by rw[List.getElem?_eq_none (Nat.le_refl _)]at hy;cases hy) ho;simpa using this
end
end Go.Proofs.YtcbijkakoepglaaGreat
namespace Go.Proofs.YtcbijkakoepglaaGreat
open Go Go.Wx Go.Sort
section
variable {S : Nat → Prop} {w0 : World} {f : Value} {a : Option Addr} {n c : Nat}
theorem aAv{α:Type}(l:List α)(i:Nat)(h:i≤l.length):∃l1 l2,l=l1++l2∧l1.length=i:=⟨l.take i,l.drop i,by simp,by simp;omega⟩
theorem aAn(hf:aA2 f TLot.enc uH S w0)(hS:∀k,obk a c=some k→S k)(hn:n≤1000000000):∀(s:Nat) {P A B T:List TLot} {pa pm pb:Int} {w:World} {Q:World→Prop},A.length+B.length≤s→A≠[]→B≠[]→Asc fR A→Asc fR B→Tot fR (A++B)→
 pa=(P.length:Nat)→pm=(P.length+A.length:Nat)→pb=(P.length+A.length+B.length:Nat)→Rw S w0 a n c w (P++A++B++T)→(∀w',Rw S w0 a n c w' (P++isort fR (A++B)++T)→Q w')→
 Cl Pg 213 #[vl a n c,vi pa,vi pm,vi pb,f] w (fun v w'=>v= .tuple #[]∧Q w'):=by
 intro s;induction s with
 | zero=>intro P A B T pa pm pb w Q hs hA;exact absurd (List.eq_nil_of_length_eq_zero (by omega)) hA
 | succ s ih=>
  intro P A B T pa pm pb w Q hs hA hB aA aB hk e1 e2 e3 ho hQ;have hA0:0<A.length:=List.length_pos_iff.2 hA;have hB0:0<B.length:=List.length_pos_iff.2 hB;have hlen:=ho.len;simp only[List.length_append]at hlen;refine aF.ok ?_;unfold aF.R;have i1:IntKind.wrap .i64 (pm-pa)=(A.length:Nat):=by rw[bQ (by omega) (by omega)];omega
  have i2:IntKind.wrap .i64 (pb-pm)=(B.length:Nat):=by rw[bQ (by omega) (by omega)];omega
  rw[i1,i2];subst e1;subst e2;subst e3;refine ifb ?_;split
  ·rename_i h1;have h1:A.length=1:=by simp at h1;omega
   obtain⟨x,rfl⟩:=List.length_eq_one_iff.1 h1;have e:P++[x]++B++T=P++x::(B++T):=by simp
   rw[e]at ho;exact aEP hf hS hn aB (by simpa using hk) ho fun w' ho'=>hQ _ (by simpa using ho')
  refine ifb ?_;split
  ·rename_i h1;have h1:B.length=1:=by simp at h1;omega
   obtain⟨x,rfl⟩:=List.length_eq_one_iff.1 h1;have e:P++A++[x]++T=P++A++x::T:=by simp
   rw[e]at ho;refine aDQ hf hS hn aA (hk.sub fun y hy=>by simp at hy ⊢;exact hy.symm) ho fun w' ho'=>hQ _ ?_;rw[show isort fR (x::A)=isort fR (A++[x])from aDV swoLot hk (List.perm_append_comm (l₁:=[x]) (l₂:=A))]at ho';exact ho'
  have hmid:=half (i:=P.length) (j:=P.length+A.length+B.length) (by omega);generalize hM:(P.length+(P.length+A.length+B.length)) / 2=M at hmid;have fin:∀(w':World) (A1 A2 B1 B2:List TLot),A=A1++A2→B=B1++B2→P.length+A1.length+B1.length=M→(∀x y,A1.getLast? =some x→B2.head? =some y→fR y x=false)→(∀x y,B1.getLast? =some x→A2.head? =some y→fR y x=false)→Rw S w0 a n c w' (P++A1++B1++A2++B2++T)→
   aF.j2 Q a n c (P.length:Nat) (P.length+A.length:Nat) (P.length+A.length+B.length:Nat) f (P.length+A1.length:Nat) w':=by
   intro w' A1 A2 B1 B2 eA eB hm h1 h2 ho';subst eA;subst eB;have hsplit:=aAL swoLot aA aB hk h1 h2;rw[hsplit]at hQ;simp only[List.length_append]at*;have hend:IntKind.wrap .i64 (IntKind.wrap .i64 (((M:Nat):Int)+((P.length+(A1.length+A2.length):Nat):Int))-((P.length+A1.length:Nat):Int))=((M+A2.length:Nat):Int):=by
    rw[bQ (x:=((M:Nat):Int)+_) (by omega) (by omega),bQ (by omega) (by omega)];omega
   obtain⟨a1,a2,_⟩:=List.pairwise_append.1 aA;obtain⟨b1,b2,_⟩:=List.pairwise_append.1 aB;have hk1:Tot fR (A1++B1):=hk.sub fun x hx=>by simp at hx ⊢;rcases hx with h | h<;>simp[h]
   have hk2:Tot fR (A2++B2):=hk.sub fun x hx=>by simp at hx ⊢;rcases hx with h | h<;>simp[h]
   have j3:∀w2,Rw S w0 a n c w2 ((P++isort fR (A1++B1))++A2++B2++T)→aF.j3 Q a n c (P.length:Nat) (P.length+(A1.length+A2.length):Nat) (P.length+(A1.length+A2.length)+(B1.length+B2.length):Nat) f (P.length+A1.length:Nat) w2:=by
    intro w2 ho2;unfold aF.j3;rw[hmid,hend];have hpl:(P++isort fR (A1++B1)).length=M:=by rw[List.length_append,(dI _).length_eq,List.length_append];omega
    refine ifb ?_;split
    ·rename_i hc;have hc:0<A2.length∧0<B2.length:=by simp at hc;omega
     refine ih (P:=P++isort fR (A1++B1)) (A:=A2) (B:=B2) (T:=T) (by omega) (List.length_pos_iff.1 hc.1) (List.length_pos_iff.1 hc.2) a2 b2 hk2 (by omega) (by omega) (by omega) ho2 fun w3 ho3=>hQ _ ?_;simpa using ho3
    ·rename_i hc;have hc:A2.length=0∨B2.length=0:=by simp at hc;omega
     have:isort fR (A2++B2)=A2++B2:=by
      rcases hc with hc | hc
      ·obtain rfl:=List.eq_nil_of_length_eq_zero hc;exact pY swoLot hk2 b2
      ·obtain rfl:=List.eq_nil_of_length_eq_zero hc;rw[List.append_nil];exact pY swoLot (by simpa using hk2) a2
     rw[this]at hQ;exact hQ _ (by simpa using ho2)
   unfold aF.j2;rw[hmid];refine ifb ?_;split
   ·rename_i hc;have hc:0<A1.length∧0<B1.length:=by simp at hc;omega
    have e:P++A1++B1++A2++B2++T=P++A1++B1++(A2++B2++T):=by simp
    rw[e]at ho';refine ih (P:=P) (A:=A1) (B:=B1) (T:=A2++B2++T) (by omega) (List.length_pos_iff.1 hc.1) (List.length_pos_iff.1 hc.2) a1 b1 hk1 rfl rfl (by omega) ho' fun w3 ho3=>j3 _ ?_;simpa using ho3
   ·rename_i hc;have hc:A1.length=0∨B1.length=0:=by simp at hc;omega
    refine j3 _ ?_;have:isort fR (A1++B1)=A1++B1:=by
     rcases hc with hc | hc
     ·obtain rfl:=List.eq_nil_of_length_eq_zero hc;exact pY swoLot hk1 b1
     ·obtain rfl:=List.eq_nil_of_length_eq_zero hc;rw[List.append_nil];exact pY swoLot (by simpa using hk1) a1
    rw[this];simpa using ho'
  have srch:∀(r i j:Nat) (w':World),j-i≤r→i≤j→j≤A.length→P.length+j≤M→M≤P.length+i+B.length→
   (∀x y,i≠0→A[i-1]? =some x→B[M-P.length-i]? =some y→fR y x=false)→(j≠A.length→P.length+j≠M→∀x y,A[j]? =some x→B[M-P.length-j-1]? =some y→fR y x=true)→Rw S w0 a n c w' (P++A++B++T)→
   aF.l5 Q a n c (P.length:Nat) (P.length+A.length:Nat) (P.length+A.length+B.length:Nat) f (r+1) (P.length+i:Nat) (P.length+j:Nat) w':=by
   intro r;induction r with
   | zero=>
    intro i j w' hr hij hjA hjM hiM h1 h2 ho';obtain rfl:i=j:=by omega
    unfold aF.l5;refine dK (by omega) ?_;obtain⟨A1,A2,hA',hl⟩:=aAv A i hjA;obtain⟨B1,B2,hB',hl'⟩:=aAv B (M-P.length-i) (by omega);have hla:A.length=A1.length+A2.length:=by rw[hA'];simp
    have hlb:B.length=B1.length+B2.length:=by rw[hB'];simp
    have g1:∀x y,A1.getLast? =some x→B2.head? =some y→fR y x=false:=by
     intro x y hx hy;obtain⟨A1',rfl⟩:=List.getLast?_eq_some_iff.1 hx;obtain⟨B2',rfl⟩:=List.head?_eq_some_iff.1 hy;simp at hl;refine h1 x y (by omega) ?_ ?_
     ·rw[hA',List.append_assoc];exact nQ (by omega)
     ·rw[hB'];exact nQ hl'.symm
    have g2:∀x y,B1.getLast? =some x→A2.head? =some y→fR y x=false:=by
     intro x y hx hy;obtain⟨B1',rfl⟩:=List.getLast?_eq_some_iff.1 hx;obtain⟨A2',rfl⟩:=List.head?_eq_some_iff.1 hy;simp at hl' hla;refine swoLot.asymmA (h2 (by omega) (by omega) y x ?_ ?_)
     ·rw[hA'];exact nQ hl.symm
     ·rw[hB',List.append_assoc];exact nQ (by omega)
    rw[hmid];have hend:IntKind.wrap .i64 (IntKind.wrap .i64 (((M:Nat):Int)+((P.length+A.length:Nat):Int))-((P.length+i:Nat):Int))=((P.length+A.length+B1.length:Nat):Int):=by
     rw[bQ (x:=((M:Nat):Int)+_) (by omega) (by omega),bQ (by omega) (by omega)];omega
    rw[hend,←hl];have hm:P.length+A1.length+B1.length=M:=by omega
    refine ifb ?_;split
    ·rename_i hc;have hc:0<A2.length∧0<B1.length:=by simp at hc;omega
     have e:P++A++B++T=(P++A1)++A2++B1++(B2++T):=by rw[hA',hB'];simp
     rw[e]at ho';refine aFu hS hn (P:=P++A1) (X:=A2) (Y:=B1) (T:=B2++T) (by simp) (by simp;omega) (by simp;omega) (List.length_pos_iff.1 hc.1) (List.length_pos_iff.1 hc.2) ho' fun w2 ho2=>fin w2 A1 A2 B1 B2 hA' hB' hm g1 g2 ?_;simpa using ho2
    ·rename_i hc;have hc:A2.length=0∨B1.length=0:=by simp at hc;omega
     refine fin w' A1 A2 B1 B2 hA' hB' hm g1 g2 ?_;have e:P++A++B++T=P++A1++B1++A2++B2++T:=by
      rw[hA',hB'];rcases hc with hc | hc<;>obtain rfl:=List.eq_nil_of_length_eq_zero hc<;>simp
     rw[←e];exact ho'
   | succ r ih2=>
    intro i j w' hr hij hjA hjM hiM h1 h2 ho';by_cases hlt:i<j
    ·unfold aF.l5;refine dQ (by omega) (dr fun w2 E=>?_);have ho2:=ho'.ext E;rw[hmid,half (i:=P.length+i) (j:=P.length+j) (by omega)];have hm:(P.length+i+(P.length+j)) / 2=P.length+(i+j) / 2:=by omega
     rw[hm];generalize hc:(i+j) / 2=m;have hmj:m<j:=by omega
     have him:i≤m:=by omega
     have hp:IntKind.wrap .i64 (IntKind.wrap .i64 (IntKind.wrap .i64 (((M:Nat):Int)+((P.length+A.length:Nat):Int))-1)-((P.length+m:Nat):Int))=((P.length+A.length+(M-P.length-m-1):Nat):Int):=by
      rw[bQ (x:=((M:Nat):Int)+_) (by omega) (by omega),bQ (x:=((M:Nat):Int)+_ -1) (by omega) (by omega),bQ (by omega) (by omega)];omega
     obtain⟨x,hx⟩:∃x,A[m]? =some x:=⟨_,List.getElem?_eq_getElem (by omega)⟩;obtain⟨y,hy⟩:∃y,B[M-P.length-m-1]? =some y:=⟨_,List.getElem?_eq_getElem (by omega)⟩;have hx':(P++A++B++T)[P.length+m]? =some x:=by
      rw[List.append_assoc,List.append_assoc,List.getElem?_append_right (by omega),show P.length+m-P.length=m by omega,List.getElem?_append_left (by omega)];exact hx
     have hy':(P++A++B++T)[P.length+A.length+(M-P.length-m-1)]? =some y:=by
      rw[List.append_assoc,List.getElem?_append_right (by simp),List.length_append,show P.length+A.length+(M-P.length-m-1)-(P.length+A.length)=M-P.length-m-1 by omega,List.getElem?_append_left (by omega)];exact hy
     refine ho2.ld hp hy' fun p1=>ho2.ld rfl hx' fun p2=>?_;refine hf y x w2 ho2.frm _ fun w3 E3=>?_;have ho3:=ho2.ext E3;have hlt':decide (uH y x<0)=fR y x:=rfl;rw[hlt'];refine ifb ?_;have hw:IntKind.wrap .i64 (((P.length+m:Nat):Int)+1)=((P.length+(m+1):Nat):Int):=by rw[bQ (by omega) (by omega)];omega
     rw[hw];split
     ·rename_i hb;refine ih2 (m+1) j w3 (by omega) (by omega) hjA hjM (by omega) (fun u z _ hu hz=>?_) h2 ho3;rw[Nat.add_sub_cancel,hx]at hu;rw[show M-P.length-(m+1)=M-P.length-m-1 by omega,hy]at hz;cases hu;cases hz;simpa using hb
     ·rename_i hb;refine ih2 i m w3 (by omega) him (by omega) (by omega) hiM h1 (fun _ _ u z hu hz=>?_) ho3;rw[hx]at hu;rw[hy]at hz;cases hu;cases hz;simpa using hb
    ·have:=ih2 i j w' (by omega) hij hjA hjM hiM h1 h2 ho';obtain rfl:i=j:=by omega
     unfold aF.l5 at this ⊢;exact dK (by omega) (this.2 (by simp))
  rw[hmid];refine ifb ?_;split
  ·rename_i hm;have hm:M<P.length+A.length:=by simp at hm;omega
   have hs0:IntKind.wrap .i64 (IntKind.wrap .i64 (((M:Nat):Int)+((P.length+A.length:Nat):Int))-((P.length+A.length+B.length:Nat):Int))=((P.length+(M-P.length-B.length):Nat):Int):=by
    rw[bQ (x:=((M:Nat):Int)+_) (by omega) (by omega),bQ (by omega) (by omega)];omega
   rw[hs0];have hM':(M:Int)=((P.length+(M-P.length):Nat):Int):=by omega
   rw[hM'];unfold aF.j1;refine⟨_,srch (M-P.length) (M-P.length-B.length) (M-P.length) w (by omega) (by omega) (by omega) (by omega) (by omega) (fun x y _ _ hy=>?_) (fun _ h=>absurd (by omega) h) ho⟩;rw[List.getElem?_eq_none (by omega)]at hy;cases hy
  ·rename_i hm;have hm:P.length+A.length≤M:=by simp at hm;omega
   unfold aF.j1;refine⟨_,by have:=srch A.length 0 A.length w (by omega) (by omega) (by omega) (by omega) (by omega) (fun x y h=>absurd rfl h) (fun h=>absurd rfl h) ho;simpa using this⟩
theorem aFj(hf:aA2 f TLot.enc uH S w0)(hS:∀k,obk a c=some k→S k)(hn:n≤100000000){xs:List TLot}{w:World}(ho:Own 45 10 TLot.enc w a n c xs)(F:Frm S w0 w)
 (hx:∀x∈xs,∀y∈xs,x.Id=y.Id→x=y) {Q:World→Prop}
 (hQ:∀w',Own 45 10 TLot.enc w' a n c (isort fR xs)→Frm S w0 w'→Q w'):Cl Pg 177 #[vl a n c,f] w (fun v w'=>v= .tuple #[]∧Q w'):=by
 have hk:Tot fR xs:=fun x h1 y h2 h3 h4=>hx x h1 y h2 (by rw[qR]at h3 h4;omega);have totP:∀{ys zs:List TLot},ys.Perm xs→(∀x∈zs,x∈ys)→Tot fR zs:=fun hp hs=>hk.sub fun x hx=>hp.mem_iff.1 (hs x hx);refine lT.ok (aX.ok ?_);have l2:∀(k sz:Nat) (ys:List TLot) (w:World),n≤sz+k→0<sz→Chunked fR sz ys→ys.Perm xs→Rw S w0 a n c w ys→aX.l2 Q a n c (n:Nat) f (k+1) (sz:Nat) w:=by
  intro k;induction k with
  | zero=>
   intro sz ys w hk' h0 hc hp hr;unfold aX.l2;refine dK (by omega) (hQ w ?_ hr.frm);rw[←lN swoLot hp (hc.asc (by have:=hr.len;omega)) hk];exact hr.own
  | succ k ih=>
   intro sz ys w hk' h0 hc hp hr;unfold aX.l2;refine ifb ?_;split
   ·rename_i hlt;have hlt:sz<n:=by have:=of_decide_eq_true hlt;omega
    refine⟨n+1,?_⟩;have hw2:IntKind.wrap .i64 ((2:Int)*((sz:Nat):Int))=((2*sz:Nat):Int):=by rw[bQ (by omega) (by omega)];omega
    have hw2':IntKind.wrap .i64 (((sz:Nat):Int)*(2:Int))=((2*sz:Nat):Int):=by rw[bQ (by omega) (by omega)];omega
    rw[hw2];have l3:∀(q:Nat) (P R:List TLot) (w:World),n≤P.length+q→Full fR (2*sz) P→Chunked fR sz R→(P++R).Perm xs→Rw S w0 a n c w (P++R)→
     aX.l3 Q a n c (n:Nat) f (sz:Nat) (aX.l2 Q a n c (n:Nat) f (k+1)) (q+1) (P.length:Nat) (P.length+2*sz:Nat) w:=by
     intro q;induction q with
     | zero=>
      intro P R w hq hP hR hp hr;have hl:=hr.len;simp only[List.length_append]at hl;obtain rfl:R=[]:=List.eq_nil_of_length_eq_zero (by omega);unfold aX.l3;refine dK (by omega) ?_;rw[bQ (x:=((P.length:Nat):Int)+_) (by omega) (by omega)];refine dK (by omega) ?_;rw[hw2'];exact ih (2*sz) (P++[]) w (by omega) (by omega) (hP.app (.last (by simp) (by simp[Asc]))) hp hr
     | succ q ih3=>
      intro P R w hq hP hR hp hr;have hl:=hr.len;simp only[List.length_append]at hl;unfold aX.l3;have hps:IntKind.wrap .i64 (((P.length:Nat):Int)+((sz:Nat):Int))=((P.length+sz:Nat):Int):=by rw[bQ (by omega) (by omega)];omega
      rw[hps,hw2,hw2'];refine ifb ?_;split
      ·rename_i hle;have hle:P.length+2*sz≤n:=by have:=of_decide_eq_true hle;omega
       obtain⟨A,B,T,rfl,lA,lB,aA,aB,hT⟩:=hR.two h0 (by omega);have hp':(P++isort fR (A++B)++T).Perm xs:=by
        refine List.Perm.trans ?_ hp;rw[List.append_assoc];exact List.Perm.append_left P (List.Perm.append_right T (dI _))
       have e:P++(A++B++T)=P++A++B++T:=by simp
       rw[e]at hr;have hAB:(A++B).length=2*sz:=by simp;omega
       refine aAn hf hS (by omega) _ (Nat.le_refl _) (List.length_pos_iff.1 (by omega)) (List.length_pos_iff.1 (by omega)) aA aB (totP hp fun x hx=>by simp at hx ⊢;rcases hx with h | h<;>simp[h]) rfl (by omega) (by omega) hr fun w2 hr2=>?_;have hw3:IntKind.wrap .i64 (((P.length+2*sz:Nat):Int)+((2*sz:Nat):Int))=(((P++isort fR (A++B)).length+2*sz:Nat):Int):=by
        rw[List.length_append,(dI _).length_eq,hAB,bQ (by omega) (by omega)];omega
       have hw4:((P.length+2*sz:Nat):Int)=(((P++isort fR (A++B)).length:Nat):Int):=by
        rw[List.length_append,(dI _).length_eq,hAB]
       rw[hw3,hw4];refine ih3 (P++isort fR (A++B)) T w2 ?_ (.snoc hP (by rw[(dI _).length_eq,hAB]) (lZ swoLot _)) hT hp' hr2;rw[List.length_append,(dI _).length_eq,hAB];omega
      ·rename_i hle;have hle:n<P.length+2*sz:=by simp at hle;omega
       refine ifb ?_;split
       ·rename_i hlt2;have hlt2:P.length+sz<n:=by have:=of_decide_eq_true hlt2;omega
        obtain⟨A,T,rfl,lA,aA,hT⟩:=hR.one (by omega);simp only[List.length_append]at hl;have aT:=hT.asc (by omega);have hp':(P++isort fR (A++T)).Perm xs:=(List.Perm.append_left P (dI _)).trans hp;have e:P++(A++T)=P++A++T++[]:=by simp
        rw[e]at hr;refine aAn hf hS (by omega) _ (Nat.le_refl _) (List.length_pos_iff.1 (by omega)) (List.length_pos_iff.1 (by omega)) aA aT (totP hp fun x hx=>by simp at hx ⊢;rcases hx with h | h<;>simp[h]) rfl (by omega) (by omega) hr fun w2 hr2=>?_;rw[List.append_nil]at hr2;refine ih (2*sz) _ w2 (by omega) (by omega) (hP.app (.last ?_ (lZ swoLot _))) hp' hr2;rw[(dI _).length_eq];simp;omega
       ·rename_i hlt2;have hlt2:n≤P.length+sz:=by simp at hlt2;omega
        exact ih (2*sz) _ w (by omega) (by omega) (hP.app (.last (by omega) (hR.asc (by omega)))) hp hr
    have:=l3 n [] ys w (by simp) .nil hc (by simpa using hp) (by simpa using hr);simpa using this
   ·rename_i hlt;have hlt:n≤sz:=by simp at hlt;omega
    refine hQ w ?_ hr.frm;rw[←lN swoLot hp (hc.asc (by have:=hr.len;omega)) hk];exact hr.own
 have l1:∀(k:Nat) (P R:List TLot) (w:World),n≤P.length+k→Full fR 20 P→(P++R).Perm xs→Rw S w0 a n c w (P++R)→aX.l1 Q a n c (n:Nat) f (k+1) (P.length:Nat) (P.length+20:Nat) w:=by
  have last:∀(k:Nat) (P R:List TLot) (w:World),n<P.length+20→Full fR 20 P→(P++R).Perm xs→Rw S w0 a n c w (P++R)→aX.l1 Q a n c (n:Nat) f (k+1) (P.length:Nat) (P.length+20:Nat) w:=by
   intro k P R w hlt hP hp hr;have hl:=hr.len;simp only[List.length_append]at hl;unfold aX.l1;refine dK (by omega) ?_;have ho':Own 45 10 TLot.enc w a n c (P++R).toArray.toList:=hr.own;refine ins_c (lo:=P.length) (hi:=n) hf hS (by omega) (by omega) (by omega) ho' hr.frm fun w2 o2 F2=>⟨n+1,?_⟩;have tR:Tot fR R:=totP hp fun x hx=>by simp[hx]
   rw[aDX swoLot (P:=P) (A:=R) (T:=[]) tR (by simp) rfl hl,List.append_nil]at o2;refine l2 n 20 _ w2 (by omega) (by omega) (hP.app (.last ?_ (lZ swoLot _))) ((List.Perm.append_left P (dI _)).trans hp) ⟨o2,F2⟩;rw[(dI _).length_eq];omega
  intro k;induction k with
  | zero=>intro P R w hk' hP hp hr;exact last 0 P R w (by omega) hP hp hr
  | succ k ih=>
   intro P R w hk' hP hp hr;by_cases hlt:n<P.length+20
   ·exact last (k+1) P R w hlt hP hp hr
   ·have hl:=hr.len;simp only[List.length_append]at hl;unfold aX.l1;refine dQ (by omega) ?_;obtain⟨A,T,rfl,lA⟩:=aAv R 20 (by omega);have ho':Own 45 10 TLot.enc w a n c (P++(A++T)).toArray.toList:=hr.own;refine ins_c (lo:=P.length) (hi:=P.length+20) hf hS (by omega) (by omega) (by omega) ho' hr.frm fun w2 o2 F2=>?_;have tA:Tot fR A:=totP hp fun x hx=>by simp[hx]
    rw[aDX swoLot (P:=P) (A:=A) (T:=T) tA (by simp) rfl (by omega)]at o2;have hAl:(isort fR A).length=20:=by rw[(dI _).length_eq];exact lA
    have hw3:IntKind.wrap .i64 (((P.length+20:Nat):Int)+20)=(((P++isort fR A).length+20:Nat):Int):=by
     rw[List.length_append,hAl,bQ (by omega) (by omega)];omega
    have hw4:((P.length+20:Nat):Int)=(((P++isort fR A).length:Nat):Int):=by rw[List.length_append,hAl]
    rw[hw3,hw4];refine ih (P++isort fR A) T w2 (by rw[List.length_append,hAl];omega) (.snoc hP hAl (lZ swoLot _)) ?_ ⟨o2,F2⟩;refine List.Perm.trans ?_ hp;rw[List.append_assoc];exact List.Perm.append_left P (List.Perm.append_right T (dI _))
 have:=l1 n [] xs w (by simp) .nil (by simp) ⟨by simpa using ho,F⟩;exact⟨_,by simpa using this⟩
end
end Go.Proofs.YtcbijkakoepglaaGreat
namespace Go.Proofs.YtcbijkakoepglaaGreat
open Go Go.Wx
set_option maxRecDepth 100000
def fZ.l1(Q:Option Addr→Nat→Nat→World→Prop)(day:Int)(x1_a:Option Addr)(x1_n:Nat):Nat→Option Addr→Nat→Nat→Int→World→Prop
 | 0,_,_,_,_,_=>False
 | nl1+1,v1_a,v1_n,v1_c,v2,w1=>(
 Ifb (decide (v2<((x1_n:Nat):Int)))
 (Ix x1_a x1_n v2 fun p2=>
 LdT TLot.enc w1 (Addr.add p2 (v2.toNat*10)) fun x2=>
 Al w1 (.cells #[vi 0,vi 0,vi 0,vi 0,vi 0,vs (ByteArray.mk #[]),vi 0,vi 0,vu 0,vi 0] 45) fun b1 w2=>
 Sb w2 b1 (.cells #[vi x2.Id,vi x2.Thing,vi x2.Layer,vi x2.Day,vi x2.Due,vs x2.Unit,vi x2.N,vi x2.Left,vu x2.State,vi x2.Bag] 45 (0,0)) fun w3=>
 Ifb ((x2.State==1)&&(decide (x2.Due≤day)))
 (Al w3 (.cells #[vi x2.Id,vi x2.Thing,vi x2.Layer,vi x2.Day,vi x2.Due,vs x2.Unit,vi x2.N,vi x2.Left,vu x2.State,vi x2.Bag] 45) fun b2 w4=>
 Ap Pg w4 #[46,46] 46 (vl v1_a v1_n v1_c) (vl (some ⟨b2,0,none⟩) 1 1) fun a1_a a1_n a1_c w5=>
 (fZ.l1 Q day x1_a x1_n nl1) a1_a a1_n a1_c (IntKind.wrap .i64 (v2+1)) w5)
 ((fZ.l1 Q day x1_a x1_n nl1) v1_a v1_n v1_c (IntKind.wrap .i64 (v2+1)) w3))
 (Cl Pg 137 #[vl v1_a v1_n v1_c,.func (.func 138) #[] #[]] w1 (fun v w6=>∃r1_a r1_n r1_c,v=vl r1_a r1_n r1_c∧Q r1_a r1_n r1_c w6)))
def fZ.R(Q:Option Addr→Nat→Nat→World→Prop)(s:Option Addr)(day:Int)(w:World):Prop:=(
 NN s fun p1=>
 dU w (Addr.add p1 3) fun x1_a x1_n x1_c=>
 ∃k,fZ.l1 Q day x1_a x1_n k none 0 0 0 w)
theorem fZ.ok{Q:Option Addr→Nat→Nat→World→Prop}{s:Option Addr}{day:Int}{w:World}(h:fZ.R Q s day w):Cl Pg 75 #[vP s,vi day] w (fun v w'=>∃r0a r0n r0c,v=vl r0a r0n r0c∧Q r0a r0n r0c w'):=by
 refine aI (args:=[vP s,vi day]) Tryz.func75 ?_
 unfold fZ.R at h
 refine aC<|zp 1<|aD<|aC<|zp 1<|aD<|aL<|aC<|zp 1<|zo h fun p1 h=>zp 1<|zr iU h fun x1_a x1_n x1_c hx1 h=>zp 2<|aD<|aR ?_
 obtain⟨nl1,h⟩:=h
 refine bS (fun k e w1=>∃(e0:Env) (v1_a:Option Addr) (v1_n:Nat) (v1_c:Nat) (v2:Int),e=upds e0 [(1,vi day),(5,vl v1_a v1_n v1_c),(11,vl x1_a x1_n x1_c),(12,vi (x1_n:Nat)),(13,vi v2)]∧fZ.l1 Q day x1_a x1_n k v1_a v1_n v1_c v2 w1) nl1 ?_ ?_ ?_
 rintro _ _ ⟨_,_,_,_,_,_,h⟩
 exact h
 exact⟨_,none,0,0,0,ag,h⟩
 clear h nl1
 rintro nl1 _ w1 ⟨e0,v1_a,v1_n,v1_c,v2,rfl,h⟩
 unfold fZ.l1 at h
 refine aC<|zp 1<|aD<|aL<|zc h (fun h=>?_) fun h=>?_
 refine aJ<|aL<|aR<|aC<|zi dX h fun p2 h=>?_
 obtain⟨x2,hx2,h⟩:=h
 refine zn jU hx2<|zq h fun b1 w2 _ _ q1 h=>zt jU q1 h fun w3 ew q h=>?_
 replace q1:=q
 refine aD<|aC<|zp 1<|zb tk5 q1<|zp 2<|jV (fun e w_=>∃(e0:Env),e=upds e0 [(1,vi day),(5,vl v1_a v1_n v1_c),(7,vp ⟨b1,0,none⟩),(11,vl x1_a x1_n x1_c),(12,vi (x1_n:Nat)),(13,vi v2),(25,vb ((x2.State==1)&&(decide (x2.Due≤day))))]∧w3=w_) ?_ ?_
 clear h
 refine dO 20 (b:=(x2.State==1)) rfl (fun hb0=>?_) (fun hb0=>?_)
 refine zp 1<|zb tk3 q1<|zp 3 ?_
 rw[hb0]
 exact aD ⟨_,ag,rfl⟩
 refine zp 5 ?_
 rw[hb0]
 exact aD ⟨_,ag,rfl⟩
 rintro _ _ ⟨e0,rfl,rfl⟩
 refine zc h (fun h=>?_) fun h=>?_
 refine aW<|zp 1<|zm jU q1<|zv 1 h fun b2 w4 _ _ _ h=>za h ?_
 rintro a1_a a1_n a1_c w5 h
 exact zp 1<|aD<|aG<|aW<|zp 2<|aD<|⟨_,a1_a,a1_n,a1_c,IntKind.wrap .i64 (v2+1),ag,h⟩
 exact aJ<|aG<|aW<|zp 2<|aD<|⟨_,v1_a,v1_n,v1_c,IntKind.wrap .i64 (v2+1),ag,h⟩
 refine dE<|aU<|aC<|zp 1<|zk h ?_
 rintro _ w6 ⟨r1_a,r1_n,r1_c,rfl,h⟩
 exact zp 1<|aD<|aN<|z1 ⟨_,_,_,rfl,h⟩
def mP.R(Q:Int→World→Prop)(l:Option Addr)(day:Int)(do_:Value)(w:World):Prop:=(
 Ifb l.isNone
 (Q 3 w)
 (Ifb ((decide (day<0))||(decide (day>100000)))
 (Q 1 w)
 (NN l fun p1=>
 LdI .i64 w p1 fun x1=>
 Ifb (decide (day<x1))
 (Q 7 w)
 (NN l fun p2=>
 LdT Tstate.enc w p2 fun x2=>
 Cl Pg 139 #[vg (Tstate.enc x2)] w (fun v w1=>∃r1,v=vg (Tstate.enc r1)∧Al w1 (.cells #[vi 0,vl none 0 0,vl none 0 0,vl none 0 0,vl none 0 0] 120) fun b1 w2=>
 St w2 ⟨b1,0,none⟩ (Tstate.enc r1) fun w3=>
 Cl Pg 140 #[vp ⟨b1,0,none⟩,vi day] w3 (fun v w4=>∃r2,v=vi r2∧Clv Pg do_ #[vp ⟨b1,0,none⟩] w4 (fun v w5=>∃r3,v=vi r3∧Ifb (r3 !=0)
 (Q r3 w5)
 (dU w5 (Addr.add ⟨b1,0,none⟩ 4) fun x3_a x3_n x3_c=>
 Ifb (decide (((x3_n:Nat):Int)>20000))
 (Q 2 w5)
 (LdT Tstate.enc w5 ⟨b1,0,none⟩ fun x4=>
 NN l fun p3=>
 St w5 p3 (Tstate.enc x4) fun w6=>
 Q 0 w6)))))))))
theorem mP.ok{Q:Int→World→Prop}{l:Option Addr}{day:Int}{do_:Value}{w:World}(h:mP.R Q l day do_ w):Cl Pg 76 #[vP l,vi day,do_] w (fun v w'=>∃r0,v=vi r0∧Q r0 w'):=by
 refine aI (args:=[vP l,vi day,do_]) Tryz.func76 ?_
 unfold mP.R at h
 refine aC<|zp 1<|aD<|aL<|aR<|aC<|zp 1<|sH rfl rfl (v:=vb l.isNone) (jE (by kernel_rfl) rfl rfl rfl)<|zp 1<|aD<|zc h (fun h=>?_) fun h=>?_
 exact aC<|zp 1<|aD<|aN<|bD<|aH<|z1 ⟨_,rfl,h⟩
 refine aC<|zp 3<|jV (fun e w_=>∃(e0:Env),e=upds e0 [(0,vP l),(1,vi day),(2,do_),(12,vb ((decide (day<0))||(decide (day>100000))))]∧w=w_) ?_ ?_
 clear h
 refine dO 15 (b:=decide (day<0)) rfl (fun hb0=>?_) (fun hb0=>?_)
 refine zp 4 ?_
 rw[hb0]
 exact aD ⟨_,ag,rfl⟩
 refine zp 4 ?_
 rw[hb0]
 exact aD ⟨_,ag,rfl⟩
 rintro _ _ ⟨e0,rfl,rfl⟩
 refine zc h (fun h=>?_) fun h=>?_
 exact aC<|zp 1<|aD<|aN<|bD<|aH<|z1 ⟨_,rfl,h⟩
 refine aC<|zp 2<|zo h fun p1 h=>zp 2<|zd tk3 h fun x1 hx1 h=>zp 2<|aD<|zc h (fun h=>?_) fun h=>?_
 exact aC<|zp 1<|aD<|aN<|bD<|aH<|z1 ⟨_,rfl,h⟩
 refine aJ<|aG<|aC<|zp 1<|zo h fun p2 h=>zp 1 ?_
 obtain⟨x2,hx2,h⟩:=h
 refine zn aAj hx2<|zk h ?_
 rintro _ w1 ⟨r1,rfl,h⟩
 refine zq h fun b1 w2 _ _ _ h=>zu aAj h ?_
 rintro w3 h
 refine aD<|aC<|zp 1<|zk h ?_
 rintro _ w4 ⟨r2,rfl,h⟩
 refine aD<|aL<|aC<|zp 1<|zx h ?_
 rintro _ w5 ⟨r3,rfl,h⟩
 refine zp 1<|aD<|aC<|zp 2<|aD<|zc h (fun h=>?_) fun h=>?_
 exact aC<|zp 2<|aD<|aN<|aH<|z1 ⟨_,rfl,h⟩
 refine aJ<|aL<|aC<|zp 1<|zr sT h fun x3_a x3_n x3_c hx3 h=>zp 2<|aD<|zc h (fun h=>?_) fun h=>?_
 exact aC<|zp 1<|aD<|aN<|aH<|z1 ⟨_,rfl,h⟩
 refine aJ<|aC<|zp 1 ?_
 obtain⟨x4,hx4,h⟩:=h
 refine zn aAj hx4<|zo h fun p3 h=>zp 1<|zu aAj h ?_
 rintro w6 h
 exact aD<|aC<|zp 1<|aD<|aN<|z1 ⟨_,rfl,h⟩
def iC.l1(Q:World→Prop)(s:Option Addr)(r1_a:Option Addr)(r1_n:Nat):Nat→Int→World→Prop
 | 0,_,_=>False
 | nl1+1,v1,w2=>(
 Ifb (decide (v1<((r1_n:Nat):Int)))
 (Ix r1_a r1_n v1 fun p2=>
 LdT TLot.enc w2 (Addr.add p2 (v1.toNat*10)) fun x2=>
 Al w2 (.cells #[vi 0,vi 0,vi 0,vi 0,vi 0,vs (ByteArray.mk #[]),vi 0,vi 0,vu 0,vi 0] 45) fun b1 w3=>
 Sb w3 b1 (.cells #[vi x2.Id,vi x2.Thing,vi x2.Layer,vi x2.Day,vi x2.Due,vs x2.Unit,vi x2.N,vi x2.Left,vu x2.State,vi x2.Bag] 45 (0,0)) fun w4=>
 Dr w4 fun w5=>
 NN s fun p3=>
 LdI .i64 w5 p3 fun x3=>
 Cl Pg 150 #[vP s,vi x2.Id,vi x3] w5 (fun v w6=>v= .tuple #[]∧(iC.l1 Q s r1_a r1_n nl1) (IntKind.wrap .i64 (v1+1)) w6))
 (Q w2))
def iC.R(Q:World→Prop)(s:Option Addr)(w:World):Prop:=(
 NN s fun p1=>
 LdI .i64 w p1 fun x1=>
 Cl Pg 75 #[vP s,vi x1] w (fun v w1=>∃r1_a r1_n r1_c,v=vl r1_a r1_n r1_c∧∃k,iC.l1 Q s r1_a r1_n k 0 w1))
theorem iC.ok{Q:World→Prop}{s:Option Addr}{w:World}(h:iC.R Q s w):Cl Pg 92 #[vP s] w (fun v w'=>v= .tuple #[]∧Q w'):=by
 refine aI (args:=[vP s]) Tryz.func92 ?_
 unfold iC.R at h
 refine aC<|zp 2<|zo h fun p1 h=>zp 1<|zd tk3 h fun x1 hx1 h=>zk h ?_
 rintro _ w1 ⟨r1_a,r1_n,r1_c,rfl,h⟩
 refine zp 2<|aD<|aR ?_
 obtain⟨nl1,h⟩:=h
 refine bS (fun k e w2=>∃(e0:Env) (v1:Int),e=upds e0 [(0,vP s),(9,vl r1_a r1_n r1_c),(10,vi (r1_n:Nat)),(11,vi v1)]∧iC.l1 Q s r1_a r1_n k v1 w2) nl1 ?_ ?_ ?_
 rintro _ _ ⟨_,_,_,h⟩
 exact h
 exact⟨_,0,ag,h⟩
 clear h nl1
 rintro nl1 _ w2 ⟨e0,v1,rfl,h⟩
 unfold iC.l1 at h
 refine aC<|zp 1<|aD<|aL<|zc h (fun h=>?_) fun h=>?_
 refine aJ<|aL<|aR<|aC<|zi dX h fun p2 h=>?_
 obtain⟨x2,hx2,h⟩:=h
 refine zn jU hx2<|zq h fun b1 w3 _ _ q1 h=>zt jU q1 h fun w4 ew q h=>?_
 replace q1:=q
 refine aD<|drw iG [[],[],[],[],[],[],[],[2,6]] [.p 0,.p 1,.l 2,.p 3,.p 4,.p 5,.l 6,.e 7] h fun w5 ew h=>?_
 replace q1:=dN ew q1
 refine zP 2<|zB tk3 q1<|zP 1<|zO h fun p3 h=>zP 1<|zD tk3 h fun x3 hx3 h=>zK h ?_
 rintro _ w6 ⟨rfl,h⟩
 refine⟨AllOk.nil,?_⟩
 exact bF<|aG<|aW<|zp 2<|aD<|⟨_,IntKind.wrap .i64 (v1+1),ag,h⟩
 exact dE<|aU<|vG<|uA rfl ⟨rfl,h⟩
def fC.l1(Q:Int→World→Prop)(s:Option Addr)(day:Int)(r1_a:Option Addr)(r1_n:Nat):Nat→Int→World→Prop
 | 0,_,_=>False
 | nl1+1,v1,w2=>(
 Ifb (decide (v1<((r1_n:Nat):Int)))
 (Ix r1_a r1_n v1 fun p1=>
 LdT TLot.enc w2 (Addr.add p1 (v1.toNat*10)) fun x1=>
 Al w2 (.cells #[vi 0,vi 0,vi 0,vi 0,vi 0,vs (ByteArray.mk #[]),vi 0,vi 0,vu 0,vi 0] 45) fun b1 w3=>
 Sb w3 b1 (.cells #[vi x1.Id,vi x1.Thing,vi x1.Layer,vi x1.Day,vi x1.Due,vs x1.Unit,vi x1.N,vi x1.Left,vu x1.State,vi x1.Bag] 45 (0,0)) fun w4=>
 Cl Pg 150 #[vP s,vi x1.Id,vi x1.Due] w4 (fun v w5=>v= .tuple #[]∧(fC.l1 Q s day r1_a r1_n nl1) (IntKind.wrap .i64 (v1+1)) w5))
 (NN s fun p2=>
 St w2 p2 ([vi day]) fun w6=>
 Q (r1_n:Nat) w6))
def fC.R(Q:Int→World→Prop)(s:Option Addr)(day:Int)(w:World):Prop:=(
 Cl Pg 75 #[vP s,vi day] w (fun v w1=>∃r1_a r1_n r1_c,v=vl r1_a r1_n r1_c∧∃k,fC.l1 Q s day r1_a r1_n k 0 w1))
theorem fC.ok{Q:Int→World→Prop}{s:Option Addr}{day:Int}{w:World}(h:fC.R Q s day w):Cl Pg 140 #[vP s,vi day] w (fun v w'=>∃r0,v=vi r0∧Q r0 w'):=by
 refine aI (args:=[vP s,vi day]) Tryz.func140 ?_
 unfold fC.R at h
 refine aC<|zp 1<|aD<|aC<|zp 2<|zk h ?_
 rintro _ w1 ⟨r1_a,r1_n,r1_c,rfl,h⟩
 refine zp 1<|aD<|aL<|aC<|zp 3<|aD<|aR ?_
 obtain⟨nl1,h⟩:=h
 refine bS (fun k e w2=>∃(e0:Env) (v1:Int),e=upds e0 [(0,vP s),(1,vi day),(5,vl r1_a r1_n r1_c),(11,vl r1_a r1_n r1_c),(12,vi (r1_n:Nat)),(13,vi v1)]∧fC.l1 Q s day r1_a r1_n k v1 w2) nl1 ?_ ?_ ?_
 rintro _ _ ⟨_,_,_,h⟩
 exact h
 exact⟨_,0,ag,h⟩
 clear h nl1
 rintro nl1 _ w2 ⟨e0,v1,rfl,h⟩
 unfold fC.l1 at h
 refine aC<|zp 1<|aD<|aL<|zc h (fun h=>?_) fun h=>?_
 refine aJ<|aL<|aR<|aC<|zi dX h fun p1 h=>?_
 obtain⟨x1,hx1,h⟩:=h
 refine zn jU hx1<|zq h fun b1 w3 _ _ q1 h=>zt jU q1 h fun w4 ew q h=>?_
 replace q1:=q
 refine aD<|aW<|zp 2<|zb tk3 q1<|zp 1<|zb tk3 q1<|zk h ?_
 rintro _ w5 ⟨rfl,h⟩
 exact aD<|aG<|aW<|zp 2<|aD<|⟨_,IntKind.wrap .i64 (v1+1),ag,h⟩
 refine dE<|aU<|aC<|zp 2<|zo h fun p2 h=>zp 1<|zu tk3 h ?_
 rintro w6 h
 exact aD<|aC<|zp 3<|aD<|aN<|z1 ⟨_,rfl,h⟩
end Go.Proofs.YtcbijkakoepglaaGreat
namespace Go.Proofs.YtcbijkakoepglaaGreat
open Go Go.Wx
def oC(day:Int)(x:TLot):Bool:=(x.State==1)&&decide (x.Due≤day)
def MState.due(M:MState)(day:Int):List TLot:=isort fR (M.lots.filter (oC day))
def MState.forfeits(M:MState)(l:List (Int × Int)):MState:=l.foldl (fun M x=>M.forfeit x.1 x.2) M
def MState.advance(M:MState)(day:Int):MState:={M.forfeits ((M.due day).map fun x=>(x.Id,x.Due))with day:=day}
def MState.late(M:MState):MState:=M.forfeits ((M.due M.day).map fun x=>(x.Id,M.day))
def IdOk(M:MState):Prop:=∀(i:Nat) (x:TLot),M.lots[i]? =some x→x.Id=i+1
abbrev yZ:Nat:=100000
structure Small(M:MState):Prop where
 units:M.units.length≤1000
 values:∀u∈M.units,u.values.length≤1000000
 terms:M.terms.length≤1000
 lots:M.lots.length≤100000
 postings:M.postings.length≤100000
theorem Small.fits{M:MState}(h:Small M):Fits M:=⟨h.units,h.values,h.terms,by have:=h.lots;omega,by have:=h.postings;omega⟩
theorem IdOk.inj{M:MState}(h:IdOk M):∀x∈M.lots,∀y∈M.lots,x.Id=y.Id→x=y:=by
 intro x hx y hy e;obtain⟨i,hi⟩:=List.getElem?_of_mem hx;obtain⟨j,hj⟩:=List.getElem?_of_mem hy;have h1:=h i x hi;have h2:=h j y hj;obtain rfl:i=j:=by omega
 exact Option.some.inj (hi.symm.trans hj)
theorem IdOk.range{M:MState}(h:IdOk M){x:TLot}(hx:x∈M.lots):1≤x.Id∧x.Id≤M.lots.length:=by
 obtain⟨i,hi⟩:=List.getElem?_of_mem hx;have h1:=h i x hi;have:=(List.getElem?_eq_some_iff.1 hi).1;omega
theorem MState.due_mem{M:MState}{day:Int}{x:TLot}(h:x∈M.due day):x∈M.lots∧oC day x=true:=List.mem_filter.1 ((dI _).mem_iff.1 h)
theorem MState.due_len(M:MState)(day:Int):(M.due day).length=(M.lots.filter (oC day)).length:=(dI _).length_eq
structure Kept(M M':MState)(k:Nat):Prop where
 day:M'.day=M.day
 units:M'.units=M.units
 terms:M'.terms=M.terms
 lots:M'.lots.length=M.lots.length
 postings:M'.postings.length≤M.postings.length+k
 ids:IdOk M→IdOk M'
theorem Kept.refl(M:MState):Kept M M 0:=⟨rfl,rfl,rfl,rfl,Nat.le_refl _,id⟩
theorem Kept.trans{M M1 M2:MState}{k k':Nat}(h:Kept M M1 k)(h':Kept M1 M2 k'):Kept M M2 (k+k'):=
 ⟨h'.day.trans h.day,h'.units.trans h.units,h'.terms.trans h.terms,h'.lots.trans h.lots,by have:=h.postings;have:=h'.postings;omega,fun hi=>h'.ids (h.ids hi)⟩
theorem IdOk.setLot{M:MState}(h:IdOk M){i:Nat}{x x':TLot}(hx:M.lots[i]? =some x)(he:x'.Id=x.Id):IdOk (M.setLot i x'):=by
 intro j y hy;unfold MState.setLot at hy;simp only at hy;by_cases hij:i=j
 ·subst hij;rw[List.getElem?_set_self (List.getElem?_eq_some_iff.1 hx).1]at hy;cases hy;rw[he];exact h i x hx
 ·rw[List.getElem?_set_ne hij]at hy;exact h j y hy
theorem uS(M:MState)(id day:Int):Kept M (M.forfeit id day) 1:=by
 unfold MState.forfeit;split
 ·rename_i x hx;refine⟨rfl,rfl,rfl,by simp[MState.setLot,MState.post],by simp[MState.setLot,MState.post],fun h=>?_⟩;exact IdOk.setLot (M:=M.post _) h hx rfl
 ·exact⟨rfl,rfl,rfl,rfl,by omega,fun h=>h⟩
theorem mY:∀(l:List (Int × Int)) (M:MState),Kept M (M.forfeits l) l.length
 |[],M=>Kept.refl M
 | x::l,M=>by
  have:=(uS M x.1 x.2).trans (mY l (M.forfeit x.1 x.2));rw[Nat.add_comm]at this;exact this
theorem Kept.fits{M M':MState}{k:Nat}(h:Kept M M' k)(hS:Small M)(hk:k≤500000):Fits M':=
 ⟨by rw[h.units];exact hS.units,by rw[h.units];exact hS.values,by rw[h.terms];exact hS.terms,by rw[h.lots];have:=hS.lots;omega,by have:=h.postings;have:=hS.postings;omega⟩
theorem aBy{f:Value}(hf:aE3 f)(h1:aAO f=true){w:World}{a:Option Addr}{n c:Nat}{xs:List TLot}(ho:Own 45 10 TLot.enc w a n c xs)(hn:n≤yZ)(hx:∀x∈xs,∀y∈xs,x.Id=y.Id→x=y){Q:Option Addr→Nat→Nat→World→Prop}
 (hQ:∀w',Own 45 10 TLot.enc w' a n c (isort fR xs)→Frm (fun k=>obk a c=some k) w w'→Q a n c w'):Cl Pg 137 #[vl a n c,f] w (fun v w'=>∃a2 n2 c2,v=vl a2 n2 c2∧Q a2 n2 c2 w'):=by
 refine oI.ok ⟨h1,bW (er w) fun b1 w1 hb hat E _ _=>?_⟩;have hlt:∀k,obk a c=some k→k<w.heap.size:=fun k hk=>(by obtain⟨cur,hc⟩:=ho.at k hk;exact hc.lt);refine aFj (S:=fun k=>obk a c=some k) (w0:=w1) (cmpsLot hf hat fun e=>by have:=hlt _ e;omega) (fun k hk=>hk) (Nat.le_trans hn (by decide)) (ho.ext E) (Frm.refl _ _) hx fun w2 ho2 F2=>hQ _ ho2 (Ext.then E F2)
theorem aEp{w:World}{p:Addr}{st:Tstate}{M:MState}(h:StRd w p st M)(hF:Fits M)(hI:IdOk M){day:Int}(hd:(M.lots.filter (oC day)).length≤yZ){Q:Option Addr→Nat→Nat→World→Prop}
 (hQ:∀a n c w',Own 45 10 TLot.enc w' a n c (M.due day)→(∀k,obk a c=some k→w.heap.size≤k)→Ext w w'→Q a n c w'):Cl Pg 75 #[vP (some p),vi day] w (fun v w'=>∃a n c,v=vl a n c∧Q a n c w'):=by
 refine fZ.ok ⟨p,rfl,_,_,_,h.cells.at 3 rfl,st.lots_n+1,?_⟩;have hl:=h.lots;have hn:st.lots_n≤1000000:=by rw[hl.1];exact hF.lots
 have key:∀m i w' a n c,i+m=st.lots_n→Ext w w'→Own 45 10 TLot.enc w' a n c ((M.lots.take i).filter (oC day))→(∀k,obk a c=some k→w.heap.size≤k)→fZ.l1 Q day st.lots_a st.lots_n (m+1) a n c (i:Nat) w':=by
  intro m;induction m with
  | zero=>
   intro i w' a n c hi E ho hk;unfold fZ.l1;refine dK (by omega) ?_;rw[List.take_of_length_le (by have:=hl.1;omega)]at ho;refine aBy key138 rfl ho (by rw[ho.1];exact hd) (fun x hx y hy=>hI.inj x (List.mem_filter.1 hx).1 y (List.mem_filter.1 hy).1) fun w2 ho2 F2=>hQ _ _ _ _ ho2 hk (Frm.trans E F2 fun k hk' e=>by have:=hk k e;omega)
  | succ m ih=>
   intro i w' a n c hi E ho hk;unfold fZ.l1;refine dQ (by omega) ((hl.ext E).ix (by omega) (by omega) fun a0 x ha hx hc=>⟨x,hc,bW E fun b1 w2 hb1 hat E2 e2 _=>lW E2 hat hb1 fun w3 hat E3 f3=>?_⟩);simp only[Int.toNat_natCast]at hx;obtain⟨hlt,hx'⟩:=List.getElem?_eq_some_iff.1 hx;have htk:(M.lots.take (i+1)).filter (oC day)=(M.lots.take i).filter (oC day)++if oC day x then [x]else []:=by
    rw[List.take_succ,hx,List.filter_append];simp[List.filter_cons]
   have hn1:n≤i:=by rw[ho.1];exact Nat.le_trans (List.length_filter_le _ _) (by rw[List.length_take];omega)
   have ho3:Own 45 10 TLot.enc w3 a n c _:=(ho.ext e2).frm f3 fun k hk' e=>(by
    obtain⟨cur,hc⟩:=ho.at k hk';have:=hc.lt;subst e;omega)
   rw[fO (n:=st.lots_n) (by omega) (by omega) (by simp only[maxLen];omega)];have hw:((x.State==(1:Int))&&(decide (x.Due≤day)))=oC day x:=rfl;rw[hw];refine ifb ?_;split
   ·rename_i hdue;rw[if_pos hdue]at htk;refine bW E3 fun b2 w4 hb2 hat2 E4 e4 _=>?_;refine jT aBa iQ (fun x=>iN rfl) (ho3.ext e4) (Rd.one (enc:=TLot.enc) (sz:=10) x hat2) (by omega) (by simp only[maxLen];omega) fun a2 c2 w5 ho5 F5 hb5=>?_;rw[←htk]at ho5;refine ih (i+1) w5 a2 (n+1) c2 (by omega) (Frm.trans E4 F5 fun k hk' e=>by have:=hk k e;omega) ho5 fun k hk'=>?_;exact(hb5 k hk').elim (hk k) fun h=>Nat.le_trans E4.size h
   ·rename_i hdue;rw[if_neg hdue,List.append_nil]at htk;rw[←htk]at ho3;exact ih (i+1) w3 a n c (by omega) E3 ho3 hk
 exact key _ 0 w none 0 0 (by omega) (er w) (by simpa using Own.nil) (fun k hk=>by cases hk)
theorem xG(M:MState)(l:List (Int × Int))(x:Int × Int):M.forfeits (l++[x])=(M.forfeits l).forfeit x.1 x.2:=by
 unfold MState.forfeits;rw[List.foldl_append];rfl
theorem aFa{w:World}{R:Nat→Prop}{b:Nat}{st:Tstate}{M:MState}(h:StIn w R b st M)(hS:Small M)(hI:IdOk M){day:Int}(hd:(M.lots.filter (oC day)).length≤yZ){Q:Int→World→Prop}
 (hQ:∀w' R' st',StIn w' R' b st' (M.advance day)→Step R w R' w'→Q (M.due day).length w'):Cl Pg 140 #[vp ⟨b,0,none⟩,vi day] w (fun v w'=>∃r,v=vi r∧Q r w'):=by
 refine fC.ok (aEp h.rd hS.fits hI hd fun a n c w1 ho hk E=>⟨n+1,?_⟩);have hn:n≤100000:=by rw[ho.1,MState.due_len];exact hd
 have hlen:n=(M.due day).length:=ho.1;have key:∀m i w' R' st',i+m=n→StIn w' R' b st' (M.forfeits (((M.due day).take i).map fun x=>(x.Id,x.Due)))→Step R w R' w'→w1.heap.size≤w'.heap.size→Own 45 10 TLot.enc w' a n c (M.due day)→(∀k,obk a c=some k→¬R' k)→fC.l1 Q (some ⟨b,0,none⟩) day a n (m+1) (i:Nat) w':=by
  intro m;induction m with
  | zero=>
   intro i w' R' st' hi h' s' hsz ho' hR';unfold fC.l1;refine dK (by omega) ⟨_,rfl,nC h'.blk (by simp[Tstate.enc]) fun w6 hat6 F6=>?_⟩;rw[List.take_of_length_le (by omega)]at h';have h6:StIn w6 R' b {st' with day:=day} (M.advance day):=by
    have hT:∀{k:Nat} {cur:Array Value} {T:Nat},At w' k (.cells cur T (0,0))→T≠120→¬k=b:=fun h1 hT=>h1.neT h'.blk fun e=>hT (Option.some.inj e);refine⟨hat6,rfl,h'.units.frm F6 (fun _=>id) (fun k cur hk=>hT hk (by decide)) fun k cur hk=>hT hk (by decide),h'.terms.frm F6 fun k hk=>?_,h'.lots.frm F6 fun k hk=>?_,h'.postings.frm F6 fun k hk=>?_,h'.rB,h'.rUnits,h'.rTerms,h'.rLots,h'.rPostings,fun k hk=>Nat.lt_of_lt_of_le (h'.rLt k hk) F6.size⟩
    ·obtain⟨cur,hc⟩:=h'.terms.at k hk;exact hT hc (by decide)
    ·obtain⟨cur,hc⟩:=h'.lots.at k hk;exact hT hc (by decide)
    ·obtain⟨cur,hc⟩:=h'.postings.at k hk;exact hT hc (by decide)
   rw[hlen];exact hQ _ _ _ h6 (s'.trans (Step.of (F6.mono fun k _ e=>by subst e;exact h'.rB)))
  | succ m ih=>
   intro i w' R' st' hi h' s' hsz ho' hR';unfold fC.l1;refine dQ (by omega) ((ho'.rd iQ).ix (by omega) (by omega) fun a0 x ha hx hc=>⟨x,hc,bW (er w') fun b1 w3 hb1 hat E3 _ _=>lW E3 hat hb1 fun w4 hat E4 _=>?_⟩);simp only[Int.toNat_natCast]at hx;have hxm:=MState.due_mem (List.mem_of_getElem? hx);have hr:=hI.range hxm.1;have hkp:=mY (((M.due day).take i).map fun x=>(x.Id,x.Due)) M;have htk:((M.due day).take (i+1)).map (fun x=>(x.Id,x.Due))=((M.due day).take i).map (fun x=>(x.Id,x.Due))++[(x.Id,x.Due)]:=by
    rw[List.take_succ,hx];simp
   refine aCF (h'.ext E4) (hkp.fits hS (by simp;omega)) hr.1 (by rw[hkp.lots];exact hr.2) fun w5 R5 st5 h5 s5=>?_;rw[←xG M _ (x.Id,x.Due),←htk]at h5;rw[fO (n:=n) (by omega) (by omega) (by simp only[maxLen];omega)];have hk4:∀k,obk a c=some k→k<w4.heap.size:=fun k hk=>(by obtain⟨cur,hc⟩:=(ho'.ext E4).at k hk;exact hc.lt);refine ih (i+1) w5 R5 st5 (by omega) h5 (s'.trans ((Ext.step E4).trans s5)) (Nat.le_trans hsz (Nat.le_trans E4.size s5.frm.size)) ((ho'.ext E4).frm s5.frm hR') fun k hk=>s5.out (hk4 k hk) (hR' k hk)
 exact key _ 0 w1 R st (by omega) (by simpa[MState.forfeits]using h.ext E) (Ext.step E) (Nat.le_refl _) ho fun k hk' hR=>by have:=hk k hk';have:=h.rLt k hR;omega
theorem aGE{w:World}{R:Nat→Prop}{b:Nat}{st:Tstate}{M:MState}(h:StIn w R b st M)(hS:Small M)(hI:IdOk M)(hd:(M.lots.filter (oC M.day)).length≤yZ){Q:World→Prop}
 (hQ:∀w' R' st',StIn w' R' b st' M.late→Step R w R' w'→Q w'):Cl Pg 92 #[vp ⟨b,0,none⟩] w (fun v w'=>v= .tuple #[]∧Q w'):=by
 refine iC.ok ⟨_,rfl,_,h.rd.cells.at 0 rfl,?_⟩;rw[h.day];refine aEp h.rd hS.fits hI hd fun a n c w1 ho hk E=>⟨n+1,?_⟩;have hn:n≤100000:=by rw[ho.1,MState.due_len];exact hd
 have hlen:n=(M.due M.day).length:=ho.1;have key:∀m i w' R' st',i+m=n→StIn w' R' b st' (M.forfeits (((M.due M.day).take i).map fun x=>(x.Id,M.day)))→Step R w R' w'→Own 45 10 TLot.enc w' a n c (M.due M.day)→(∀k,obk a c=some k→¬R' k)→iC.l1 Q (some ⟨b,0,none⟩) a n (m+1) (i:Nat) w':=by
  intro m;induction m with
  | zero=>
   intro i w' R' st' hi h' s' ho' hR';unfold iC.l1;rw[List.take_of_length_le (by omega)]at h';exact dK (by omega) (hQ _ _ _ h' s')
  | succ m ih=>
   intro i w' R' st' hi h' s' ho' hR';unfold iC.l1;have hkp:=mY (((M.due M.day).take i).map fun x=>(x.Id,M.day)) M;refine dQ (by omega) ((ho'.rd iQ).ix (by omega) (by omega) fun a0 x ha hx hc=>⟨x,hc,bW (er w') fun b1 w3 hb1 hat E3 _ _=>lW E3 hat hb1 fun w4 hat E4 _=>iS E4 fun w5 E5 _=>⟨_,rfl,_,(h'.ext E5).rd.cells.at 0 rfl,?_⟩⟩);rw[h'.day,hkp.day];simp only[Int.toNat_natCast]at hx;have hxm:=MState.due_mem (List.mem_of_getElem? hx);have hr:=hI.range hxm.1
   have htk:((M.due M.day).take (i+1)).map (fun x=>(x.Id,M.day))=((M.due M.day).take i).map (fun x=>(x.Id,M.day))++[(x.Id,M.day)]:=by
    rw[List.take_succ,hx];simp
   refine aCF (h'.ext E5) (hkp.fits hS (by simp;omega)) hr.1 (by rw[hkp.lots];exact hr.2) fun w6 R6 st6 h6 s6=>?_;rw[←xG M _ (x.Id,M.day),←htk]at h6;rw[fO (n:=n) (by omega) (by omega) (by simp only[maxLen];omega)];have hk5:∀k,obk a c=some k→k<w5.heap.size:=fun k hk=>(by obtain⟨cur,hc⟩:=(ho'.ext E5).at k hk;exact hc.lt);exact ih (i+1) w6 R6 st6 (by omega) h6 (s'.trans ((Ext.step E5).trans s6)) ((ho'.ext E5).frm s6.frm hR') fun k hk=>s6.out (hk5 k hk) (hR' k hk)
 exact key _ 0 w1 R st (by omega) (by simpa[MState.forfeits]using h.ext E) (Ext.step E) ho fun k hk' hR=>by have:=hk k hk';have:=h.rLt k hR;omega
end Go.Proofs.YtcbijkakoepglaaGreat
namespace Go.Proofs.YtcbijkakoepglaaGreat
open Go Go.Wx
structure Led(w:World)(R:Nat→Prop)(b:Nat)(st:Tstate)(M:MState):Prop where
 blk:At w b (.cells st.enc.toArray 122 (0,0))
 free:StFree w R st M
 out:¬R b
theorem StFree.frm{w w':World}{R S:Nat→Prop}{st:Tstate}{M:MState}(h:StFree w R st M)(F:Frm S w w')(hS:∀k,R k→¬S k):StFree w' R st M:=by
 refine⟨h.day,?_,h.terms.frm F fun k hk=>hS k (h.rTerms k hk),h.lots.frm F fun k hk=>hS k (h.rLots k hk),h.postings.frm F fun k hk=>hS k (h.rPostings k hk),h.rUnits,h.rTerms,h.rLots,h.rPostings,fun k hk=>Nat.lt_of_lt_of_le (h.rLt k hk) F.size⟩;obtain⟨ts,h1,h2,h3,h4⟩:=h.units;refine⟨ts,h1.frm F fun k hk=>hS k (h.rUnits k hk),h2,fun i t u ht hu=>?_,h4⟩;obtain⟨e1,e2,h5,h6⟩:=h3 i t u ht hu;exact⟨e1,e2,h5.frm F fun k hk=>hS k (h6 k hk),h6⟩
theorem Led.rd{w:World}{R:Nat→Prop}{b:Nat}{st:Tstate}{M:MState}(h:Led w R b st M):StRd w ⟨b,0,none⟩ st M:=
 ⟨Cells.of_at h.blk rfl,h.free.day,h.free.units.rd,h.free.terms.rd aA9,h.free.lots.rd iQ,h.free.postings.rd m0⟩
theorem Led.frm{w w':World}{R S:Nat→Prop}{b:Nat}{st:Tstate}{M:MState}(h:Led w R b st M)(F:Frm S w w')(hS:∀k,R k→¬S k)(hb:¬S b):Led w' R b st M:=
 ⟨h.blk.frm F hb,h.free.frm F hS,h.out⟩
theorem Led.ext{w w':World}{R:Nat→Prop}{b:Nat}{st:Tstate}{M:MState}(h:Led w R b st M)(E:Ext w w'):Led w' R b st M:=h.frm E (fun _ _=>id) id
theorem StFree.into{w w':World}{R S:Nat→Prop}{b:Nat}{st:Tstate}{M:MState}(h:StFree w R st M)(F:Frm S w w')(hS:∀k,R k→¬S k)(hat:At w' b (.cells st.enc.toArray 120 (0,0))):StIn w' (fun k=>R k∨k=b) b st M:=by
 have h':=h.frm F hS;refine⟨hat,h'.day,?_,h'.terms,h'.lots,h'.postings,.inr rfl,fun k hk=> .inl (h'.rUnits k hk),fun k hk=> .inl (h'.rTerms k hk),fun k hk=> .inl (h'.rLots k hk),fun k hk=> .inl (h'.rPostings k hk),?_⟩
 ·obtain⟨ts,h1,h2,h3,h4⟩:=h'.units;exact⟨ts,h1,h2,fun i t u ht hu=>⟨(h3 i t u ht hu).1,(h3 i t u ht hu).2.1,(h3 i t u ht hu).2.2.1,fun k hk=> .inl ((h3 i t u ht hu).2.2.2 k hk)⟩,h4⟩
 ·rintro k (hk | hk)
  ·exact h'.rLt k hk
  ·subst hk;exact hat.lt
theorem StIn.free{w:World}{R:Nat→Prop}{b:Nat}{st:Tstate}{M:MState}(h:StIn w R b st M):StFree w R st M:=
 ⟨h.day,h.units,h.terms,h.lots,h.postings,h.rUnits,h.rTerms,h.rLots,h.rPostings,h.rLt⟩
theorem Clv.mono'{P:Program}{f:Value}{args:Array Value}{w:World}{R R':Value→World→Prop}(h:Clv P f args w R)(hr:∀v w',R v w'→R' v w'):Clv P f args w R':=by
 obtain⟨g,c,e,hc,h⟩:=h;exact⟨g,c,e,hc,h.mono hr⟩
def lF(C:Nat→Prop)(X:Int→MState→World→Prop)(w1:World)(R1:Nat→Prop)(b1:Nat)(r:Int)(w2:World):Prop:=
 ∃M2 R2 st2,StIn w2 R2 b1 st2 M2∧(∀k,R2 k→R1 k∨w1.heap.size≤k)∧Frm (fun k=>R1 k∨C k) w1 w2∧X r M2 w2
def zW(f:Value)(w:World)(C:Nat→Prop)(M:MState)(X:Int→MState→World→Prop):Prop:=
 ∀w1 R1 b1 st1,StIn w1 R1 b1 st1 M→(∀k,R1 k→w.heap.size≤k)→Ext w w1→
  Clv Pg f #[vp ⟨b1,0,none⟩] w1 (fun v w2=>∃r,v=vi r∧lF C X w1 R1 b1 r w2)
theorem aBz{w:World}{R:Nat→Prop}{bL:Nat}{st:Tstate}{M:MState}(h:Led w R bL st M)(hS:Small M)(hI:IdOk M){day:Int}{f:Value}{C:Nat→Prop}(hC:¬C bL)(hd:0≤day→day≤100000→M.day≤day→(M.lots.filter (oC day)).length≤yZ){X:Int→MState→World→Prop}
 (hdo:0≤day→day≤100000→M.day≤day→zW f w C (M.advance day) X)
 (hX:∀M2 w2 w6,X 0 M2 w2→Frm (fun k=>k=bL) w2 w6→(∃cur,At w2 bL (.cells cur 122 (0,0)))→X 0 M2 w6) {Q:Int→World→Prop}
 (hQ1:day<0∨100000<day→Q 1 w) (hQ7:0≤day→day≤100000→day<M.day→Q 7 w)
 (hQe:0≤day→day≤100000→M.day≤day→∀r M2 w2,r≠0→X r M2 w2→Frm C w w2→Q r w2)
 (hQl:0≤day→day≤100000→M.day≤day→∀M2 w2,X 0 M2 w2→20000<M2.postings.length→Frm C w w2→Q 2 w2)
 (hQs:0≤day→day≤100000→M.day≤day→∀M2 w2 R2 st2,X 0 M2 w2→M2.postings.length≤20000→Led w2 R2 bL st2 M2→(∀k,R2 k→w.heap.size≤k)→Frm (fun k=>C k∨k=bL) w w2→Q 0 w2):
 Cl Pg 76 #[vp ⟨bL,0,none⟩,vi day,f] w (fun v w'=>∃r,v=vi r∧Q r w'):=by
 refine mP.ok (jJ (ifb ?_));split
 ·rename_i hb;exact hQ1 (by simpa using hb)
 rename_i hb;have hb:0≤day∧day≤100000:=by simpa using hb
 obtain⟨hb1,hb2⟩:=hb;refine⟨_,rfl,_,h.rd.cells.at 0 rfl,ifb ?_⟩;rw[h.free.day];split
 ·rename_i h7;exact hQ7 hb1 hb2 (by simpa using h7)
 rename_i h7;have h7:M.day≤day:=by simpa using h7
 refine⟨_,rfl,st,h.rd.cells,aGV h.rd hS.fits fun w1 R1 st1 h1 hR1 E1=>bW E1 fun b1 w2 hb1' hat2 E2 e2 hn1=>nC hat2 (by simp[Tstate.enc]) fun w3 hat3 F3=>?_⟩;have hnb:¬R1 b1:=fun hR=>by have:=h1.rLt b1 hR;omega
 have h3:=(h1.frm e2 fun _ _=>id).into F3 (fun k hk e=>hnb (by subst e;exact hk)) hat3;have E3:Ext w w3:=Frm.trans E2 F3 fun k hk e=>by omega
 refine aFa h3 hS hI (hd hb1 hb2 h7) fun w4 R4 st4 h4 s4=>?_;have hR4:∀k,R4 k→w.heap.size≤k:=fun k hk=>(s4.sub k hk).elim (fun h=>h.elim (hR1 k) fun e=>by omega) fun h=>Nat.le_trans E3.size h;have E4:Ext w w4:=Frm.trans E3 s4.frm fun k hk hR=>by
  rcases hR with hR | hR
  ·have:=hR1 k hR;omega
  ·omega
 refine Clv.mono' (hdo hb1 hb2 h7 w4 R4 b1 st4 h4 hR4 E4) ?_;rintro v w5 ⟨r,rfl,M2,R2,st2,h5,hR5,F5,hx⟩;refine⟨r,rfl,ifb ?_⟩;have hC5:Frm C w w5:=(Frm.mono E4 fun _ _ h=>h.elim).trans F5 fun k hk hk'=>hk'.elim (fun hR=>by have:=hR4 k hR;omega) id;split
 ·rename_i hr;exact hQe hb1 hb2 h7 r M2 w5 (by simpa using hr) hx hC5
 rename_i hr;obtain rfl:r=0:=by simpa using hr
 refine⟨_,_,_,h5.rd.cells.at 4 rfl,ifb ?_⟩;have hp:=h5.postings.1;split
 ·rename_i hl;exact hQl hb1 hb2 h7 M2 w5 hx (by have:=of_decide_eq_true hl;omega) hC5
 rename_i hl;have hl:M2.postings.length≤20000:=by simp at hl;omega
 have hat5:=h.blk.frm hC5 hC;refine⟨st2,h5.rd.cells,_,rfl,nC hat5 (by simp[Tstate.enc]) fun w6 hat6 F6=>?_⟩;have hR2:∀k,R2 k→w.heap.size≤k:=fun k hk=>(hR5 k hk).elim (hR4 k) fun h=>Nat.le_trans E4.size h;have hbL:=h.blk.lt;have hout:¬R2 bL:=fun hR=>by have:=hR2 bL hR;omega
 exact hQs hb1 hb2 h7 M2 w6 R2 st2 (hX M2 w5 w6 hx F6 ⟨_,hat5⟩) hl ⟨hat6,h5.free.frm F6 fun k hk e=>hout (by subst e;exact hk),hout⟩ hR2 ((hC5.mono fun _ _ h=> .inl h).trans F6 fun k _ e=> .inr e)
def MState.oper(M:MState)(day:Int)(g:MState→Int × MState):Int × MState:=
 if day<0∨100000<day then(1,M)else if day<M.day then(7,M)else
  if(g (M.advance day)).1≠0 then((g (M.advance day)).1,M)else if 20000<(g (M.advance day)).2.postings.length then(2,M)else(0,(g (M.advance day)).2)
def Ret(g:Int × MState)(r:Int)(M2:MState)(_:World):Prop:=(r,M2)=g
def aBc(M:MState)(day:Int):Prop:=0≤day→day≤100000→M.day≤day→(M.lots.filter (oC day)).length≤yZ
theorem Small.dueOk{M:MState}(h:Small M)(day:Int):aBc M day:=fun _ _ _=>Nat.le_trans (List.length_filter_le _ _) h.lots
theorem uQ{w:World}{R:Nat→Prop}{bL:Nat}{st:Tstate}{M:MState}(h:Led w R bL st M)(hS:Small M)(hI:IdOk M){day:Int}(hd:aBc M day){f:Value}{g:MState→Int × MState}
 (hdo:0≤day→day≤100000→M.day≤day→zW f w (fun _=>False) (M.advance day) (Ret (g (M.advance day)))) {Q:Int→World→Prop}
 (hQ:∀w' R' st',Led w' R' bL st' (M.oper day g).2→(∀k,R' k→R k∨w.heap.size≤k)→Frm (fun k=>k=bL) w w'→Q (M.oper day g).1 w'):
 Cl Pg 76 #[vp ⟨bL,0,none⟩,vi day,f] w (fun v w'=>∃r,v=vi r∧Q r w'):=by
 refine aBz h hS hI (C:=fun _=>False) id hd hdo (fun _ _ _ h _ _=>h) ?_ ?_ ?_ ?_ ?_
 ·intro hb;have e:M.oper day g=(1,M):=by unfold MState.oper;rw[if_pos hb]
  rw[e]at hQ;exact hQ _ _ _ h (fun k=> .inl) (Frm.refl _ _)
 ·intro h1 h2 h3;have e:M.oper day g=(7,M):=by unfold MState.oper;rw[if_neg (by omega),if_pos h3]
  rw[e]at hQ;exact hQ _ _ _ h (fun k=> .inl) (Frm.refl _ _)
 ·intro h1 h2 h3 r M2 w2 hr hx F;have e:M.oper day g=(r,M):=by unfold MState.oper;rw[if_neg (by omega),if_neg (by omega),←show _=_ from hx,if_pos hr]
  rw[e]at hQ;exact hQ _ _ _ (h.frm F (fun _ _=>id) id) (fun k=> .inl) (Ext.frm F)
 ·intro h1 h2 h3 M2 w2 hx hl F;have e:M.oper day g=(2,M):=by unfold MState.oper;rw[if_neg (by omega),if_neg (by omega),←show _=_ from hx,if_neg (by simp),if_pos hl]
  rw[e]at hQ;exact hQ _ _ _ (h.frm F (fun _ _=>id) id) (fun k=> .inl) (Ext.frm F)
 ·intro h1 h2 h3 M2 w2 R2 st2 hx hl h' hR F;have e:M.oper day g=(0,M2):=by unfold MState.oper;rw[if_neg (by omega),if_neg (by omega),←show _=_ from hx,if_neg (by simp),if_neg (by simpa using hl)]
  rw[e]at hQ;exact hQ _ _ _ h' (fun k hk=> .inr (hR k hk)) (F.mono fun k _ hk=>hk.elim False.elim id)
end Go.Proofs.YtcbijkakoepglaaGreat
namespace Go.Proofs.YtcbijkakoepglaaGreat
open Go Go.Wx
set_option maxRecDepth 100000
def jG.j1(Q:Bool→World→Prop)(s:ByteArray)(v1:Bool)(w1:World):Prop:=(
 Ifb v1
 (Q false w1)
 (Cl Pg 123 #[vs s,.func (.func 124) #[] #[]] w1 (fun v w2=>∃r1,v=vb r1∧Q (!r1) w2)))
def jG.R(Q:Bool→World→Prop)(s:ByteArray)(w:World):Prop:=(
 Ifb (decide (((s.size:Nat):Int)<1))
 (jG.j1 Q s true w)
 (Ifb (decide (((s.size:Nat):Int)>24))
 (jG.j1 Q s true w)
 (IxS s (0:Int) fun x1=>
 Ifb (x1==32)
 (jG.j1 Q s true w)
 (IxS s (IntKind.wrap .i64 (((s.size:Nat):Int)-1)) fun x2=>
 jG.j1 Q s (x2==32) w))))
theorem jG.ok{Q:Bool→World→Prop}{s:ByteArray}{w:World}(h:jG.R Q s w):Cl Pg 66 #[vs s] w (fun v w'=>∃r0,v=vb r0∧Q r0 w'):=by
 refine aI (args:=[vs s]) Tryz.func66 ?_
 unfold jG.R at h
 refine aC<|zp 1<|aD<|aL<|fD (fun e w1=>∃(e0:Env) (v1:Bool),e=upds e0 [(0,vs s),(23,vb v1)]∧jG.j1 Q s v1 w1) ?_ ?_
 refine aW<|zp 4<|zs 6 h (fun h=>?_) fun h=>?_
 exact zp 17<|aD<|⟨_,true,ag,h⟩
 refine zp 5<|zs 11 h (fun h=>?_) fun h=>?_
 exact zp 12<|aD<|⟨_,true,ag,h⟩
 refine zp 1<|zj h fun x1 h=>zp 3<|zs 16 h (fun h=>?_) fun h=>?_
 exact zp 7<|aD<|⟨_,true,ag,h⟩
 exact zp 4<|zj h fun x2 h=>zp 2<|aD<|⟨_,(x2==32),ag,h⟩
 clear h
 rintro _ w1 ⟨e0,v1,rfl,h⟩
 unfold jG.j1 at h
 refine zc h (fun h=>?_) fun h=>?_
 exact aC<|zp 1<|aD<|aN<|aH<|z1 ⟨_,rfl,h⟩
 refine aJ<|aC<|zp 1<|zk h ?_
 rintro _ w2 ⟨r1,rfl,h⟩
 exact zp 2<|aD<|aN<|z1 ⟨_,rfl,h⟩
def nI.R(Q:Bool→World→Prop)(s:ByteArray)(f:Value)(w:World):Prop:=(
 Cl Pg 171 #[vs s,f] w (fun v w1=>∃r1,v=vi r1∧Q (decide (r1≥0)) w1))
theorem nI.ok{Q:Bool→World→Prop}{s:ByteArray}{f:Value}{w:World}(h:nI.R Q s f w):Cl Pg 123 #[vs s,f] w (fun v w'=>∃r0,v=vb r0∧Q r0 w'):=by
 refine aI (args:=[vs s,f]) Tryz.func123 ?_
 unfold nI.R at h
 refine aC<|zp 1<|aD<|aC<|zp 2<|zk h ?_
 rintro _ w1 ⟨r1,rfl,h⟩
 exact zp 2<|aD<|aN<|z1 ⟨_,rfl,h⟩
def pB.R(Q:Bool→World→Prop)(c:Int)(w:World):Prop:=(
 Q (((((decide (c<97))||(decide (c>122)))&&((decide (c<48))||(decide (c>57))))&&(c !=32))&&(c !=45)) w)
theorem pB.ok{Q:Bool→World→Prop}{c:Int}{w:World}(h:pB.R Q c w):Cl Pg 124 #[.int .i32 c] w (fun v w'=>∃r0,v=vb r0∧Q r0 w'):=by
 refine aI (args:=[.int .i32 c]) Tryz.func124 ?_
 unfold pB.R at h
 refine aC<|zp 1<|aD<|aC<|zp 3<|jV (fun e w_=>∃(e0:Env),e=upds e0 [(2,vb (((((decide (c<97))||(decide (c>122)))&&((decide (c<48))||(decide (c>57))))&&(c !=32))&&(c !=45)))]∧w=w_) ?_ ?_
 clear h
 refine dO 5 (b:=decide (c<97)) rfl (fun hb0=>?_) (fun hb0=>?_)
 refine zp 7<|dO 12 (b:=decide (c<48)) rfl (fun hb1=>?_) (fun hb1=>?_)
 refine zp 9<|dO 21 (b:=(c !=32)) rfl (fun hb2=>?_) (fun hb2=>?_)
 refine zp 4 ?_
 rw[hb0,hb1,hb2]
 exact aD ⟨_,ag,rfl⟩
 refine zp 4 ?_
 rw[hb0,hb1,hb2]
 exact aD ⟨_,ag,rfl⟩
 refine zp 5<|dO 17 (b:=decide (c>57)) rfl (fun hb2=>?_) (fun hb2=>?_)
 refine zp 4<|dO 21 (b:=(c !=32)) rfl (fun hb3=>?_) (fun hb3=>?_)
 refine zp 4 ?_
 rw[hb0,hb1,hb2,hb3]
 exact aD ⟨_,ag,rfl⟩
 refine zp 4 ?_
 rw[hb0,hb1,hb2,hb3]
 exact aD ⟨_,ag,rfl⟩
 refine zp 8 ?_
 rw[hb0,hb1,hb2]
 exact aD ⟨_,ag,rfl⟩
 refine zp 4<|dO 9 (b:=decide (c>122)) rfl (fun hb1=>?_) (fun hb1=>?_)
 refine zp 3<|dO 12 (b:=decide (c<48)) rfl (fun hb2=>?_) (fun hb2=>?_)
 refine zp 9<|dO 21 (b:=(c !=32)) rfl (fun hb3=>?_) (fun hb3=>?_)
 refine zp 4 ?_
 rw[hb0,hb1,hb2,hb3]
 exact aD ⟨_,ag,rfl⟩
 refine zp 4 ?_
 rw[hb0,hb1,hb2,hb3]
 exact aD ⟨_,ag,rfl⟩
 refine zp 5<|dO 17 (b:=decide (c>57)) rfl (fun hb3=>?_) (fun hb3=>?_)
 refine zp 4<|dO 21 (b:=(c !=32)) rfl (fun hb4=>?_) (fun hb4=>?_)
 refine zp 4 ?_
 rw[hb0,hb1,hb2,hb3,hb4]
 exact aD ⟨_,ag,rfl⟩
 refine zp 4 ?_
 rw[hb0,hb1,hb2,hb3,hb4]
 exact aD ⟨_,ag,rfl⟩
 refine zp 8 ?_
 rw[hb0,hb1,hb2,hb3]
 exact aD ⟨_,ag,rfl⟩
 refine zp 16 ?_
 rw[hb0,hb1]
 exact aD ⟨_,ag,rfl⟩
 rintro _ _ ⟨e0,rfl,rfl⟩
 exact aN<|z1 ⟨_,rfl,h⟩
def pD.R(Q:Int→World→Prop)(s:ByteArray)(f:Value)(w:World):Prop:=(
 Cl Pg 187 #[vs s,f,vb true] w (fun v w1=>∃r1,v=vi r1∧Q r1 w1))
theorem pD.ok{Q:Int→World→Prop}{s:ByteArray}{f:Value}{w:World}(h:pD.R Q s f w):Cl Pg 171 #[vs s,f] w (fun v w'=>∃r0,v=vi r0∧Q r0 w'):=by
 refine aI (args:=[vs s,f]) Tryz.func171 ?_
 unfold pD.R at h
 refine aC<|zp 1<|aD<|aC<|zp 2<|zk h ?_
 rintro _ w1 ⟨r1,rfl,h⟩
 exact zp 1<|aD<|aN<|z1 ⟨_,rfl,h⟩
def iJ.l1(Q:Int→World→Prop)(f:Value)(truth:Bool)(it1:Nat):Nat→World→Prop
 | 0,_=>False
 | nl1+1,w2=>(
 (∃(x1:Int),∃(x2:Int),∃w3,(Instr.next (.pointer (some ⟨it1,0,none⟩)) true 0).run Pg w2= .ok (.tuple #[vb true,vi x1,.int .i32 x2]) w3∧Clv Pg f #[.int .i32 x2] w3 (fun v w4=>∃r1,v=vb r1∧Ifb (r1==truth)
 (Q x1 w4)
 ((iJ.l1 Q f truth it1 nl1) w4)))∨
 (∃w5,(Instr.next (.pointer (some ⟨it1,0,none⟩)) true 0).run Pg w2= .ok (.tuple #[.bool false]) w5∧Q (-1) w5))
def iJ.R(Q:Int→World→Prop)(s:ByteArray)(f:Value)(truth:Bool)(w:World):Prop:=(
 ∃(it1:Nat),∃w1,(Instr.range 9 (vs s)).run Pg w= .ok (.pointer (some ⟨it1,0,none⟩)) w1∧
 ∃k,iJ.l1 Q f truth it1 k w1)
theorem iJ.ok{Q:Int→World→Prop}{s:ByteArray}{f:Value}{truth:Bool}{w:World}(h:iJ.R Q s f truth w):Cl Pg 187 #[vs s,f,vb truth] w (fun v w'=>∃r0,v=vi r0∧Q r0 w'):=by
 refine aI (args:=[vs s,f,vb truth]) Tryz.func187 ?_
 unfold iJ.R at h
 refine aC<|zp 1<|aD<|aL<|aC<|zp 1 ?_
 obtain⟨it1,w1,hrun,h⟩:=h
 refine m5 rfl rfl (aB0 rfl rfl hrun) ?_
 clear hrun
 refine aD<|aR ?_
 obtain⟨nl1,h⟩:=h
 refine bS (fun k e w2=>∃(e0:Env),e=upds e0 [(1,f),(2,vb truth),(10,vp ⟨it1,0,none⟩)]∧iJ.l1 Q f truth it1 k w2) nl1 ?_ ?_ ?_
 rintro _ _ ⟨_,_,h⟩
 exact h
 exact⟨_,ag,h⟩
 clear h nl1
 rintro nl1 _ w2 ⟨e0,rfl,h⟩
 unfold iJ.l1 at h
 refine aC ?_
 rcases h with⟨x1,x2,w3,hrun,h⟩ | ⟨w5,hrun,h⟩
 refine m5 rfl rfl (wR rfl rfl hrun) ?_
 clear hrun
 refine zp 1<|aD<|aL<|wF (t:=true) rfl<|aJ<|aR<|aC<|zp 4<|aD<|aC<|zp 2<|zx h ?_
 rintro _ w4 ⟨r1,rfl,h⟩
 refine zp 2<|aD<|zc h (fun h=>?_) fun h=>?_
 exact aC<|zp 2<|aD<|aN<|bD<|aH<|bD<|aH<|z1 ⟨_,rfl,h⟩
 exact aJ<|aG<|⟨_,ag,h⟩
 refine m5 rfl rfl (wR rfl rfl hrun) ?_
 clear hrun
 exact zp 1<|aD<|aL<|wF (t:=false) rfl<|dE<|aU<|aC<|zp 1<|aD<|aN<|z1 ⟨_,rfl,h⟩
end Go.Proofs.YtcbijkakoepglaaGreat
namespace Go.Proofs.YtcbijkakoepglaaGreat
open Go Go.Wx
def aB9(c:Int):Bool:=((((decide (c<(97:Int)))||(decide (c>(122:Int))))&&((decide (c<(48:Int)))||(decide (c>(57:Int)))))&&(c !=(32:Int)))&&(c !=(45:Int))
def qG(s:ByteArray):Bool:=s.data.toList.all fun b=> !aB9 b.toNat
def named(s:ByteArray):Bool:=
 if s.size<1 then false else if s.size>24 then false else if s.data[0]?.map (·.toNat)==some 32 then false else if s.data[s.size-1]?.map (·.toNat)==some 32 then false else qG s
theorem zH{c:Int}(h:123≤c):aB9 c=true:=by unfold aB9;simp;omega
theorem aGB{w:World}{b:Nat}{s:ByteArray}{pos:Nat}{ty:TypeId}(h:At w b (.stringIter s pos))(hp:pos<s.size):
 (Instr.next (.pointer (some ⟨b,0,none⟩)) true ty).run Pg w= .ok (.tuple #[.bool true,.int .i64 pos,.int .i32 ((Utf8.decode s pos).1:Nat)]) (lY w b (.stringIter s (pos+(Utf8.decode s pos).2))):=by
 have h':w.heap[b]? =some (.stringIter s pos):=h;simp only[Instr.next,getObj,setObj,Sem.run_bind,Sem.run,h',Result.andThen,hp,if_true];simp[goInt,Sem.run,lY]
theorem aCf{w:World}{b:Nat}{s:ByteArray}{pos:Nat}{ty:TypeId}(h:At w b (.stringIter s pos))(hp:¬pos<s.size):
 (Instr.next (.pointer (some ⟨b,0,none⟩)) true ty).run Pg w= .ok (.tuple #[.bool false]) w:=by
 have h':w.heap[b]? =some (.stringIter s pos):=h;simp[Instr.next,getObj,Sem.run,h',hp]
theorem aGH{s:ByteArray}{w:World}{Q:Int→World→Prop}(hQ:∀w' (r:Int),Ext w w'→(decide (r≥0)= !qG s)→Q r w'):Cl Pg 187 #[vs s,.func (.func 124) #[] #[],vb true] w (fun v w'=>∃r,v=vi r∧Q r w'):=by
 refine iJ.ok ?_;have hr:(Instr.range 9 (vs s)).run Pg w= .ok (.pointer (some ⟨w.heap.size,0,none⟩)) (w.iter s 0):=run_range_string w 9 s (by kernel_rfl);have hat:At (w.iter s 0) w.heap.size (.stringIter s 0):=World.iter_heap w s 0;have hE:Ext w (w.iter s 0):=nE _;refine⟨_,_,hr,s.size+1,?_⟩;generalize w.iter s 0=w1 at hat hE;have hsz:s.size=s.data.toList.length:=by show s.data.size=_;rw[Array.length_toList]
 have key:∀m pos w',pos+m=s.size→At w' w.heap.size (.stringIter s pos)→Ext w w'→(∀b∈s.data.toList.take pos,aB9 b.toNat=false)→iJ.l1 Q (.func (.func 124) #[] #[]) true w.heap.size (m+1) w':=by
  intro m;induction m with
  | zero=>
   intro pos w' hp hat E hb;unfold iJ.l1;refine .inr ⟨w',aCf hat (by omega),hQ _ _ E ?_⟩;rw[List.take_of_length_le (by omega)]at hb;have:qG s=true:=by
    unfold qG;rw[List.all_eq_true];intro x hx;rw[hb x hx];rfl
   rw[this];rfl
  | succ m ih=>
   intro pos w' hp hat E hb;unfold iJ.l1;have hlt:pos<s.size:=by omega
   have hget:s.data.toList[pos]? =some (s[pos]'hlt):=by
    rw[List.getElem?_eq_getElem (by omega)];simp[ByteArray.getElem_eq_getElem_data]
   refine .inl ⟨_,_,_,aGB hat hlt,?_⟩;have E2:Ext w (lY w' w.heap.size (.stringIter s (pos+(Utf8.decode s pos).2))):=Frm.trans E frm_setB fun k hk e=>by omega
   have hpred:aB9 ((Utf8.decode s pos).1:Nat)=aB9 ((s[pos]'hlt).toNat:Nat):=by
    by_cases ha:(s[pos]'hlt).toNat<128
    ·rw[decode_ascii s pos hlt ha]
    ·rw[zH (by have:=(decode_high s pos hlt (by omega)).1;omega),zH (by omega)]
   refine oT (pB.ok ?_);unfold pB.R;refine ifb ?_;show if(aB9 ((Utf8.decode s pos).1:Nat)==true)=true then _ else _;rw[hpred];split
   ·rename_i hbad;refine hQ _ _ E2 ?_;have:qG s=false:=by
     unfold qG;rw[List.all_eq_false];exact⟨_,List.mem_of_getElem? hget,by simpa using hbad⟩
    rw[this];simp
   ·rename_i hbad;have hbad:aB9 ((s[pos]'hlt).toNat:Nat)=false:=by simpa using hbad
    have ha:(s[pos]'hlt).toNat<128:=by
     apply Classical.byContradiction;intro h;rw[zH (by omega)]at hbad;cases hbad
    have hat2:At (lY w' w.heap.size (.stringIter s (pos+(Utf8.decode s pos).2))) w.heap.size (.stringIter s (pos+1)):=by
     rw[decode_ascii s pos hlt ha];exact hat.set
    refine ih (pos+1) _ (by omega) hat2 E2 fun b hb'=>?_;rw[List.take_succ,hget]at hb';rcases List.mem_append.1 hb' with h | h
    ·exact hb b h
    ·simp at h;subst h;exact hbad
 exact key s.size 0 w1 (by omega) hat hE (fun b hb=>by simp at hb)
theorem aEf{s:ByteArray}{w:World}{Q:Bool→World→Prop}(hQ:∀w',Ext w w'→Q (named s) w'):Cl Pg 66 #[vs s] w (fun v w'=>∃r,v=vb r∧Q r w'):=by
 have fin:∀w',Ext w w'→Q (named s) w':=hQ;refine jG.ok (ifb ?_);have jt:named s=false→jG.j1 Q s true w:=fun h=>by
  unfold jG.j1;refine jM ?_;rw[←h];exact hQ _ (er w)
 split
 ·rename_i h;have h':=of_decide_eq_true h;exact jt (by unfold named;rw[if_pos (by omega)])
 rename_i h;have h1:¬s.size<1:=by simp only[decide_eq_true_eq]at h;omega
 refine ifb ?_;split
 ·rename_i h;have h':=of_decide_eq_true h;exact jt (by unfold named;rw[if_neg h1,if_pos (by omega)])
 rename_i h;have h2:¬s.size>24:=by simp only[decide_eq_true_eq]at h;omega
 have hd:s.size=s.data.size:=rfl;have g0:s.data[0]?.map (·.toNat)=some (s[0]'(by omega)).toNat:=by
  rw[Array.getElem?_eq_getElem (by omega)];rfl
 have g1:s.data[s.size-1]?.map (·.toNat)=some (s[s.size-1]'(by omega)).toNat:=by
  rw[Array.getElem?_eq_getElem (by omega)];rfl
 refine⟨by omega,by omega,ifb ?_⟩;split
 ·rename_i h;refine jt ?_;unfold named;rw[if_neg h1,if_neg h2,g0,if_pos];have h':((s[0]'(by omega)).toNat:Int)=32:=eq_of_beq h;simp;omega
 rename_i h3;have hw:IntKind.wrap .i64 (((s.size:Nat):Int)-1)=((s.size-1:Nat):Int):=by rw[bQ (by omega) (by omega)];omega
 rw[hw];refine⟨by omega,by omega,?_⟩;simp only[Int.toNat_natCast];unfold jG.j1;refine ifb ?_;split
 ·rename_i h;have:named s=false:=by
   unfold named;rw[if_neg h1,if_neg h2,g0,if_neg,g1,if_pos]
   ·have:=eq_of_beq h;simp;omega
   ·have h3':¬((s[0]'(by omega)).toNat:Int)=32:=by simpa using h3
    simp;omega
  rw[←this];exact hQ _ (er w)
 rename_i h4;have hn:named s=qG s:=by
  unfold named;rw[if_neg h1,if_neg h2,g0,if_neg,g1,if_neg]
  ·have h4':¬((s[s.size-1]'(by omega)).toNat:Int)=32:=by simpa using h4
   simp;omega
  ·have h3':¬((s[0]'(by omega)).toNat:Int)=32:=by simpa using h3
   simp;omega
 refine nI.ok (pD.ok (Q:=fun r w=>Q (!decide (r≥0)) w) (aGH fun w' r E hr=>?_));rw[hr,Bool.not_not,←hn];exact hQ _ E
end Go.Proofs.YtcbijkakoepglaaGreat
namespace Go.Proofs.YtcbijkakoepglaaGreat
open Go Go.Wx
set_option maxRecDepth 100000
def mQ.R(Q:Int→World→Prop)(l:Option Addr)(day:Int)(name:ByteArray)(kind:Int)(w:World):Prop:=(
 Al w (.cells #[vs name] 9) fun b1 w1=>
 Al w1 (.cells #[vu kind] 5) fun b2 w2=>
 Cl Pg 76 #[vP l,vi day,.func (.func 117) #[] #[vp ⟨b1,0,none⟩,vp ⟨b2,0,none⟩]] w2 (fun v w3=>∃r1,v=vi r1∧Q r1 w3))
theorem mQ.ok{Q:Int→World→Prop}{l:Option Addr}{day:Int}{name:ByteArray}{kind:Int}{w:World}(h:mQ.R Q l day name kind w):Cl Pg 50 #[vP l,vi day,vs name,vu kind] w (fun v w'=>∃r0,v=vi r0∧Q r0 w'):=by
 refine aI (args:=[vP l,vi day,vs name,vu kind]) Tryz.func50 ?_
 unfold mQ.R at h
 refine aC<|zq h fun b1 w1 _ _ _ h=>zq h fun b2 w2 _ _ _ h=>zp 1<|aD<|aC<|zp 3<|zk h ?_
 rintro _ w3 ⟨r1,rfl,h⟩
 exact zp 1<|aD<|aN<|z1 ⟨_,rfl,h⟩
def dT.j1(Q:Int→World→Prop)(s:Option Addr)(p1_1:Addr)(p2_2:Addr)(v1:Bool)(w2:World):Prop:=(
 Ifb v1
 (Q 1 w2)
 (LdS w2 p1_1 fun x2=>
 Cl Pg 80 #[vP s,vs x2] w2 (fun v w3=>∃r2,v=vi r2∧Ifb (decide (r2≥0))
 (Q 6 w3)
 (NN s fun p1=>
 dU w3 (Addr.add p1 1) fun x3_a x3_n x3_c=>
 Ifb (decide (((x3_n:Nat):Int)≥16))
 (Q 2 w3)
 (Dr w3 fun w4=>
 NN s fun p2=>
 dU w4 (Addr.add p2 1) fun x4_a x4_n x4_c=>
 LdS w4 p1_1 fun x5=>
 LdI .u8 w4 p2_2 fun x6=>
 Al w4 (.cells #[vs x5,vu x6,vl none 0 0] 150) fun b1 w5=>
 Ap Pg w5 #[117,117] 117 (vl x4_a x4_n x4_c) (vl (some ⟨b1,0,none⟩) 1 1) fun a1_a a1_n a1_c w6=>
 NN s fun p3=>
 St w6 (Addr.add p3 1) ([vl a1_a a1_n a1_c]) fun w7=>
 Q 0 w7)))))
def dT.R(Q:Int→World→Prop)(s:Option Addr)(p1_1:Addr)(p2_2:Addr)(w:World):Prop:=(
 LdS w p1_1 fun x1=>
 Cl Pg 66 #[vs x1] w (fun v w1=>∃r1,v=vb r1∧Ifb (!r1)
 (Q 4 w1)
 (LdI .u8 w1 p2_2 fun x7=>
 Ifb (decide (x7<1))
 (dT.j1 Q s p1_1 p2_2 true w1)
 (LdI .u8 w1 p2_2 fun x8=>
 dT.j1 Q s p1_1 p2_2 (decide (x8>3)) w1))))
theorem dT.ok{Q:Int→World→Prop}{s:Option Addr}{p1_1:Addr}{p2_2:Addr}{w:World}(h:dT.R Q s p1_1 p2_2 w):Cl Pg 117 #[vP s,vp p1_1,vp p2_2] w (fun v w'=>∃r0,v=vi r0∧Q r0 w'):=by
 refine aI (args:=[vP s,vp p1_1,vp p2_2]) Tryz.func117 ?_
 unfold dT.R at h
 refine aC<|zp 1<|aD<|aL<|aR<|aC<|zd tk9 h fun x1 hx1 h=>zk h ?_
 rintro _ w1 ⟨r1,rfl,h⟩
 refine zp 2<|aD<|zc h (fun h=>?_) fun h=>?_
 exact aC<|zp 1<|aD<|aN<|bD<|aH<|z1 ⟨_,rfl,h⟩
 refine fD (fun e w2=>∃(e0:Env) (v1:Bool),e=upds e0 [(0,vP s),(1,vp p1_1),(2,vp p2_2),(9,vb v1)]∧dT.j1 Q s p1_1 p2_2 v1 w2) ?_ ?_
 refine aW<|zd tk5 h fun x7 hx7 h=>zp 2<|zs 12 h (fun h=>?_) fun h=>?_
 exact zp 4<|aD<|⟨_,true,ag,h⟩
 exact zd tk5 h fun x8 hx8 h=>zp 3<|aD<|⟨_,decide (x8>3),ag,h⟩
 clear h
 rintro _ w2 ⟨e0,v1,rfl,h⟩
 unfold dT.j1 at h
 refine zc h (fun h=>?_) fun h=>?_
 exact aC<|zp 1<|aD<|aN<|bD<|aH<|z1 ⟨_,rfl,h⟩
 refine aC<|zp 1<|zd tk9 h fun x2 hx2 h=>zk h ?_
 rintro _ w3 ⟨r2,rfl,h⟩
 refine zp 2<|aD<|zc h (fun h=>?_) fun h=>?_
 exact aC<|zp 1<|aD<|aN<|bD<|aH<|z1 ⟨_,rfl,h⟩
 refine aC<|zp 1<|zo h fun p1 h=>zp 1<|zr rM h fun x3_a x3_n x3_c hx3 h=>zp 3<|aD<|zc h (fun h=>?_) fun h=>?_
 exact aC<|zp 1<|aD<|aN<|bD<|aH<|z1 ⟨_,rfl,h⟩
 refine aJ<|aG<|drs iG [[],[],[],[],[],[],[],[5,6],[5,6],[4,5,6],[4,5,6],[4,5,6],[4,5,6]] [.p 0,.p 1,.p 2,.p 3,.l 4,.l 5,.l 6,.p 7,.e 8,.e 9,.p 10,.p 11,.e 12] h fun w4 _ h=>zP 2<|zO h fun p2 h=>zP 1<|zR rM h fun x4_a x4_n x4_c hx4 h=>zD tk9 h fun x5 hx5 h=>zD tk5 h fun x6 hx6 h=>zP 1<|zV 1 h fun b1 w5 eb ew q1 h=>?_
 replace hx4:=oE ew hx4
 clear eb ew q1
 refine⟨zf rM hx4<|AllOk.nil,?_⟩
 refine zA h ?_
 rintro a1_a a1_n a1_c w6 h
 refine⟨AllOk.nil,?_⟩
 refine zO h fun p3 h=>zP 1<|zU rM h ?_
 rintro w7 h
 refine⟨AllOk.nil,?_⟩
 exact bF<|aC<|zp 1<|aD<|aN<|z1 ⟨_,rfl,h⟩
def mH.R(Q:Int→World→Prop)(l:Option Addr)(day:Int)(name:ByteArray)(grains:Int)(w:World):Prop:=(
 Al w (.cells #[vi day] 3) fun b1 w1=>
 Al w1 (.cells #[vs name] 9) fun b2 w2=>
 Al w2 (.cells #[vi grains] 3) fun b3 w3=>
 LdI .i64 w3 ⟨b1,0,none⟩ fun x1=>
 Cl Pg 76 #[vP l,vi x1,.func (.func 152) #[] #[vp ⟨b2,0,none⟩,vp ⟨b3,0,none⟩,vp ⟨b1,0,none⟩]] w3 (fun v w4=>∃r1,v=vi r1∧Q r1 w4))
theorem mH.ok{Q:Int→World→Prop}{l:Option Addr}{day:Int}{name:ByteArray}{grains:Int}{w:World}(h:mH.R Q l day name grains w):Cl Pg 99 #[vP l,vi day,vs name,vi grains] w (fun v w'=>∃r0,v=vi r0∧Q r0 w'):=by
 refine aI (args:=[vP l,vi day,vs name,vi grains]) Tryz.func99 ?_
 unfold mH.R at h
 refine aC<|zq h fun b1 w1 _ _ _ h=>zq h fun b2 w2 _ _ _ h=>zq h fun b3 w3 _ _ _ h=>zp 1<|aD<|aC<|zp 1<|zd tk3 h fun x1 hx1 h=>zp 1<|zk h ?_
 rintro _ w4 ⟨r1,rfl,h⟩
 exact zp 1<|aD<|aN<|z1 ⟨_,rfl,h⟩
def bM.j2(Q:Int→World→Prop)(s:Option Addr)(p2_2:Addr)(p3_3:Addr)(r1:Int)(v2:Bool)(w3:World):Prop:=(
 Ifb v2
 (Q 1 w3)
 (Dr w3 fun w4=>
 NN s fun p1=>
 dU w4 (Addr.add p1 1) fun x2_a x2_n x2_c=>
 NN s fun p2=>
 dU w4 (Addr.add p2 1) fun x3_a x3_n x3_c=>
 Ix x3_a x3_n r1 fun p3=>
 dU w4 (Addr.add (Addr.add p3 (r1.toNat*3)) 2) fun x4_a x4_n x4_c=>
 LdI .i64 w4 p3_3 fun x5=>
 LdI .i64 w4 p2_2 fun x6=>
 Al w4 (.cells #[vi x5,vi x6] 175) fun b1 w5=>
 Ap Pg w5 #[148,148] 148 (vl x4_a x4_n x4_c) (vl (some ⟨b1,0,none⟩) 1 1) fun a1_a a1_n a1_c w6=>
 w6.cell? (Addr.add p1 1)=some (vl x2_a x2_n x2_c)∧Ix x2_a x2_n r1 fun p4=>
 St w6 (Addr.add (Addr.add p4 (r1.toNat*3)) 2) ([vl a1_a a1_n a1_c]) fun w7=>
 Q 0 w7))
def bM.j1(Q:Int→World→Prop)(s:Option Addr)(p2_2:Addr)(p3_3:Addr)(r1:Int)(v1:Bool)(w2:World):Prop:=(
 Ifb v1
 (Q 60 w2)
 (LdI .i64 w2 p2_2 fun x7=>
 Ifb (decide (x7<1))
 (bM.j2 Q s p2_2 p3_3 r1 true w2)
 (LdI .i64 w2 p2_2 fun x8=>
 bM.j2 Q s p2_2 p3_3 r1 (decide (x8>100000)) w2)))
def bM.R(Q:Int→World→Prop)(s:Option Addr)(p1_1:Addr)(p2_2:Addr)(p3_3:Addr)(w:World):Prop:=(
 LdS w p1_1 fun x1=>
 Cl Pg 80 #[vP s,vs x1] w (fun v w1=>∃r1,v=vi r1∧Ifb (decide (r1<0))
 (bM.j1 Q s p2_2 p3_3 r1 true w1)
 (NN s fun p5=>
 dU w1 (Addr.add p5 1) fun x9_a x9_n x9_c=>
 Ix x9_a x9_n r1 fun p6=>
 LdI .u8 w1 (Addr.add (Addr.add p6 (r1.toNat*3)) 1) fun x10=>
 bM.j1 Q s p2_2 p3_3 r1 (x10==3) w1)))
theorem bM.ok{Q:Int→World→Prop}{s:Option Addr}{p1_1:Addr}{p2_2:Addr}{p3_3:Addr}{w:World}(h:bM.R Q s p1_1 p2_2 p3_3 w):Cl Pg 152 #[vP s,vp p1_1,vp p2_2,vp p3_3] w (fun v w'=>∃r0,v=vi r0∧Q r0 w'):=by
 refine aI (args:=[vP s,vp p1_1,vp p2_2,vp p3_3]) Tryz.func152 ?_
 unfold bM.R at h
 refine aC<|zp 1<|aD<|aC<|zp 1<|zd tk9 h fun x1 hx1 h=>zk h ?_
 rintro _ w1 ⟨r1,rfl,h⟩
 refine zp 1<|aD<|aL<|fD (fun e w2=>∃(e0:Env) (v1:Bool),e=upds e0 [(0,vP s),(2,vp p2_2),(3,vp p3_3),(6,vi r1),(22,vb v1)]∧bM.j1 Q s p2_2 p3_3 r1 v1 w2) ?_ ?_
 refine aW<|zp 3<|zs 12 h (fun h=>?_) fun h=>?_
 exact zp 10<|aD<|⟨_,true,ag,h⟩
 exact zp 1<|zo h fun p5 h=>zp 1<|zr rM h fun x9_a x9_n x9_c hx9 h=>zp 1<|zi xM h fun p6 h=>zp 1<|zd tk5 h fun x10 hx10 h=>zp 2<|aD<|⟨_,(x10==3),ag,h⟩
 clear h
 rintro _ w2 ⟨e0,v1,rfl,h⟩
 unfold bM.j1 at h
 refine zc h (fun h=>?_) fun h=>?_
 exact aC<|zp 1<|aD<|aN<|aH<|z1 ⟨_,rfl,h⟩
 refine aJ<|aL<|fD (fun e w3=>∃(e0:Env) (v2:Bool),e=upds e0 [(0,vP s),(2,vp p2_2),(3,vp p3_3),(6,vi r1),(28,vb v2)]∧bM.j2 Q s p2_2 p3_3 r1 v2 w3) ?_ ?_
 refine aW<|zd tk3 h fun x7 hx7 h=>zp 2<|zs 25 h (fun h=>?_) fun h=>?_
 exact zp 3<|aD<|⟨_,true,ag,h⟩
 exact zd tk3 h fun x8 hx8 h=>zp 2<|aD<|⟨_,decide (x8>100000),ag,h⟩
 clear h
 rintro _ w3 ⟨e0,v2,rfl,h⟩
 unfold bM.j2 at h
 refine zc h (fun h=>?_) fun h=>?_
 exact aC<|zp 1<|aD<|aN<|aH<|z1 ⟨_,rfl,h⟩
 refine aJ<|drs iG [[],[],[],[],[],[],[],[],[],[],[8],[8],[8],[],[],[13,14],[13,14],[8,12,13,14],[3,8,12,13,14],[3,8,12,13,14],[3,8,12,13,14]] [.p 0,.p 1,.p 2,.l 3,.p 4,.p 5,.p 6,.p 7,.l 8,.p 9,.p 10,.p 11,.l 12,.l 13,.l 14,.p 15,.e 16,.e 17,.p 18,.p 19,.e 20] h fun w4 _ h=>zP 1<|zO h fun p1 h=>zP 1<|zR rM h fun x2_a x2_n x2_c hx2 h=>zP 2<|zO h fun p2 h=>zP 1<|zR rM h fun x3_a x3_n x3_c hx3 h=>zP 1<|zI xM h fun p3 h=>zP 1<|zR aBo h fun x4_a x4_n x4_c hx4 h=>zD tk3 h fun x5 hx5 h=>zD tk3 h fun x6 hx6 h=>zP 1<|zV 1 h fun b1 w5 eb ew q1 h=>?_
 replace hx2:=oE ew hx2
 replace hx3:=oE ew hx3
 replace hx4:=oE ew hx4
 clear eb ew q1
 refine⟨zf aBo hx4<|zf rM hx3<|zf rM hx2<|AllOk.nil,?_⟩
 refine zA h ?_
 rintro a1_a a1_n a1_c w6 ⟨hk0,h⟩
 replace hx2:=hk0
 refine⟨zf rM hx2<|AllOk.nil,?_⟩
 refine zI xM h fun p4 h=>zP 1<|zU aBo h ?_
 rintro w7 h
 refine⟨AllOk.nil,?_⟩
 exact bF<|aC<|zp 1<|aD<|aN<|z1 ⟨_,rfl,h⟩
def mR.R(Q:Int→World→Prop)(l:Option Addr)(day:Int)(name:ByteArray)(least:Int)(days:Int)(w:World):Prop:=(
 Al w (.cells #[vi day] 3) fun b1 w1=>
 Al w1 (.cells #[vs name] 9) fun b2 w2=>
 Al w2 (.cells #[vi least] 3) fun b3 w3=>
 Al w3 (.cells #[vi days] 3) fun b4 w4=>
 LdI .i64 w4 ⟨b1,0,none⟩ fun x1=>
 Cl Pg 76 #[vP l,vi x1,.func (.func 118) #[] #[vp ⟨b2,0,none⟩,vp ⟨b3,0,none⟩,vp ⟨b4,0,none⟩,vp ⟨b1,0,none⟩]] w4 (fun v w5=>∃r1,v=vi r1∧Q r1 w5))
theorem mR.ok{Q:Int→World→Prop}{l:Option Addr}{day:Int}{name:ByteArray}{least:Int}{days:Int}{w:World}(h:mR.R Q l day name least days w):Cl Pg 51 #[vP l,vi day,vs name,vi least,vi days] w (fun v w'=>∃r0,v=vi r0∧Q r0 w'):=by
 refine aI (args:=[vP l,vi day,vs name,vi least,vi days]) Tryz.func51 ?_
 unfold mR.R at h
 refine aC<|zq h fun b1 w1 _ _ _ h=>zq h fun b2 w2 _ _ _ h=>zq h fun b3 w3 _ _ _ h=>zq h fun b4 w4 _ _ _ h=>zp 1<|aD<|aC<|zp 1<|zd tk3 h fun x1 hx1 h=>zp 1<|zk h ?_
 rintro _ w5 ⟨r1,rfl,h⟩
 exact zp 1<|aD<|aN<|z1 ⟨_,rfl,h⟩
def dJ.j1(Q:Int→World→Prop)(s:Option Addr)(p1_1:Addr)(p2_2:Addr)(p3_3:Addr)(p4_4:Addr)(v1:Bool)(w2:World):Prop:=(
 Ifb v1
 (Q 1 w2)
 (NN s fun p1=>
 dU w2 (Addr.add p1 2) fun x2_a x2_n x2_c=>
 Ifb (decide (((x2_n:Nat):Int)≥64))
 (Q 2 w2)
 (Dr w2 fun w3=>
 NN s fun p2=>
 dU w3 (Addr.add p2 2) fun x3_a x3_n x3_c=>
 LdI .i64 w3 p4_4 fun x4=>
 LdI .i64 w3 p2_2 fun x5=>
 LdI .i64 w3 p3_3 fun x6=>
 LdS w3 p1_1 fun x7=>
 Al w3 (.cells #[vi x4,vi x5,vi x6,vs x7] 152) fun b1 w4=>
 Ap Pg w4 #[118,118] 118 (vl x3_a x3_n x3_c) (vl (some ⟨b1,0,none⟩) 1 1) fun a1_a a1_n a1_c w5=>
 NN s fun p3=>
 St w5 (Addr.add p3 2) ([vl a1_a a1_n a1_c]) fun w6=>
 Q 0 w6)))
def dJ.R(Q:Int→World→Prop)(s:Option Addr)(p1_1:Addr)(p2_2:Addr)(p3_3:Addr)(p4_4:Addr)(w:World):Prop:=(
 LdS w p1_1 fun x1=>
 Cl Pg 80 #[vP s,vs x1] w (fun v w1=>∃r1,v=vi r1∧Ifb (decide (r1<0))
 (Q 60 w1)
 (LdI .i64 w1 p2_2 fun x8=>
 Ifb (decide (x8<1))
 (dJ.j1 Q s p1_1 p2_2 p3_3 p4_4 true w1)
 (LdI .i64 w1 p2_2 fun x9=>
 Ifb (decide (x9>1000000000))
 (dJ.j1 Q s p1_1 p2_2 p3_3 p4_4 true w1)
 (LdI .i64 w1 p3_3 fun x10=>
 Ifb (decide (x10<1))
 (dJ.j1 Q s p1_1 p2_2 p3_3 p4_4 true w1)
 (LdI .i64 w1 p3_3 fun x11=>
 dJ.j1 Q s p1_1 p2_2 p3_3 p4_4 (decide (x11>40000)) w1))))))
theorem dJ.ok{Q:Int→World→Prop}{s:Option Addr}{p1_1:Addr}{p2_2:Addr}{p3_3:Addr}{p4_4:Addr}{w:World}(h:dJ.R Q s p1_1 p2_2 p3_3 p4_4 w):Cl Pg 118 #[vP s,vp p1_1,vp p2_2,vp p3_3,vp p4_4] w (fun v w'=>∃r0,v=vi r0∧Q r0 w'):=by
 refine aI (args:=[vP s,vp p1_1,vp p2_2,vp p3_3,vp p4_4]) Tryz.func118 ?_
 unfold dJ.R at h
 refine aC<|zp 1<|aD<|aL<|aR<|aC<|zp 1<|zd tk9 h fun x1 hx1 h=>zk h ?_
 rintro _ w1 ⟨r1,rfl,h⟩
 refine zp 2<|aD<|zc h (fun h=>?_) fun h=>?_
 exact aC<|zp 1<|aD<|aN<|bD<|aH<|z1 ⟨_,rfl,h⟩
 refine fD (fun e w2=>∃(e0:Env) (v1:Bool),e=upds e0 [(0,vP s),(1,vp p1_1),(2,vp p2_2),(3,vp p3_3),(4,vp p4_4),(12,vb v1)]∧dJ.j1 Q s p1_1 p2_2 p3_3 p4_4 v1 w2) ?_ ?_
 refine aW<|zd tk3 h fun x8 hx8 h=>zp 2<|zs 15 h (fun h=>?_) fun h=>?_
 exact zp 12<|aD<|⟨_,true,ag,h⟩
 refine zd tk3 h fun x9 hx9 h=>zp 3<|zs 19 h (fun h=>?_) fun h=>?_
 exact zp 8<|aD<|⟨_,true,ag,h⟩
 refine zd tk3 h fun x10 hx10 h=>zp 3<|zs 23 h (fun h=>?_) fun h=>?_
 exact zp 4<|aD<|⟨_,true,ag,h⟩
 exact zd tk3 h fun x11 hx11 h=>zp 3<|aD<|⟨_,decide (x11>40000),ag,h⟩
 clear h
 rintro _ w2 ⟨e0,v1,rfl,h⟩
 unfold dJ.j1 at h
 refine zc h (fun h=>?_) fun h=>?_
 exact aC<|zp 1<|aD<|aN<|bD<|aH<|z1 ⟨_,rfl,h⟩
 refine aC<|zp 1<|zo h fun p1 h=>zp 1<|zr aAk h fun x2_a x2_n x2_c hx2 h=>zp 3<|aD<|zc h (fun h=>?_) fun h=>?_
 exact aC<|zp 1<|aD<|aN<|bD<|aH<|z1 ⟨_,rfl,h⟩
 refine aJ<|aG<|drs iG [[],[],[],[],[],[],[],[],[],[5,6,7,8],[5,6,7,8],[4,5,6,7,8],[4,5,6,7,8],[4,5,6,7,8],[4,5,6,7,8]] [.p 0,.p 1,.p 2,.p 3,.l 4,.l 5,.l 6,.l 7,.l 8,.p 9,.e 10,.e 11,.p 12,.p 13,.e 14] h fun w3 _ h=>zP 2<|zO h fun p2 h=>zP 1<|zR aAk h fun x3_a x3_n x3_c hx3 h=>zD tk3 h fun x4 hx4 h=>zD tk3 h fun x5 hx5 h=>zD tk3 h fun x6 hx6 h=>zD tk9 h fun x7 hx7 h=>zP 1<|zV 1 h fun b1 w4 eb ew q1 h=>?_
 replace hx3:=oE ew hx3
 clear eb ew q1
 refine⟨zf aAk hx3<|AllOk.nil,?_⟩
 refine zA h ?_
 rintro a1_a a1_n a1_c w5 h
 refine⟨AllOk.nil,?_⟩
 refine zO h fun p3 h=>zP 1<|zU aAk h ?_
 rintro w6 h
 refine⟨AllOk.nil,?_⟩
 exact bF<|aC<|zp 1<|aD<|aN<|z1 ⟨_,rfl,h⟩
def fV.j1(Q:Int→Int→World→Prop)(l:Option Addr)(day:Int)(v1:Int)(w1:World):Prop:=(
 Cl Pg 76 #[vP l,vi day,.func (.func 77) #[] #[]] w1 (fun v w2=>∃r1,v=vi r1∧Ifb (r1 !=0)
 (Q 0 r1 w2)
 (Q v1 0 w2)))
def fV.R(Q:Int→Int→World→Prop)(l:Option Addr)(day:Int)(w:World):Prop:=(
 Ifb (!l.isNone)
 (NN l fun p1=>
 Cl Pg 75 #[vp p1,vi day] w (fun v w3=>∃r2_a r2_n r2_c,v=vl r2_a r2_n r2_c∧fV.j1 Q l day (r2_n:Nat) w3))
 (fV.j1 Q l day 0 w))
theorem fV.ok{Q:Int→Int→World→Prop}{l:Option Addr}{day:Int}{w:World}(h:fV.R Q l day w):Cl Pg 23 #[vP l,vi day] w (fun v w'=>∃r0 r1,v= .tuple #[vi r0,vi r1]∧Q r0 r1 w'):=by
 refine aI (args:=[vP l,vi day]) Tryz.func23 ?_
 unfold fV.R at h
 refine aC<|zp 2<|aD<|aC<|zp 1<|aD<|fD (fun e w1=>∃(e0:Env) (v1:Int),e=upds e0 [(0,vP l),(1,vi day),(6,vi v1)]∧fV.j1 Q l day v1 w1) ?_ ?_
 refine aC<|zp 1<|sH rfl rfl (v:=vb (!l.isNone)) (aAZ (by kernel_rfl) rfl rfl rfl)<|aD<|zc h (fun h=>?_) fun h=>?_
 refine aW<|zp 1<|zo h fun p1 h=>zp 2<|zk h ?_
 rintro _ w3 ⟨r2_a,r2_n,r2_c,rfl,h⟩
 exact zp 2<|aD<|⟨_,(r2_n:Nat),ag,h⟩
 exact aJ<|⟨_,0,ag,h⟩
 clear h
 rintro _ w1 ⟨e0,v1,rfl,h⟩
 unfold fV.j1 at h
 refine aL<|aC<|zp 2<|zk h ?_
 rintro _ w2 ⟨r1,rfl,h⟩
 refine zp 1<|aD<|aC<|zp 2<|aD<|zc h (fun h=>?_) fun h=>?_
 exact aC<|zp 3<|aD<|aN<|aH<|z2 ⟨_,_,rfl,h⟩
 exact aJ<|aC<|zp 3<|aD<|aN<|z2 ⟨_,_,rfl,h⟩
def mB.R(Q:Int→World→Prop)(p0_0:Option Addr)(w:World):Prop:=(
 Q 0 w)
theorem mB.ok{Q:Int→World→Prop}{p0_0:Option Addr}{w:World}(h:mB.R Q p0_0 w):Cl Pg 77 #[vP p0_0] w (fun v w'=>∃r0,v=vi r0∧Q r0 w'):=by
 refine aI (args:=[vP p0_0]) Tryz.func77 ?_
 unfold mB.R at h
 exact aC<|zp 1<|aD<|aC<|zp 1<|aD<|aN<|z1 ⟨_,rfl,h⟩
end Go.Proofs.YtcbijkakoepglaaGreat
namespace Go.Proofs.YtcbijkakoepglaaGreat
open Go Go.Wx
def sE(name:ByteArray)(kind:Int)(M:MState):Int × MState:=
 if !named name then(4,M)else if kind<1∨3<kind then(1,M)else if 0≤M.find name then(6,M)else if 16≤M.units.length then(2,M)else
  (0,{M with units:=M.units++[⟨name,kind,[]⟩]})
def MState.setUnit(M:MState)(day:Int)(name:ByteArray)(kind:Int):Int × MState:=M.oper day (sE name kind)
def sM(day:Int)(name:ByteArray)(least days:Int)(M:MState):Int × MState:=
 if M.find name<0 then(60,M)else if least<1∨1000000000<least∨days<1∨40000<days then(1,M)else if 64≤M.terms.length then(2,M)else
  (0,{M with terms:=M.terms++[⟨day,least,days,name⟩]})
def MState.setTerm(M:MState)(day:Int)(name:ByteArray)(least days:Int):Int × MState:=M.oper day (sM day name least days)
theorem StIn.putUnits{w:World}{R:Nat→Prop}{b:Nat}{st:Tstate}{M:MState}(h:StIn w R b st M){a2:Option Addr}{n2 c2:Nat}{S:Nat→Prop}{w5 w6:World}{us:List MUnit}{R':Nat→Prop}
 (F5:Frm S w w5) (hS:∀k cur T,At w k (.cells cur T (0,0))→T≠150→T≠175→¬S k)
 (hat6:At w6 b (.cells ({st with units_a:=a2,units_n:=n2,units_c:=c2}:Tstate).enc.toArray 120 (0,0))) (F6:Frm (fun k=>k=b) w5 w6)
 (hu:UnitsOwn w6 R' a2 n2 c2 us) (hR:∀k,R k→R' k) (hR2:∀k,obk a2 c2=some k→R' k) (hlt:∀k,R' k→k<w6.heap.size):
 StIn w6 R' b {st with units_a:=a2,units_n:=n2,units_c:=c2} {M with units:=us}:=by
 have hb5:=h.blk.frm F5 (hS _ _ _ h.blk (by decide) (by decide));refine⟨hat6,h.day,hu,(h.terms.frm F5 fun k hk=>?_).frm F6 fun k hk e=>?_,(h.lots.frm F5 fun k hk=>?_).frm F6 fun k hk e=>?_,(h.postings.frm F5 fun k hk=>?_).frm F6 fun k hk e=>?_,hR _ h.rB,hR2,fun k hk=>hR k (h.rTerms k hk),fun k hk=>hR k (h.rLots k hk),fun k hk=>hR k (h.rPostings k hk),hlt⟩
 ·obtain⟨cur,hc⟩:=h.terms.at k hk;exact hS _ _ _ hc (by decide) (by decide)
 ·obtain⟨cur,hc⟩:=h.terms.at k hk;exact h.blk.neT hc (by simp[tyO]) e.symm
 ·obtain⟨cur,hc⟩:=h.lots.at k hk;exact hS _ _ _ hc (by decide) (by decide)
 ·obtain⟨cur,hc⟩:=h.lots.at k hk;exact h.blk.neT hc (by simp[tyO]) e.symm
 ·obtain⟨cur,hc⟩:=h.postings.at k hk;exact hS _ _ _ hc (by decide) (by decide)
 ·obtain⟨cur,hc⟩:=h.postings.at k hk;exact h.blk.neT hc (by simp[tyO]) e.symm
theorem jR{w1 w2:World}{R1:Nat→Prop}{b1:Nat}{st1:Tstate}{M:MState}{C:Nat→Prop}{X:Int→MState→World→Prop}{r:Int}(h:StIn w1 R1 b1 st1 M)(E:Ext w1 w2)(hX:X r M w2):lF C X w1 R1 b1 r w2:=
 ⟨M,R1,st1,h.ext E,fun k=> .inl,E.frm,hX⟩
theorem zC{w1 w2:World}{R1 R2:Nat→Prop}{b1:Nat}{st2:Tstate}{M2:MState}{C:Nat→Prop}{X:Int→MState→World→Prop}{r:Int}(h:StIn w2 R2 b1 st2 M2)(s:Step R1 w1 R2 w2)(hX:X r M2 w2):lF C X w1 R1 b1 r w2:=
 ⟨M2,R2,st2,h,s.sub,s.frm.mono fun k _ h=> .inl h,hX⟩
theorem qZ(M:MState)(day:Int):(M.advance day).units=M.units∧(M.advance day).terms=M.terms∧(M.advance day).lots.length=M.lots.length∧(M.advance day).postings.length≤M.postings.length+(M.due day).length∧(IdOk M→IdOk (M.advance day)):=by
 have h:=mY ((M.due day).map fun x=>(x.Id,x.Due)) M;rw[List.length_map]at h;exact⟨h.units,h.terms,h.lots,h.postings,h.ids⟩
theorem uX{M:MState}(hS:Small M){day:Int}(hd:aBc M day)(h1:0≤day)(h2:day≤100000)(h3:M.day≤day):Fits (M.advance day):=by
 obtain⟨a,b,c,d,_⟩:=qZ M day;have:(M.lots.filter (oC day)).length≤100000:=hd h1 h2 h3;rw[MState.due_len]at d;have:=hS.lots;have:=hS.postings;exact⟨by rw[a];exact hS.units,by rw[a];exact hS.values,by rw[b];exact hS.terms,by omega,by omega⟩
theorem aGR{w:World}{b1 b2:Nat}{name:ByteArray}{kind:Int}(h1:At w b1 (.cells #[vs name] 9 (0,0)))(h2:At w b2 (.cells #[vu kind] 5 (0,0))){M:MState}(hF:Fits M):
 zW (.func (.func 117) #[] #[vp ⟨b1,0,none⟩,vp ⟨b2,0,none⟩]) w (fun _=>False) M (Ret (sE name kind M)):=by
 intro w1 R1 b st h hR E;have c1:∀{w'},Ext w1 w'→w'.cell? ⟨b1,0,none⟩=some (vs name):=fun E'=>aV ((h1.ext E).ext E') rfl;have c2:∀{w'},Ext w1 w'→w'.cell? ⟨b2,0,none⟩=some (vu kind):=fun E'=>aV ((h2.ext E).ext E') rfl;refine oT (dT.ok ?_);refine⟨_,c1 (er _),aEf fun w2 E2=>ifb ?_⟩;split
 ·rename_i hn;exact jR h E2 (by unfold Ret sE;rw[if_pos hn])
 rename_i hn;have jt:kind<1∨3<kind→dT.j1 (lF (fun _=>False) (Ret (sE name kind M)) w1 R1 b) (some ⟨b,0,none⟩) ⟨b1,0,none⟩ ⟨b2,0,none⟩ true w2:=fun hk=>by
  unfold dT.j1;exact jM (jR h E2 (by unfold Ret sE;rw[if_neg hn,if_pos hk]))
 refine⟨_,c2 E2,ifb ?_⟩;split
 ·rename_i hk;exact jt (.inl (of_decide_eq_true hk))
 rename_i hk;refine⟨_,c2 E2,?_⟩;unfold dT.j1;refine ifb ?_;split
 ·rename_i hk3;exact jR h E2 (by unfold Ret sE;rw[if_neg hn,if_pos (.inr (of_decide_eq_true hk3))])
 ·rename_i hk3;have hk:¬(kind<1∨3<kind):=by simp at hk hk3;omega
  refine⟨_,c1 E2,vS (h.ext E2).rd hF fun w3 E3=>ifb ?_⟩;split
  ·rename_i hf;exact jR h (E2.trans E3) (by unfold Ret sE;rw[if_neg hn,if_neg hk,if_pos (by simpa using hf)])
  rename_i hf;have h3:=(h.ext E2).ext E3;refine⟨_,rfl,_,_,_,h3.rd.cells.at 1 rfl,ifb ?_⟩;obtain⟨ts,u1,u2,u3,u4⟩:=h3.units;have hul:st.units_n=M.units.length:=by rw[u1.1,u2]
  split
  ·rename_i hl;exact jR h (E2.trans E3) (by unfold Ret sE;rw[if_neg hn,if_neg hk,if_neg (by simpa using hf),if_pos (by simp at hl;omega)])
  rename_i hl;refine iS (E2.trans E3) fun w4 E4 e4=>⟨_,rfl,_,_,_,(h3.ext e4).rd.cells.at 1 rfl,_,c1 E4,_,c2 E4,bW E4 fun b3 w5 hb3 hat E5 e5 _=>?_⟩;have h5:=(h3.ext e4).ext e5;have hf':=hF.units;refine jT ap117 rV (fun x=>iN rfl) ((u1.ext e4).ext e5) (Rd.one (enc:=Tunit.enc) (sz:=3) ⟨name,kind,none,0,0⟩ hat) (by omega) (by simp only[maxLen];omega) fun a2 c3 w6 ho F6 hb6=>⟨_,rfl,?_⟩;have hou:∀k cur T,At w5 k (.cells cur T (0,0))→T≠150→¬obk st.units_a st.units_c=some k:=fun k cur T hk hT=>((u1.ext e4).ext e5).notP hk hT
  have hb5:=h5.blk;have hb6':=hb5.frm F6 (hou _ _ _ hb5 (by decide));refine nC hb6' (by simp[Tstate.enc]) fun w7 hat7 F7=>?_;have hs7:=F7.size;have hs6:=F6.size;have hu7:UnitsOwn w7 (fun k=>R1 k∨obk a2 c3=some k) a2 (st.units_n+1) c3 (M.units++[⟨name,kind,[]⟩]):=by
   refine⟨ts++[⟨name,kind,none,0,0⟩],ho.frm F7 fun k hk e=>?_,by simp[u2],fun i t u ht hu=>?_,fun i j t t' k ht ht' hk hk'=>?_⟩
   ·obtain⟨cur,hc⟩:=ho.at k hk;exact hc.neT hb6' (by simp[tyO]) e
   ·by_cases hi:i<ts.length
    ·rw[List.getElem?_append_left hi]at ht;rw[List.getElem?_append_left (by omega)]at hu;obtain⟨e1,e2,e3,e4'⟩:=u3 i t u ht hu;refine⟨e1,e2,(((e3.ext e4).ext e5).frm F6 fun k hk=>?_).frm F7 fun k hk e=>?_,fun k hk=> .inl (e4' k hk)⟩
     ·obtain⟨cur,hc⟩:=((e3.ext e4).ext e5).at k hk;exact hou _ _ _ hc (by decide)
     ·obtain⟨cur,hc⟩:=((e3.ext e4).ext e5).at k hk;exact hc.neT hb5 (by simp[tyO]) e
    ·rw[List.getElem?_append_right (by omega)]at ht;rw[List.getElem?_append_right (by omega),show i-M.units.length=i-ts.length by omega]at hu;cases hj:i-ts.length with
     | zero=>
      rw[hj]at ht hu;cases ht;cases hu;exact⟨rfl,rfl,Own.nil,fun k hk=>by cases hk⟩
     | succ j=>rw[hj]at ht;simp at ht
   ·have old:∀{i:Nat} {t:Tunit} {k:Nat},(ts++[⟨name,kind,none,0,0⟩])[i]? =some t→obk t.values_a t.values_c=some k→ts[i]? =some t:=fun{i t k} ht hk=>by
     by_cases hi:i<ts.length
     ·rwa[List.getElem?_append_left hi]at ht
     ·rw[List.getElem?_append_right (by omega)]at ht;cases hj:i-ts.length with
      | zero=>rw[hj]at ht;cases ht;cases hk
      | succ j=>rw[hj]at ht;simp at ht
    exact u4 i j t t' k (old ht hk) (old ht' hk') hk hk'
  have hfin:=h5.putUnits F6 (fun k cur T hk h1 h2=>hou k cur T hk h1) hat7 F7 hu7 (fun k=> .inl) (fun k hk=> .inr hk) (by
   rintro k (hk | hk)
   ·have:=h5.rLt k hk;omega
   ·obtain⟨cur,hc⟩:=ho.at k hk;have:=hc.lt;omega)
  refine zC hfin ⟨((Ext.frm (S:=R1) E5).trans F6 fun k _ e=>h5.rUnits k e).trans F7 fun k _ e=>(by subst e;exact h5.rB),?_⟩ ?_
  ·rintro k (hk | hk)
   ·exact .inl hk
   ·exact(hb6 k hk).imp (h5.rUnits k) fun h=>Nat.le_trans E5.size h
  ·unfold Ret sE;rw[if_neg hn,if_neg hk,if_neg (by simpa using hf),if_neg (by simp at hl;omega)]
theorem aFF{w:World}{R:Nat→Prop}{bL:Nat}{st:Tstate}{M:MState}(h:Led w R bL st M)(hS:Small M)(hI:IdOk M){day:Int}(hd:aBc M day){name:ByteArray}{kind:Int}{Q:Int→World→Prop}
 (hQ:∀w' R' st',Led w' R' bL st' (M.setUnit day name kind).2→(∀k,R' k→R k∨w.heap.size≤k)→Frm (fun k=>k=bL) w w'→Q (M.setUnit day name kind).1 w'):
 Cl Pg 50 #[vp ⟨bL,0,none⟩,vi day,vs name,vu kind] w (fun v w'=>∃r,v=vi r∧Q r w'):=by
 refine mQ.ok (bW (er w) fun b1 w1 hb1 h1 E _ _=>bW E fun b2 w2 hb2 h2 E e _=>?_);refine uQ (h.ext E) hS hI hd (g:=sE name kind) (fun i j k=>aGR (h1.ext e) h2 (uX hS hd i j k)) fun w' R' st' hL hR F=>hQ _ _ _ hL (fun k hk=>(hR k hk).imp id fun h=>Nat.le_trans E.size h) (Ext.then E F)
theorem aGS{w:World}{b1 b2 b3 b4:Nat}{day least days:Int}{name:ByteArray}(h1:At w b1 (.cells #[vi day] 3 (0,0)))(h2:At w b2 (.cells #[vs name] 9 (0,0)))(h3:At w b3 (.cells #[vi least] 3 (0,0)))(h4:At w b4 (.cells #[vi days] 3 (0,0))){M:MState}(hF:Fits M):
 zW (.func (.func 118) #[] #[vp ⟨b2,0,none⟩,vp ⟨b3,0,none⟩,vp ⟨b4,0,none⟩,vp ⟨b1,0,none⟩]) w (fun _=>False) M (Ret (sM day name least days M)):=by
 intro w1 R1 b st h hR E;have c1:∀{w'},Ext w1 w'→w'.cell? ⟨b1,0,none⟩=some (vi day):=fun E'=>aV ((h1.ext E).ext E') rfl;have c2:∀{w'},Ext w1 w'→w'.cell? ⟨b2,0,none⟩=some (vs name):=fun E'=>aV ((h2.ext E).ext E') rfl;have c3:∀{w'},Ext w1 w'→w'.cell? ⟨b3,0,none⟩=some (vi least):=fun E'=>aV ((h3.ext E).ext E') rfl;have c4:∀{w'},Ext w1 w'→w'.cell? ⟨b4,0,none⟩=some (vi days):=fun E'=>aV ((h4.ext E).ext E') rfl;refine oT (dJ.ok ?_);refine⟨_,c2 (er _),vS h.rd hF fun w2 E2=>ifb ?_⟩
 split
 ·rename_i hf;exact jR h E2 (by unfold Ret sM;rw[if_pos (of_decide_eq_true hf)])
 rename_i hf;have hf:¬M.find name<0:=by simpa using hf
 have jt:least<1∨1000000000<least∨days<1∨40000<days→dJ.j1 (lF (fun _=>False) (Ret (sM day name least days M)) w1 R1 b) (some ⟨b,0,none⟩) ⟨b2,0,none⟩ ⟨b3,0,none⟩ ⟨b4,0,none⟩ ⟨b1,0,none⟩ true w2:=fun hk=>by
  unfold dJ.j1;exact jM (jR h E2 (by unfold Ret sM;rw[if_neg hf,if_pos hk]))
 refine⟨_,c3 E2,ifb ?_⟩;split
 ·rename_i hk;exact jt (.inl (of_decide_eq_true hk))
 rename_i k1;refine⟨_,c3 E2,ifb ?_⟩;split
 ·rename_i hk;exact jt (.inr (.inl (of_decide_eq_true hk)))
 rename_i k2;refine⟨_,c4 E2,ifb ?_⟩;split
 ·rename_i hk;exact jt (.inr (.inr (.inl (of_decide_eq_true hk))))
 rename_i k3;refine⟨_,c4 E2,?_⟩;unfold dJ.j1;refine ifb ?_;split
 ·rename_i hk;exact jR h E2 (by unfold Ret sM;rw[if_neg hf,if_pos (.inr (.inr (.inr (of_decide_eq_true hk))))])
 rename_i k4;have hk:¬(least<1∨1000000000<least∨days<1∨40000<days):=by simp at k1 k2 k3 k4;omega
 have h2':=h.ext E2;refine⟨_,rfl,_,_,_,h2'.rd.cells.at 2 rfl,ifb ?_⟩;have htl:=h2'.terms.1;split
 ·rename_i hl;exact jR h E2 (by unfold Ret sM;rw[if_neg hf,if_neg hk,if_pos (by simp at hl;omega)])
 rename_i hl;have hft:=hF.terms;refine iS E2 fun w3 E3 e3=>⟨_,rfl,_,_,_,(h2'.ext e3).rd.cells.at 2 rfl,_,c1 E3,_,c3 E3,_,c4 E3,_,c2 E3,bW E3 fun b5 w4 hb5 hat E4 e4 _=>?_⟩;have h4':=(h2'.ext e3).ext e4;refine jT ap118 aA9 (fun x=>iN rfl) h4'.terms (Rd.one (enc:=Tterm.enc) (sz:=4) ⟨day,least,days,name⟩ hat) (by omega) (by simp only[maxLen];omega) fun a2 c5 w5 ho F5 hb5=>⟨_,rfl,?_⟩;refine nC (h4'.blk.frm F5 (h4'.terms.notP h4'.blk (by decide))) (by simp[Tstate.enc]) fun w6 hat6 F6=>?_;obtain⟨h6,s6⟩:=h4'.putTerms ho F5 hb5 hat6 F6
 refine zC h6 ((Ext.step E4).trans s6) ?_;unfold Ret sM;rw[if_neg hf,if_neg hk,if_neg (by simp at hl;omega)]
theorem aFG{w:World}{R:Nat→Prop}{bL:Nat}{st:Tstate}{M:MState}(h:Led w R bL st M)(hS:Small M)(hI:IdOk M){day:Int}(hd:aBc M day){name:ByteArray}{least days:Int}{Q:Int→World→Prop}
 (hQ:∀w' R' st',Led w' R' bL st' (M.setTerm day name least days).2→(∀k,R' k→R k∨w.heap.size≤k)→Frm (fun k=>k=bL) w w'→Q (M.setTerm day name least days).1 w'):
 Cl Pg 51 #[vp ⟨bL,0,none⟩,vi day,vs name,vi least,vi days] w (fun v w'=>∃r,v=vi r∧Q r w'):=by
 refine mR.ok (bW (er w) fun b1 w1 hb1 h1 E _ _=>bW E fun b2 w2 hb2 h2 E e2 _=>bW E fun b3 w3 hb3 h3 E e3 _=>bW E fun b4 w4 hb4 h4 E e4 _=>⟨_,aV (((h1.ext e2).ext e3).ext e4) rfl,?_⟩);refine uQ (h.ext E) hS hI hd (g:=sM day name least days) (fun i j k=>aGS (((h1.ext e2).ext e3).ext e4) ((h2.ext e3).ext e4) (h3.ext e4) h4 (uX hS hd i j k)) fun w' R' st' hL hR F=>hQ _ _ _ hL (fun k hk=>(hR k hk).imp id fun h=>Nat.le_trans E.size h) (Ext.then E F)
def rC(day:Int)(name:ByteArray)(grains:Int)(M:MState):Int × MState:=
 if M.find name<0 then(60,M)else match M.units[(M.find name).toNat]? with
  | none=>(60,M)
  | some u=>if u.kind=3 then(60,M)else if grains<1∨100000<grains then(1,M)else(0,{M with units:=M.units.set (M.find name).toNat {u with values:=u.values++[⟨day,grains⟩]}})
def MState.setValue(M:MState)(day:Int)(name:ByteArray)(grains:Int):Int × MState:=M.oper day (rC day name grains)
theorem aFY{w:World}{b1 b2 b3:Nat}{day grains:Int}{name:ByteArray}(h1:At w b1 (.cells #[vi day] 3 (0,0)))(h2:At w b2 (.cells #[vs name] 9 (0,0)))(h3:At w b3 (.cells #[vi grains] 3 (0,0))){M:MState}(hF:Fits M):
 zW (.func (.func 152) #[] #[vp ⟨b2,0,none⟩,vp ⟨b3,0,none⟩,vp ⟨b1,0,none⟩]) w (fun _=>False) M (Ret (rC day name grains M)):=by
 intro w1 R1 b st h hR E;have c1:∀{w'},Ext w1 w'→w'.cell? ⟨b1,0,none⟩=some (vi day):=fun E'=>aV ((h1.ext E).ext E') rfl;have c2:∀{w'},Ext w1 w'→w'.cell? ⟨b2,0,none⟩=some (vs name):=fun E'=>aV ((h2.ext E).ext E') rfl;have c3:∀{w'},Ext w1 w'→w'.cell? ⟨b3,0,none⟩=some (vi grains):=fun E'=>aV ((h3.ext E).ext E') rfl;refine oT (bM.ok ?_);refine⟨_,c2 (er _),vS h.rd hF fun w2 E2=>ifb ?_⟩;split
 ·rename_i hf;unfold bM.j1;exact jM (jR h E2 (by unfold Ret rC;rw[if_pos (of_decide_eq_true hf)]))
 rename_i hf;have hf:¬M.find name<0:=by simpa using hf
 obtain⟨i,hi,hil,_⟩:∃i:Nat,M.find name=i∧∃h:i<M.units.length,_:=(aBT (fun u:MUnit=>dF u.name name) M.units).resolve_left fun h=>hf (by show rY _ _<0;rw[h.1];omega);rw[hi];have h2':=h.ext E2;obtain⟨ts,u1,u2,u3,u4⟩:=h2'.units;have hul:st.units_n=M.units.length:=by rw[u1.1,u2]
 have hu:=List.getElem?_eq_getElem hil;have hg:∀p:Int × MState,(M.units[i].kind=3→p=(60,M))→(M.units[i].kind≠3→grains<1∨100000<grains→p=(1,M))→(M.units[i].kind≠3→¬(grains<1∨100000<grains)→p=(0,{M with units:=M.units.set i {M.units[i]with values:=M.units[i].values++[⟨day,grains⟩]}}))→p=rC day name grains M:=by
  intro p g1 g2 g3;unfold rC;rw[if_neg hf,hi,Int.toNat_natCast,hu];simp only;by_cases k1:M.units[i].kind=3
  ·rw[if_pos k1];exact g1 k1
  ·rw[if_neg k1];by_cases k2:grains<1∨100000<grains
   ·rw[if_pos k2];exact g2 k1 k2
   ·rw[if_neg k2];exact g3 k1 k2
 have hvl:=hF.values _ (List.getElem_mem hil);generalize M.units[i]=u at hu hg hvl;refine⟨_,rfl,_,_,_,h2'.rd.cells.at 1 rfl,(u1.rd rV).ix (by omega) (by omega) fun a0 t ha ht hc=>?_⟩;simp only[Int.toNat_natCast]at ht hc ⊢;obtain⟨e1,e2,e3,e4⟩:=u3 i t u ht hu;refine⟨t.kind,hc.at 1 rfl,?_⟩;unfold bM.j1;refine ifb ?_;split
 ·rename_i hk;exact jR h E2 (hg _ (fun _=>rfl) (fun hk'=>absurd (by rw[←e2];exact eq_of_beq hk) hk') fun hk'=>absurd (by rw[←e2];exact eq_of_beq hk) hk')
 rename_i hk;have hk:u.kind≠3:=by rw[←e2];simpa using hk
 have jt:grains<1∨100000<grains→bM.j2 (lF (fun _=>False) (Ret (rC day name grains M)) w1 R1 b) (some ⟨b,0,none⟩) ⟨b3,0,none⟩ ⟨b1,0,none⟩ (i:Nat) true w2:=fun hb=>by
  unfold bM.j2;exact jM (jR h E2 (hg _ (fun h=>absurd h hk) (fun _ _=>rfl) fun _ h=>absurd hb h))
 refine⟨_,c3 E2,ifb ?_⟩;split
 ·rename_i hb;exact jt (.inl (of_decide_eq_true hb))
 rename_i k1;refine⟨_,c3 E2,?_⟩;unfold bM.j2;refine ifb ?_;split
 ·rename_i hb;exact jR h E2 (hg _ (fun h=>absurd h hk) (fun _ _=>rfl) fun _ h=>absurd (.inr (of_decide_eq_true hb)) h)
 rename_i k2;have hb:¬(grains<1∨100000<grains):=by simp at k1 k2;omega
 refine iS E2 fun w4 E4 e4'=>⟨_,rfl,_,_,_,(h2'.ext e4').rd.cells.at 1 rfl,_,rfl,_,_,_,(h2'.ext e4').rd.cells.at 1 rfl,?_⟩;have u14:=u1.ext e4';refine(u14.rd rV).ix (by omega) (by omega) fun a1 t1 ha1 ht1 hc1=>?_;simp only[Int.toNat_natCast]at ht1 hc1 ⊢;obtain rfl:t=t1:=Option.some.inj (ht.symm.trans ht1);refine⟨_,_,_,hc1.at 2 rfl,_,c1 E4,_,c3 E4,bW E4 fun b5 w5 hb5 hat E5 e5 _=>?_⟩;have h5:=(h2'.ext e4').ext e5;have v5:=(e3.ext e4').ext e5;have hvn:=v5.1
 refine jT ap148 aB3 (fun x=>iN rfl) v5 (Rd.one (enc:=Tdated.enc) (sz:=2) ⟨day,grains⟩ hat) (by omega) (by simp only[maxLen];omega) fun a2 c5 w6 ho F6 hb6=>?_;have hnv:∀k cur T,At w5 k (.cells cur T (0,0))→T≠175→¬obk t.values_a t.values_c=some k:=fun k cur T hk hT=>v5.notP hk hT;have hb6':=h5.blk.frm F6 (hnv _ _ _ h5.blk (by decide));have u16:Own 150 3 Tunit.enc w6 st.units_a st.units_n st.units_c ts:=(u14.ext e5).frm F6 fun k hk=>(by obtain⟨cur,hc⟩:=(u14.ext e5).at k hk;exact hnv _ _ _ hc (by decide))
 refine⟨(Cells.of_at hb6' rfl:Cells w6 ⟨b,0,none⟩ st.enc).at 1 rfl,(u16.rd rV).ix (by omega) (by omega) fun a3 t3 ha3 ht3 _=>?_⟩;simp only[Int.toNat_natCast]at ht3 ⊢;refine aAs rV u16 {t with values_a:=a2,values_n:=t.values_n+1,values_c:=c5} ht (by simp) (fun r hr=>?_) ha3 fun w7 ho7 F7=>?_
 ·match r,hr with
  | 0,_ | 1,_ | 2,_=>rfl
 have hnu:∀k cur T,At w6 k (.cells cur T (0,0))→T≠150→¬obk st.units_a st.units_c=some k:=fun k cur T hk hT=>u16.notP hk hT;have hb7:=hb6'.frm F7 (hnu _ _ _ hb6' (by decide));have hF67:Frm (fun k=>obk t.values_a t.values_c=some k∨obk st.units_a st.units_c=some k) w5 w7:=(F6.mono fun k _ h=> .inl h).trans F7 fun k _ h=> .inr h;have hnb:∀k cur T,At w5 k (.cells cur T (0,0))→T≠150→T≠175→¬(obk t.values_a t.values_c=some k∨obk st.units_a st.units_c=some k):=fun k cur T hk h1 h2 h=>h.elim (hnv k cur T hk h2) ((u14.ext e5).notP hk h1)
 have hs6:=F6.size;have hs7:=F7.size;have hit:i<ts.length:=by omega
 have hu7:UnitsOwn w7 (fun k=>R1 k∨obk a2 c5=some k) st.units_a st.units_n st.units_c (M.units.set i {u with values:=u.values++[⟨day,grains⟩]}):=by
  refine⟨_,ho7,by simp[u2],fun j t' u' ht' hu'=>?_,fun j j' t' t'' k ht' ht'' hk hk'=>?_⟩
  ·by_cases hij:i=j
   ·subst hij;rw[List.getElem?_set_self hit]at ht';rw[List.getElem?_set_self hil]at hu';cases ht';cases hu';refine⟨e1,e2,ho.frm F7 fun k hk=>?_,fun k hk=> .inr hk⟩;obtain⟨cur,hc⟩:=ho.at k hk;exact hnu _ _ _ hc (by decide)
   ·rw[List.getElem?_set_ne hij]at ht' hu';obtain⟨g1,g2,g3,g4⟩:=u3 j t' u' ht' hu';have g5:=(g3.ext e4').ext e5;refine⟨g1,g2,(g5.frm F6 fun k hk hk'=>?_).frm F7 fun k hk=>?_,fun k hk=> .inl (g4 k hk)⟩
    ·exact hij (u4 i j t t' k ht ht' hk' hk)
    ·obtain⟨cur,hc⟩:=(g5.frm F6 fun k hk hk'=>hij (u4 i j t t' k ht ht' hk' hk)).at k hk;exact hnu _ _ _ hc (by decide)
  ·have old:∀{j:Nat} {t':Tunit} {k:Nat},i≠j→ts[j]? =some t'→obk t'.values_a t'.values_c=some k→obk a2 c5=some k→False:=fun{j t' k} hij ht' hk hk2=>by
    obtain⟨u',hu'⟩:∃u',M.units[j]? =some u':=⟨_,List.getElem?_eq_getElem (by have:=(List.getElem?_eq_some_iff.1 ht').1;omega)⟩;have g3:=((u3 j t' u' ht' hu').2.2.1.ext e4').ext e5;rcases hb6 k hk2 with h | h
    ·exact hij (u4 i j t t' k ht ht' h hk)
    ·obtain⟨cur,hc⟩:=g3.at k hk;have:=hc.lt;omega
   by_cases hij:i=j<;>by_cases hij':i=j'
   ·omega
   ·subst hij;rw[List.getElem?_set_self hit]at ht';rw[List.getElem?_set_ne hij']at ht'';cases ht';exact(old hij' ht'' hk' hk).elim
   ·subst hij';rw[List.getElem?_set_ne hij]at ht';rw[List.getElem?_set_self hit]at ht'';cases ht'';exact(old hij ht' hk hk').elim
   ·rw[List.getElem?_set_ne hij]at ht';rw[List.getElem?_set_ne hij']at ht'';exact u4 j j' t' t'' k ht' ht'' hk hk'
 have hfin:=h5.putUnits (R':=fun k=>R1 k∨obk a2 c5=some k) (a2:=st.units_a) (n2:=st.units_n) (c2:=st.units_c) hF67 hnb hb7 (Frm.refl _ w7) hu7 (fun k=> .inl) (fun k hk=> .inl (h5.rUnits k hk)) (by
  rintro k (hk | hk)
  ·have:=h5.rLt k hk;omega
  ·obtain⟨cur,hc⟩:=ho.at k hk;have:=hc.lt;omega)
 refine zC hfin ⟨(Ext.frm (S:=R1) E5).trans hF67 fun k _ h=>h.elim (e4 k) (h5.rUnits k),?_⟩ ?_
 ·rintro k (hk | hk)
  ·exact .inl hk
  ·exact(hb6 k hk).imp (e4 k) fun h=>Nat.le_trans E5.size h
 ·exact hg _ (fun h=>absurd h hk) (fun _ h=>absurd h hb) fun _ _=>rfl
theorem aDz{w:World}{R:Nat→Prop}{bL:Nat}{st:Tstate}{M:MState}(h:Led w R bL st M)(hS:Small M)(hI:IdOk M){day:Int}(hd:aBc M day){name:ByteArray}{grains:Int}{Q:Int→World→Prop}
 (hQ:∀w' R' st',Led w' R' bL st' (M.setValue day name grains).2→(∀k,R' k→R k∨w.heap.size≤k)→Frm (fun k=>k=bL) w w'→Q (M.setValue day name grains).1 w'):
 Cl Pg 99 #[vp ⟨bL,0,none⟩,vi day,vs name,vi grains] w (fun v w'=>∃r,v=vi r∧Q r w'):=by
 refine mH.ok (bW (er w) fun b1 w1 hb1 h1 E _ _=>bW E fun b2 w2 hb2 h2 E e2 _=>bW E fun b3 w3 hb3 h3 E e3 _=>⟨_,aV ((h1.ext e2).ext e3) rfl,?_⟩);refine uQ (h.ext E) hS hI hd (g:=rC day name grains) (fun i j k=>aFY ((h1.ext e2).ext e3) (h2.ext e3) h3 (uX hS hd i j k)) fun w' R' st' hL hR F=>hQ _ _ _ hL (fun k hk=>(hR k hk).imp id fun h=>Nat.le_trans E.size h) (Ext.then E F)
end Go.Proofs.YtcbijkakoepglaaGreat
namespace Go.Proofs
open Go.Shelf
def Tryz.sortLine_ren:Go.Shelf.Ren:=⟨fun | 6=>126 | 15=>173 | 14=>172 | 28=>196 | 29=>197 | 20=>188 | 21=>189 | 22=>190 | 23=>191 | 24=>192 | 25=>193 | 26=>194 | 27=>195 | 46=>207 | 47=>208 | 48=>209 | 49=>210 | 50=>211 | 57=>217 | n=>n,fun | 22=>24 | 24=>49 | 25=>167 | 3=>3 | 39=>202 | 0=>0 | 53=>223 | 55=>225 | 4=>4 | 46=>216 | 45=>215 | 50=>220 | 5=>5 | 9=>9 | 66=>232 | 70=>236 | 76=>242 | 77=>205 | n=>n,fun | n=>n⟩
theorem Tryz.sortLine:Go.Proofs.SlLaysF0.n6 Tryz.prog Tryz.sortLine_ren:={
 mixed:=by kernel_rfl
 f6:=⟨Tryz.f126.name,by decide,Tryz.func126.trans (congrArg some (by kernel_rfl))⟩
 f14:=⟨Tryz.f172.name,by decide,Tryz.func172.trans (congrArg some (by kernel_rfl))⟩
 f15:=Tryz.func173.trans (congrArg some (by kernel_rfl))
 f20:=⟨Tryz.f188.name,by decide,Tryz.func188.trans (congrArg some (by kernel_rfl))⟩
 f21:=⟨Tryz.f189.name,by decide,Tryz.func189.trans (congrArg some (by kernel_rfl))⟩
 f22:=⟨Tryz.f190.name,by decide,Tryz.func190.trans (congrArg some (by kernel_rfl))⟩
 f23:=⟨Tryz.f191.name,by decide,Tryz.func191.trans (congrArg some (by kernel_rfl))⟩
 f24:=⟨Tryz.f192.name,by decide,Tryz.func192.trans (congrArg some (by kernel_rfl))⟩
 f25:=⟨Tryz.f193.name,by decide,Tryz.func193.trans (congrArg some (by kernel_rfl))⟩
 f26:=⟨Tryz.f194.name,by decide,Tryz.func194.trans (congrArg some (by kernel_rfl))⟩
 f27:=⟨Tryz.f195.name,by decide,Tryz.func195.trans (congrArg some (by kernel_rfl))⟩
 f28:=Tryz.func196.trans (congrArg some (by kernel_rfl))
 f29:=Tryz.func197.trans (congrArg some (by kernel_rfl))
 f46:=⟨Tryz.f207.name,by decide,Tryz.func207.trans (congrArg some (by kernel_rfl))⟩
 f47:=Tryz.func208.trans (congrArg some (by kernel_rfl))
 f48:=Tryz.func209.trans (congrArg some (by kernel_rfl))
 f49:=⟨Tryz.f210.name,by decide,Tryz.func210.trans (congrArg some (by kernel_rfl))⟩
 f50:=⟨Tryz.f211.name,by decide,Tryz.func211.trans (congrArg some (by kernel_rfl))⟩
 f57:=⟨Tryz.f217.name,by decide,Tryz.func217.trans (congrArg some (by kernel_rfl))⟩
 t0:=Tryz.underlying0
 a0:=Tryz.isAgg0
 z0:=Tryz.sizeOf0
 v0:=Tryz.zeroValue0
 t3:=Tryz.underlying3
 a3:=Tryz.isAgg3
 z3:=Tryz.sizeOf3
 v3:=Tryz.zeroValue3
 t4:=Tryz.underlying4
 a4:=Tryz.isAgg4
 z4:=Tryz.sizeOf4
 v4:=Tryz.zeroValue4
 t5:=Tryz.underlying5
 a5:=Tryz.isAgg5
 z5:=Tryz.sizeOf5
 v5:=Tryz.zeroValue5
 t9:=Tryz.underlying9
 a9:=Tryz.isAgg9
 z9:=Tryz.sizeOf9
 v9:=Tryz.zeroValue9
 t22:=Tryz.underlying24
 a22:=Tryz.isAgg24
 z22:=Tryz.sizeOf24
 v22:=Tryz.zeroValue24
 t25:=Tryz.underlying167
 a25:=Tryz.isAgg167
 z25:=Tryz.sizeOf167
 v25:=Tryz.zeroValue167
 t39:=Tryz.underlying202
 a39:=Tryz.isAgg202
 z39:=Tryz.sizeOf202
 v39:=Tryz.zeroValue202
 t45:=Tryz.underlying215
 a45:=Tryz.isAgg215
 z45:=Tryz.sizeOf215
 v45:=Tryz.zeroValue215
 t46:=Tryz.underlying216
 a46:=Tryz.isAgg216
 z46:=Tryz.sizeOf216
 v46:=Tryz.zeroValue216
 t50:=Tryz.underlying220
 a50:=Tryz.isAgg220
 z50:=Tryz.sizeOf220
 v50:=Tryz.zeroValue220
 t53:=Tryz.underlying223
 a53:=Tryz.isAgg223
 z53:=Tryz.sizeOf223
 v53:=Tryz.zeroValue223
 t55:=Tryz.underlying225
 a55:=Tryz.isAgg225
 z55:=Tryz.sizeOf225
 v55:=Tryz.zeroValue225
 t66:=Tryz.underlying232
 a66:=Tryz.isAgg232
 z66:=Tryz.sizeOf232
 v66:=Tryz.zeroValue232
 t70:=Tryz.underlying236
 a70:=Tryz.isAgg236
 z70:=Tryz.sizeOf236
 v70:=Tryz.zeroValue236
 t76:=Tryz.underlying242
 a76:=Tryz.isAgg242
 z76:=Tryz.sizeOf242
 v76:=Tryz.zeroValue242
 t77:=Tryz.underlying205
 a77:=Tryz.isAgg205
 z77:=Tryz.sizeOf205
 v77:=Tryz.zeroValue205}
def Tryz.sortAmount_ren:Go.Shelf.Ren:=⟨fun | 6=>145 | 15=>173 | 14=>184 | 28=>196 | 29=>197 | 20=>199 | 21=>200 | 22=>201 | 23=>202 | 24=>203 | 25=>204 | 26=>205 | 27=>206 | 46=>214 | 47=>208 | 48=>209 | 49=>215 | 50=>216 | 57=>219 | n=>n,fun | 22=>53 | 24=>58 | 25=>180 | 3=>3 | 39=>202 | 0=>0 | 53=>223 | 55=>225 | 4=>4 | 46=>216 | 45=>215 | 50=>220 | 5=>5 | 9=>9 | 66=>232 | 70=>236 | 76=>242 | 77=>205 | n=>n,fun | n=>n⟩
theorem Tryz.sortAmount:Go.Proofs.SlLaysF0.n6 Tryz.prog Tryz.sortAmount_ren:={
 mixed:=by kernel_rfl
 f6:=⟨Tryz.f145.name,by decide,Tryz.func145.trans (congrArg some (by kernel_rfl))⟩
 f14:=⟨Tryz.f184.name,by decide,Tryz.func184.trans (congrArg some (by kernel_rfl))⟩
 f15:=Tryz.func173.trans (congrArg some (by kernel_rfl))
 f20:=⟨Tryz.f199.name,by decide,Tryz.func199.trans (congrArg some (by kernel_rfl))⟩
 f21:=⟨Tryz.f200.name,by decide,Tryz.func200.trans (congrArg some (by kernel_rfl))⟩
 f22:=⟨Tryz.f201.name,by decide,Tryz.func201.trans (congrArg some (by kernel_rfl))⟩
 f23:=⟨Tryz.f202.name,by decide,Tryz.func202.trans (congrArg some (by kernel_rfl))⟩
 f24:=⟨Tryz.f203.name,by decide,Tryz.func203.trans (congrArg some (by kernel_rfl))⟩
 f25:=⟨Tryz.f204.name,by decide,Tryz.func204.trans (congrArg some (by kernel_rfl))⟩
 f26:=⟨Tryz.f205.name,by decide,Tryz.func205.trans (congrArg some (by kernel_rfl))⟩
 f27:=⟨Tryz.f206.name,by decide,Tryz.func206.trans (congrArg some (by kernel_rfl))⟩
 f28:=Tryz.func196.trans (congrArg some (by kernel_rfl))
 f29:=Tryz.func197.trans (congrArg some (by kernel_rfl))
 f46:=⟨Tryz.f214.name,by decide,Tryz.func214.trans (congrArg some (by kernel_rfl))⟩
 f47:=Tryz.func208.trans (congrArg some (by kernel_rfl))
 f48:=Tryz.func209.trans (congrArg some (by kernel_rfl))
 f49:=⟨Tryz.f215.name,by decide,Tryz.func215.trans (congrArg some (by kernel_rfl))⟩
 f50:=⟨Tryz.f216.name,by decide,Tryz.func216.trans (congrArg some (by kernel_rfl))⟩
 f57:=⟨Tryz.f219.name,by decide,Tryz.func219.trans (congrArg some (by kernel_rfl))⟩
 t0:=Tryz.underlying0
 a0:=Tryz.isAgg0
 z0:=Tryz.sizeOf0
 v0:=Tryz.zeroValue0
 t3:=Tryz.underlying3
 a3:=Tryz.isAgg3
 z3:=Tryz.sizeOf3
 v3:=Tryz.zeroValue3
 t4:=Tryz.underlying4
 a4:=Tryz.isAgg4
 z4:=Tryz.sizeOf4
 v4:=Tryz.zeroValue4
 t5:=Tryz.underlying5
 a5:=Tryz.isAgg5
 z5:=Tryz.sizeOf5
 v5:=Tryz.zeroValue5
 t9:=Tryz.underlying9
 a9:=Tryz.isAgg9
 z9:=Tryz.sizeOf9
 v9:=Tryz.zeroValue9
 t22:=Tryz.underlying53
 a22:=Tryz.isAgg53
 z22:=Tryz.sizeOf53
 v22:=Tryz.zeroValue53
 t25:=Tryz.underlying180
 a25:=Tryz.isAgg180
 z25:=Tryz.sizeOf180
 v25:=Tryz.zeroValue180
 t39:=Tryz.underlying202
 a39:=Tryz.isAgg202
 z39:=Tryz.sizeOf202
 v39:=Tryz.zeroValue202
 t45:=Tryz.underlying215
 a45:=Tryz.isAgg215
 z45:=Tryz.sizeOf215
 v45:=Tryz.zeroValue215
 t46:=Tryz.underlying216
 a46:=Tryz.isAgg216
 z46:=Tryz.sizeOf216
 v46:=Tryz.zeroValue216
 t50:=Tryz.underlying220
 a50:=Tryz.isAgg220
 z50:=Tryz.sizeOf220
 v50:=Tryz.zeroValue220
 t53:=Tryz.underlying223
 a53:=Tryz.isAgg223
 z53:=Tryz.sizeOf223
 v53:=Tryz.zeroValue223
 t55:=Tryz.underlying225
 a55:=Tryz.isAgg225
 z55:=Tryz.sizeOf225
 v55:=Tryz.zeroValue225
 t66:=Tryz.underlying232
 a66:=Tryz.isAgg232
 z66:=Tryz.sizeOf232
 v66:=Tryz.zeroValue232
 t70:=Tryz.underlying236
 a70:=Tryz.isAgg236
 z70:=Tryz.sizeOf236
 v70:=Tryz.zeroValue236
 t76:=Tryz.underlying242
 a76:=Tryz.isAgg242
 z76:=Tryz.sizeOf242
 v76:=Tryz.zeroValue242
 t77:=Tryz.underlying205
 a77:=Tryz.isAgg205
 z77:=Tryz.sizeOf205
 v77:=Tryz.zeroValue205}
end Go.Proofs
namespace Go.Proofs.YtcbijkakoepglaaGreat
open Go Go.Wx Go.Sort Go.Shelf
theorem aGN{w w':World}(E:Ext w w'):∃q os,w'=grow (w.drewN q) os:=by
 obtain⟨e1,e2,e3,e4,e5,e6⟩:=E;refine⟨w'.drawn-w.drawn,w'.heap.extract w.heap.size w'.heap.size,?_⟩;have hh:w'.heap=w.heap++w'.heap.extract w.heap.size w'.heap.size:=by
  apply Array.ext_getElem?;intro k;by_cases hk:k<w.heap.size
  ·rw[Array.getElem?_append_left hk,e6 k hk id]
  ·rw[Array.getElem?_append_right (by omega),Array.getElem?_extract];split
   ·congr 1;omega
   ·rename_i h;rw[Array.getElem?_eq_none (by simp at h;omega)]
 have hd:w'.drawn=w.drawn+(w'.drawn-w.drawn):=by omega
 cases w;cases w';simp only at e1 e2 e3 hh hd;subst e1 e2 e3;unfold grow World.drewN;simp only[World.mk.injEq];exact⟨hh,trivial,hd,trivial,trivial⟩
section
variable {α : Type} [Inhabited α] {enc : α → List Value} {sz T : Nat}
theorem aBY(he:∀x,(enc x).length=sz)(hs:0<sz)(d:Array α):(flatK enc sz d).toList=d.toList.flatMap enc:=by
 apply List.ext_getElem?;intro t;have ht:t=(t / sz)*sz+t % sz:=by rw[Nat.mul_comm];exact(Nat.div_add_mod t sz).symm
 have hr:t % sz<sz:=Nat.mod_lt _ hs;by_cases hl:t<d.size*sz
 ·have hq:t / sz<d.size:=(Nat.div_lt_iff_lt_mul hs).2 hl;rw[Array.getElem?_toList,Array.getElem?_eq_getElem (by rw[size_flatK];exact hl),←getElem!_pos (flatK enc sz d) t (by rw[size_flatK];exact hl),get_flatK enc sz d t hl];have hf:=aA8 he d.toList (t / sz) (t % sz) hr;rw[←ht]at hf;rw[hf,Array.getElem?_toList,Array.getElem?_eq_getElem hq,getElem!_pos d _ hq];simp only[Option.bind_some];rw[List.getElem?_eq_getElem (by rw[he];exact hr),getElem!_pos]
 ·rw[List.getElem?_eq_none (by simp;omega),List.getElem?_eq_none (by rw[uE he];simp;omega)]
theorem own_holds(he:∀x,(enc x).length=sz)(hs:0<sz){w:World}{g n c:Nat}{d:Array α}(ho:Own T sz enc w (some ⟨g,0,none⟩) n c d.toList)(hn:n≠0):HoldsK enc sz w g 0 d:=by
 intro j hj;obtain⟨g',cur,e,hat,hnc,hcm,hsz,htk⟩:=ho.2.resolve_left (fun h=>hn h.2);cases e;have hl:=ho.1;rw[size_flatK]at hj;have hj':j<n*sz:=by rw[hl];simpa using hj
 constructor
 ·refine aV hat ?_;have hF:(flatK enc sz d)[j]? =cur[j]? :=by
   rw[←Array.getElem?_toList,aBY he hs,←htk,List.getElem?_take,if_pos hj',Array.getElem?_toList]
  rw[Nat.zero_add,id_eq,getElem!_pos _ j (by rw[size_flatK];exact hj),←Array.getElem?_eq_getElem,hF]
 ·have hat':w.heap[g]? =some (.cells cur T (0,0)):=hat;simp[World.frozen?,hat']
theorem xA(he:∀x,(enc x).length=sz)(hs:0<sz){w:World}{g n c:Nat}{xs:List α}(ho:Own T sz enc w (some ⟨g,0,none⟩) n c xs)(hn:n≠0){d':Array α}(hd:d'.size=n)(m:Nat)(os:Array Obj):
 Own T sz enc (sortWorldK enc sz w g 0 m d' os) (some ⟨g,0,none⟩) n c d'.toList∧Frm (fun k=>k=g) w (sortWorldK enc sz w g 0 m d' os):=by
 obtain⟨g',cur,e,hat,hnc,hcm,hsz,htk⟩:=ho.2.resolve_left (fun h=>hn h.2);cases e;have hg:g<(putRowK enc sz (Sort.ahead w m) g 0 d').heap.size:=by
  unfold putRowK;rw[size_putRow];exact hat.lt
 have hat':w.heap[g]? =some (.cells cur T (0,0)):=hat;have h1:(sortWorldK enc sz w g 0 m d' os).heap[g]? =some (.cells (putCells id 0 (flatK enc sz d') cur) T (0,0)):=by
  unfold sortWorldK;rw[heap_grow_old _ _ hg];unfold putRowK putRow mapBlock;simp only[Array.getElem?_modify,if_true,Sort.heap_ahead,hat',Option.map_some,onCells]
 have hle:n*sz≤cur.size:=by rw[hsz];exact Nat.mul_le_mul_right _ hnc
 refine⟨⟨by simp[hd],.inr ⟨g,_,rfl,h1,hnc,hcm,by simp[putCells,hsz],?_⟩⟩,?_⟩
 ·rw[←aBY he hs];apply List.ext_getElem?;intro k;rw[List.getElem?_take];by_cases hk:k<n*sz
  ·have hk':k<(flatK enc sz d').size:=by rw[size_flatK,hd];exact hk
   rw[if_pos hk,Array.getElem?_toList,Array.getElem?_toList,Array.getElem?_eq_getElem hk'];simp only[putCells,Array.getElem?_mapIdx];rw[Array.getElem?_eq_getElem (by omega)];simp only[Option.map_some,Nat.zero_le,true_and,Nat.zero_add,hk',if_true,Nat.sub_zero,id_eq];rw[getElem!_pos _ k hk']
  ·rw[if_neg hk,List.getElem?_eq_none (by simp[hd];omega)]
 ·refine⟨rfl,rfl,rfl,?_,?_,?_⟩
  ·show w.drawn≤w.drawn+m;omega
  ·unfold sortWorldK;rw[size_grow];unfold putRowK;rw[size_putRow];exact Nat.le_add_right _ _
  ·intro b hb hne;unfold sortWorldK;rw[heap_grow_old _ _ (by unfold putRowK;rw[size_putRow];exact hb)];unfold putRowK putRow mapBlock;simp only[Array.getElem?_modify,Sort.heap_ahead];rw[if_neg (fun e=>hne e.symm)]
theorem aF3{gf:Nat}{cb:Array Value}{cf:α→α→Int}{w:World}{g n:Nat}(hf:aA2 (.func (.func gf) #[] cb) enc cf (fun k=>k=g) w)
 (hw:∀(m:Nat) (os:Array Obj) (dk:Array α),dk.size=n→Frm (fun k=>k=g) w (sortWorldK enc sz w g 0 m dk os)):CmpLays Pg gf cb enc sz cf g 0 n w:=by
 intro m os dk hs x y;obtain⟨g',c',e,_,h⟩:=hf x y _ (hw m os dk hs) (fun r w'=>r=cf x y∧Ext (sortWorldK enc sz w g 0 m dk os) w') (fun w' E=>⟨rfl,E⟩);cases e;refine Calls.mono h ?_;rintro en w' ⟨v,rfl,r,rfl,rfl,E⟩;exact⟨rfl,aGN E⟩
theorem sortF{gf fn:Nat}{cb:Array Value}{cf:α→α→Int}{ρ:Go.Shelf.Ren}(L:SlLaysF0.n6 Pg ρ)(hfn:ρ.f 6=fn)(aE:∀w,(isAgg (ρ.t 24)).run Pg w= .ok true w)(zE:∀w,(Go.sizeOf (ρ.t 24)).run Pg w= .ok sz w)
 (he:∀x,(enc x).length=sz) (hs:0<sz) (h1:∀x,∀v∈enc x,v.oneCell'=true) (hO:SWO fun x y=>decide (cf x y<0)) (eg:∀args w,(callFunc gf args).run Pg w= .ok (.enter gf args) w)
 {w:World} {a:Option Addr} {n c:Nat} {xs:List α} (ho:Own T sz enc w a n c xs) (hn:n≤1000000) (hf:aA2 (.func (.func gf) #[] cb) enc cf (fun k=>obk a c=some k) w)
 (hk:∀x∈xs,∀y∈xs,¬cf x y<0→¬cf y x<0→x=y) {Q:World→Prop}
 (hQ:∀w',Own T sz enc w' a n c (isort (fun x y=>decide (cf x y<0)) xs)→Frm (fun k=>obk a c=some k) w w'→Q w'):Cl Pg fn #[vl a n c,.func (.func gf) #[] cb] w (fun v w'=>v= .tuple #[]∧Q w'):=by
 subst hfn;by_cases hn0:n=0
 ·subst hn0;obtain rfl:xs=[]:=List.eq_nil_of_length_eq_zero ho.1.symm;refine Calls.mono (AnyF.slices_SortFunc_none L a c _ w) ?_;rintro e w' ⟨rfl,rfl⟩;exact⟨_,rfl,rfl,hQ _ ho (Frm.refl _ _)⟩
 ·obtain⟨g,cur,rfl,hat,hnc,_⟩:=ho.2.resolve_left (fun h=>hn0 h.2);have hc:c≠0:=by omega
  have hobk:∀k,obk (some (⟨g,0,none⟩:Addr)) c=some k↔k=g:=fun k=>by simp[obk,hc,eq_comm]
  have hl:=ho.1;have ho':Own T sz enc w (some ⟨g,0,none⟩) n c xs.toArray.toList:=ho;have hlt:ltOf cf=fun x y=>decide (cf x y<0):=rfl;have hsz:xs.toArray.size=n:=by simp[hl]
  have hf':aA2 (.func (.func gf) #[] cb) enc cf (fun k=>k=g) w:=fun x y w' F=>hf x y w' (F.mono fun k _ hk=>(hobk k).2 hk);have h:=AnyQ.slices_SortFunc (P:=Pg) L sz aE zE enc he h1 cf hO gf cb g 0 c xs.toArray w eg (aF3 hf' fun m os dk hdk=>(xA he hs ho hn0 (hdk.trans hsz) m os).2) (own_holds he hs ho' hn0) hat.lt (by omega);rw[hsz]at h;refine Calls.mono h ?_;rintro e w' ⟨rfl,d',m,os,hp,hso,rfl⟩;have hd:d'.size=n:=hp.1.trans hsz;obtain⟨ho2,F2⟩:=xA he hs ho hn0 hd m os
  have hp':=aBG (d:=xs.toArray) (d':=d') (by rw[hsz];exact hp);have he2:d'.toList=isort (fun x y=>decide (cf x y<0)) xs:=lN hO hp' (aA0 (by rw[hd];exact hso)) fun x hx y hy h1 h2=>hk x hx y hy (by simpa using h1) (by simpa using h2);rw[he2]at ho2;exact⟨_,rfl,rfl,hQ _ ho2 (F2.mono fun k _ hk=>(hobk k).2 hk)⟩
end
instance : Inhabited TTrialLine := ⟨⟨0, 0, ByteArray.mk #[], 0⟩⟩
instance : Inhabited TAmount := ⟨⟨ByteArray.mk #[], 0⟩⟩
theorem aEe{l:List Value}(h:l.all Value.oneCell'=true):∀u∈l,u.oneCell'=true:=List.all_eq_true.1 h
theorem yM{g:Nat}(h:aB6 Pg g=true):∀args w,(callFunc g args).run Pg w= .ok (.enter g args) w:=by
 unfold aB6 at h;split at h
 ·rename_i fn hf;simp only[Bool.and_eq_true,Bool.not_eq_true']at h;obtain⟨c,hc⟩:=Option.isSome_iff_exists.1 h.2;exact enters_of hf h.1 hc
 ·cases h
theorem aFS(x:TAmount):∀v∈x.enc,v.oneCell'=true:=aEe rfl
theorem aFC{w:World}{a:Option Addr}{n c:Nat}{xs:List TTrialLine}(ho:Own 49 4 TTrialLine.enc w a n c xs)(hn:n≤1000000)
 (hk:∀x∈xs,∀y∈xs,x.Account_Kind=y.Account_Kind→x.Account_Id=y.Account_Id→x.Unit=y.Unit→x=y) {Q:World→Prop}
 (hQ:∀w',Own 49 4 TTrialLine.enc w' a n c (isort iZ xs)→Frm (fun k=>obk a c=some k) w w'→Q w'):Cl Pg 126 #[vl a n c,.func (.func 127) #[] #[]] w (fun v w'=>v= .tuple #[]∧Q w'):=by
 refine sortF (cf:=aCv) Go.Proofs.Tryz.sortLine (by kernel_rfl) (fun w=>(sF (w:=w) (show tyk Pg _=some (true,4)from xW)).1) (fun w=>(sF (w:=w) (show tyk Pg _=some (true,4)from xW)).2) (fun _=>rfl) (by decide) (fun x=>aEe rfl) swoLine (yM (by kernel_rfl)) ho hn (aGW _ _) ?_ hQ;intro x hx y hy h1 h2;have h1:iZ x y=false:=by unfold iZ;simpa using h1
 have h2:iZ y x=false:=by unfold iZ;simpa using h2
 rw[qY]at h1 h2;have e1:x.Account_Kind=y.Account_Kind:=by
  apply Classical.byContradiction;intro hne;by_cases h3:x.Account_Kind<y.Account_Kind
  ·exact h1 (.inl h3)
  ·exact h2 (.inl (by omega))
 have e2:x.Account_Id=y.Account_Id:=by
  apply Classical.byContradiction;intro hne;by_cases h3:x.Account_Id<y.Account_Id
  ·exact h1 (.inr ⟨e1,.inl h3⟩)
  ·exact h2 (.inr ⟨e1.symm,.inl (by omega)⟩)
 refine hk x hx y hy e1 e2 (nX ?_ ?_)
 ·cases h:iO x.Unit y.Unit with
  | false=>rfl
  | true=>exact(h1 (.inr ⟨e1,.inr ⟨e2,h⟩⟩)).elim
 ·cases h:iO y.Unit x.Unit with
  | false=>rfl
  | true=>exact(h2 (.inr ⟨e1.symm,.inr ⟨e2.symm,h⟩⟩)).elim
theorem aDC{w:World}{a:Option Addr}{n c:Nat}{xs:List TAmount}(ho:Own 58 2 TAmount.enc w a n c xs)(hn:n≤1000000)
 (hk:∀x∈xs,∀y∈xs,x.Unit=y.Unit→x=y) {Q:World→Prop}
 (hQ:∀w',Own 58 2 TAmount.enc w' a n c (isort mM xs)→Frm (fun k=>obk a c=some k) w w'→Q w'):Cl Pg 145 #[vl a n c,.func (.func 146) #[] #[]] w (fun v w'=>v= .tuple #[]∧Q w'):=by
 refine sortF (cf:=vY) Go.Proofs.Tryz.sortAmount (by kernel_rfl) (fun w=>(sF (w:=w) (show tyk Pg _=some (true,2)from yP)).1) (fun w=>(sF (w:=w) (show tyk Pg _=some (true,2)from yP)).2) (fun _=>rfl) (by decide) aFS tY (yM (by kernel_rfl)) ho hn (aEY _ _) ?_ hQ;intro x hx y hy h1 h2;have e:∀{a b:TAmount},¬vY a b<0→iO a.Unit b.Unit=false:=fun{a b} h=>by
  have:mM a b=false:=by unfold mM;simpa using h
  rw[←Bool.not_eq_true,nP,Bool.not_eq_true]at this;exact this
 exact hk x hx y hy (nX (e h1) (e h2))
end Go.Proofs.YtcbijkakoepglaaGreat
namespace Go.Proofs.YtcbijkakoepglaaGreat
open Go Go.Wx
theorem eqI111{d:Nat}{w:World}{a0:Int}{b0:Int}{a1:Int}{b1:Int}{a2:ByteArray}{b2:ByteArray}:(Op.equalIn (d+3) 111 (.agg (List.toArray [vu a0,vi a1,vs a2])) (.agg (List.toArray [vu b0,vi b1,vs b2]))).run Pg w= .ok (((a0==b0)&&((a1==b1)&&true))&&(dF a2 b2&&true)) w:=by
 rw[run_equalIn_struct w (d+2) 111 _ _ (by kernel_rfl) (by kernel_rfl)];simp only[Program.fieldsOf,show Pg.underlying 111=_ from Tryz.underlying111];exact lC (a:=vg [vu a0,vi a1]) (b:=vg [vu b0,vi b1]) (by kernel_rfl) (by kernel_rfl) (by kernel_rfl) (tL (d:=d+0)) (lC (a:=vs a2) (b:=vs b2) (by kernel_rfl) (by kernel_rfl) (by kernel_rfl) (run_equalIn_string w (d+1) 9 _ _ (by kernel_rfl)) wS)
theorem beqB(x:ByteArray):(x==x)=true:=by
 first | exact beq_self_eq_true x | (cases x;show ByteArray.beq _ _=true;simp[ByteArray.beq]) | (cases x;show ByteArray.beq _ _=true;unfold ByteArray.beq;simp) | simp
def ents{κ:Type}(enc:κ→Value)(k:Nat):List (κ × Int)→List MapEntry
 |[]=>[]
 | (x,v)::m=>⟨enc x,vi v,k⟩::ents enc (k+1) m
def MapIs{κ:Type}(enc:κ→Value)(w:World)(b:Nat)(m:List (κ × Int)):Prop:=At w b (.map (ents enc 0 m).toArray m.length)∧m.Pairwise fun x y=>x.1≠y.1
structure Keys(κ:Type) [DecidableEq κ](mt kt:TypeId)(enc:κ→Value):Prop where
 under:∃el,Pg.underlying mt=some (.map kt el)∧∀w,(zeroValue el).run Pg w= .ok (vi 0) w
 check:∀(w:World) (b:Bool) (x:κ),(Instr.checkKey b 10000 kt (enc x)).run Pg w= .ok () w
 find:∀(w:World) (x:κ) (m:List (κ × Int)),(Instr.findKey kt (enc x) (ents enc 0 m)).run Pg w= .ok ((m.findIdx? fun y=>decide (x=y.1)).map fun i=>(i,vi ((m[i]?.map (·.2)).getD 0))) w
 bits:∀x:κ,Instr.sameBits 10000 (enc x) (enc x)=true
def j4(x:Tplace):Value:=vg x.enc
instance : DecidableEq Tplace := fun a b => decidable_of_iff (a.account_Kind = b.account_Kind ∧ a.account_Id = b.account_Id ∧ a.unit = b.unit) Tplace.ext_iff.symm
theorem vU{κ:Type} [DecidableEq κ]{kt:TypeId}{enc:κ→Value}(heq:∀(w:World) (x y:κ),(Op.equal kt (enc x) (enc y)).run Pg w= .ok (decide (x=y)) w)(w:World)(x:κ):∀(m:List (κ × Int)) (k i:Nat),
 (Instr.findAsking kt (enc x) (ents enc k m) i).run Pg w= .ok ((m.findIdx? fun y=>decide (x=y.1)).map fun j=>(i+j,vi ((m[j]?.map (·.2)).getD 0))) w
 |[],k,i=>rfl
 | (y,v)::m,k,i=>by
  simp only[ents,Instr.findAsking,run_bind,heq,List.findIdx?_cons];by_cases h:x=y
  ·subst h;simp[iE]
  ·simp only[h,decide_false,Bool.false_eq_true,if_false];rw[vU heq w x m (k+1) (i+1)];congr 1;rw[Option.map_map];congr 1;funext j;simp only[Function.comp,Prod.mk.injEq];exact⟨by omega,by simp⟩
theorem pW:Keys Tplace 103 111 j4:={
 under:=⟨3,by kernel_rfl,fun w=>by kernel_rfl⟩
 check w b x:=by cases x;kernel_rfl
 bits x:=by cases x;simp[j4,Tplace.enc,Instr.sameBits];exact beqB _
 find w x m:=by
  have heq:∀(w:World) (x y:Tplace),(Op.equal 111 (j4 x) (j4 y)).run Pg w= .ok (decide (x=y)) w:=fun w x y=>by
   cases x;cases y;show(Op.equalIn (9997+3) 111 _ _).run Pg w=_;rw[show j4 ⟨_,_,_⟩= .agg (List.toArray [vu _,vi _,vs _])from rfl,show j4 ⟨_,_,_⟩= .agg (List.toArray [vu _,vi _,vs _])from rfl,eqI111];congr 1;rw[Bool.eq_iff_iff];simp only[Bool.and_true,Bool.and_eq_true,beq_iff_eq,iX,decide_eq_true_eq,Tplace.mk.injEq,and_assoc]
  obtain⟨fs,hu⟩:∃fs,Pg.underlying 111=some (.struct fs):=⟨_,Tryz.underlying111⟩;unfold Instr.findKey;simp only[run_bind,run_underlying hu];cases m with
  | nil=>rfl
  | cons y m=>
   obtain⟨y,v⟩:=y;have:Instr.findNow (.struct fs) (j4 x) (ents j4 0 ((y,v)::m)) 0=none:=rfl;rw[this];have h:=vU heq w x ((y,v)::m) 0 0;simp only[Nat.zero_add]at h;exact h}
theorem aAQ(w:World)(x:ByteArray):∀(m:List (ByteArray × Int)) (k i:Nat),
 Instr.findNow .string (vs x) (ents vs k m) i=some ((m.findIdx? fun y=>decide (x=y.1)).map fun j=>(i+j,vi ((m[j]?.map (·.2)).getD 0)))
 |[],k,i=>rfl
 | (y,v)::m,k,i=>by
  simp only[ents,Instr.findNow,Instr.sameNow,List.findIdx?_cons];by_cases h:x=y
  ·subst h;rw[beqB];simp
  ·have:(x==y)=false:=by
    rw[←Bool.not_eq_true];intro e;exact h ((Go.MapKept.bytes_beq x y).1 e)
   rw[this];simp only[h,decide_false,Bool.false_eq_true,if_false];rw[aAQ w x m (k+1) (i+1),Option.map_map];congr 2;funext j;simp only[Function.comp,Prod.mk.injEq];exact⟨by omega,by simp⟩
theorem aCl:Keys ByteArray 56 9 vs:={
 under:=⟨3,by kernel_rfl,fun w=>by kernel_rfl⟩
 check w b x:=by kernel_rfl
 bits x:=by show(x==x)=true;exact beqB x
 find w x m:=by
  unfold Instr.findKey;simp only[run_bind,run_underlying (show Pg.underlying 9=some .string by kernel_rfl),aAQ w x m 0 0,Nat.zero_add];rfl}
section
variable {κ : Type} [DecidableEq κ] {mt kt : TypeId} {enc : κ → Value} {w : World} {b : Nat} {m : List (κ × Int)}
def jX(m:List (κ × Int))(x:κ):Int:=match m with
 |[]=>0
 | (y,v)::m=>if x=y then v else jX m x
def pA(m:List (κ × Int))(x:κ)(v:Int):List (κ × Int):=match m with
 |[]=>[(x,v)]
 | (y,u)::m=>if x=y then(y,v)::m else(y,u)::pA m x v
theorem sO(k:Nat):(ents enc k m).length=m.length:=by
 induction m generalizing k with
 | nil=>rfl
 | cons y m ih=>obtain⟨y,v⟩:=y;simp[ents,ih]
theorem rF:∀(m:List (κ × Int)) (k j:Nat),(ents enc k m)[j]? =m[j]?.map fun y=>⟨enc y.1,vi y.2,k+j⟩
 |[],k,j=>by simp[ents]
 | (y,v)::m,k,0=>by simp[ents]
 | (y,v)::m,k,j+1=>by simp[ents,rF m (k+1) j,show k+1+j=k+(j+1) by omega]
theorem rS(x:κ):∀(m:List (κ × Int)),(m.findIdx? (fun y=>decide (x=y.1))=none∧jX m x=0∧(∀v,pA m x v=m++[(x,v)])∧∀y∈m,x≠y.1)∨
 ∃j,m.findIdx? (fun y=>decide (x=y.1))=some j∧m[j]? =some (x,jX m x)∧∀v,pA m x v=m.set j (x,v)
 |[]=> .inl ⟨rfl,rfl,fun _=>rfl,fun y h=>by cases h⟩
 | (y,u)::m=>by
  by_cases h:x=y
  ·subst h;exact .inr ⟨0,by simp[List.findIdx?_cons],by simp[jX],fun v=>by simp[pA]⟩
  ·rcases rS x m with⟨h1,h2,h3,h4⟩ | ⟨j,h1,h2,h3⟩
   ·refine .inl ⟨by simp[List.findIdx?_cons,h,h1],by simp[jX,h,h2],fun v=>by simp[pA,h,h3],fun z hz=>?_⟩;rcases List.mem_cons.1 hz with rfl | hz
    ·exact h
    ·exact h4 z hz
   ·exact .inr ⟨j+1,by simp[List.findIdx?_cons,h,h1],by simp[jX,h,h2],fun v=>by simp[pA,h,h3]⟩
theorem MapIs.frm{S:Nat→Prop}{w':World}(h:MapIs enc w b m)(F:Frm S w w')(hn:¬S b):MapIs enc w' b m:=⟨h.1.frm F hn,h.2⟩
theorem MapIs.ext{w':World}(h:MapIs enc w b m)(E:Ext w w'):MapIs enc w' b m:=⟨h.1.ext E,h.2⟩
theorem MapIs.new{w:World}{b:Nat}(h:At w b (.map #[] 0)):MapIs enc w b []:=⟨h,.nil⟩
theorem rX(h:MapIs enc w b m):(getObj b).run Pg w= .ok (.map (ents enc 0 m).toArray m.length) w:=by
 have h':w.heap[b]? =_:=h.1;simp[getObj,Sem.run,h']
theorem vK{o:Obj}(h:MapIs enc w b m):(setObj b o).run Pg w= .ok () (lY w b o):=by
 have h':w.heap[b]? =_:=h.1;simp[setObj,Sem.run,h',lY]
theorem pO(K:Keys κ mt kt enc)(h:MapIs enc w b m)(x:κ):(Instr.lookup mt (.map (some b)) (enc x) false).run Pg w= .ok (vi (jX m x)) w:=by
 obtain⟨el,hu,hz⟩:=K.under;unfold Instr.lookup;simp only[run_bind,run_underlying hu,rX h,iE,K.check,K.find];rcases rS x m with⟨h1,h2,_,_⟩ | ⟨j,h1,h2,_⟩
 ·rw[h1,h2];simp only[Option.map_none,run_bind,hz,iE];rfl
 ·rw[h1];simp only[Option.map_some,iE,h2,Option.getD_some];rfl
theorem aDU(K:Keys κ mt kt enc)(x:κ)(w:World):(Instr.keyThatStays (enc x) (enc x)).run Pg w= .ok (enc x) w:=by
 unfold Instr.keyThatStays;rw[K.bits,if_pos rfl];rfl
theorem vW(k:Nat)(x:κ)(v:Int):∀(m:List (κ × Int)) (k:Nat),ents enc k (m++[(x,v)])=ents enc k m++[⟨enc x,vi v,k+m.length⟩]
 |[],k=>by simp[ents]
 | (y,u)::m,k=>by
  simp only[List.cons_append,ents,vW k x v m (k+1),List.length_cons];rw[show k+1+m.length=k+(m.length+1) by omega]
theorem aD8(x:κ)(v:Int):∀(m:List (κ × Int)) (k j:Nat),j<m.length→(ents enc k m).set j ⟨enc x,vi v,k+j⟩=ents enc k (m.set j (x,v))
 |[],k,j,h=>by simp at h
 | (y,u)::m,k,0,_=>by simp[ents]
 | (y,u)::m,k,j+1,h=>by
  simp only[ents,List.set_cons_succ];rw[show k+(j+1)=k+1+j by omega,aD8 x v m (k+1) j (by simpa using h)]
theorem qS{x:κ}{u v:Int}{j:Nat}(hj:m[j]? =some (x,u))(f:MapEntry→MapEntry)(hf:f ⟨enc x,vi u,j⟩=⟨enc x,vi v,j⟩):(ents enc 0 m).toArray.modify j f=(ents enc 0 (m.set j (x,v))).toArray:=by
 apply Array.ext';have hlt:=(List.getElem?_eq_some_iff.1 hj).1;rw[Array.toList_modify,←aD8 x v m 0 j hlt];apply List.ext_getElem?;intro k;rw[List.getElem?_modify,List.getElem?_set];by_cases h:j=k
 ·subst h;simp only[if_true];rw[if_pos (by rw[sO];exact hlt),rF,hj];simp[hf]
 ·simp[h]
theorem aFy{x:κ}{u v:Int}{j:Nat}(hj:m[j]? =some (x,u))(h:m.Pairwise fun x y=>x.1≠y.1):(m.set j (x,v)).Pairwise fun x y=>x.1≠y.1:=by
 have h':(m.map (·.1)).Nodup:=List.pairwise_map.2 h;have e:(m.set j (x,v)).map (·.1)=m.map (·.1):=by
  rw[List.map_set];apply List.ext_getElem?;intro k;rw[List.getElem?_set];split
  ·rename_i e;subst e;split
   ·simp[hj]
   ·rename_i h;rw[List.getElem?_eq_none (by omega)]
  ·rfl
 rw[←e]at h';exact List.pairwise_map.1 h'
theorem aFz{x:κ}{v:Int}(h:m.Pairwise fun x y=>x.1≠y.1)(hx:∀y∈m,x≠y.1):(m++[(x,v)]).Pairwise fun x y=>x.1≠y.1:=by
 refine List.pairwise_append.2 ⟨h,by simp,fun y hy z hz=>?_⟩;simp at hz;subst hz;exact fun e=>hx y hy e.symm
theorem aBg(K:Keys κ mt kt enc)(h:MapIs enc w b m)(x:κ)(v:Int):∃w',(Instr.mapUpdate mt (.map (some b)) (enc x) (vi v)).run Pg w= .ok () w'∧MapIs enc w' b (pA m x v)∧Frm (fun k=>k=b) w w':=by
 obtain⟨el,hu,hz⟩:=K.under;unfold Instr.mapUpdate;simp only[run_bind,run_underlying hu,rX h,iE,K.check,K.find];rcases rS x m with⟨h1,_,h3,h4⟩ | ⟨j,h1,h2,h3⟩
 ·rw[h1];simp only[Option.map_none,vK h];refine⟨_,rfl,?_,frm_setB⟩;rw[h3];refine⟨?_,aFz h.2 h4⟩;have:At (lY w b _) b _:=h.1.set (o':= .map ((ents enc 0 m).toArray.push ⟨enc x,vi v,m.length⟩) (m.length+1));rw[vW 0];simpa using this
 ·have hlt:=(List.getElem?_eq_some_iff.1 h2).1;have hk:((((ents enc 0 m).toArray[j]?).map (·.key)).getD (enc x))=enc x:=by
   rw[List.getElem?_toArray,rF,h2];rfl
  rw[h1];simp only[Option.map_some,run_bind,hk,aDU K,vK h];refine⟨_,rfl,?_,frm_setB⟩;rw[h3];refine⟨?_,aFy h2 h.2⟩;have:At (lY w b _) b _:=h.1.set (o':= .map ((ents enc 0 m).toArray.modify j fun e=>{e with key:=enc x,val:=vi v}) m.length);rw[qS (v:=v) h2 _ rfl]at this;rw[List.length_set];rw[qS (v:=v) h2 _ rfl];exact this
theorem aCh(K:Keys κ mt kt enc)(h:MapIs enc w b m)(x:κ):∃(j:Nat) (w':World),(Instr.mapEntry mt (.map (some b)) (enc x)).run Pg w= .ok (.tuple #[vi (jX m x),vi j]) w'∧MapIs enc w' b (pA m x (jX m x))∧Frm (fun k=>k=b) w w'∧
 (pA m x (jX m x))[j]? =some (x,jX m x)∧∀v,(pA m x (jX m x)).set j (x,v)=pA m x v:=by
 obtain⟨el,hu,hz⟩:=K.under;unfold Instr.mapEntry;simp only[run_bind,run_underlying hu,rX h,iE,K.check,K.find];rcases rS x m with⟨h1,h2,h3,h4⟩ | ⟨j,h1,h2,h3⟩
 ·rw[h1];simp only[Option.map_none,run_bind,hz,vK h];refine⟨m.length,_,by rw[h2];rfl,?_,frm_setB,?_,?_⟩
  ·rw[h3,h2];refine⟨?_,aFz h.2 h4⟩;have:At (lY w b _) b _:=h.1.set (o':= .map ((ents enc 0 m).toArray.push ⟨enc x,vi 0,m.length⟩) (m.length+1));rw[vW 0];simpa using this
  ·rw[h3,h2];simp
  ·intro v;rw[h3,h3,h2];simp
 ·have hlt:=(List.getElem?_eq_some_iff.1 h2).1;have hk:((((ents enc 0 m).toArray[j]?).map (·.key)).getD (enc x))=enc x:=by
   rw[List.getElem?_toArray,rF,h2];rfl
  have hb:((((ents enc 0 m).toArray[j]?).map (fun e=>(e.born:Int))).getD 0)=j:=by
   rw[List.getElem?_toArray,rF,h2];simp
  have hv:(m[j]?.map (·.2)).getD 0=jX m x:=by rw[h2];rfl
  rw[h1];simp only[Option.map_some,run_bind,hk,aDU K,vK h,hb,hv];have hself:m.set j (x,jX m x)=m:=by
   apply List.ext_getElem?;intro k;by_cases e:j=k
   ·subst e;rw[List.getElem?_set_self hlt,h2]
   ·rw[List.getElem?_set_ne e]
  refine⟨j,_,rfl,?_,frm_setB,?_,?_⟩
  ·rw[h3,hself];refine⟨?_,h.2⟩;have:At (lY w b _) b _:=h.1.set (o':= .map ((ents enc 0 m).toArray.modify j fun e=>{e with key:=enc x}) m.length);rw[qS (v:=jX m x) h2 _ rfl,hself]at this;rw[qS (v:=jX m x) h2 _ rfl,hself];exact this
  ·rw[h3,hself];exact h2
  ·intro v;rw[h3,h3,hself]
theorem aB2(h:MapIs enc w b m){j:Nat}{x:κ}{u v:Int}(hj:m[j]? =some (x,u)):∃w',(Instr.entryStore mt (.map (some b)) (vi j) (vi v)).run Pg w= .ok () w'∧MapIs enc w' b (m.set j (x,v))∧Frm (fun k=>k=b) w w':=by
 have hlt:=(List.getElem?_eq_some_iff.1 hj).1;have hfi:(ents enc 0 m).toArray.findIdx? (fun e=>(e.born:Int)==(j:Int))=some j:=by
  rw[List.findIdx?_toArray,List.findIdx?_eq_some_iff_getElem];have hg:∀i (hi:i<(ents enc 0 m).length),((ents enc 0 m)[i]).born=i:=fun i hi=>by
   have:=rF (enc:=enc) m 0 i;rw[List.getElem?_eq_getElem hi,List.getElem?_eq_getElem (by rw[sO]at hi;exact hi)]at this;simp at this;rw[this]
  refine⟨by rw[sO];exact hlt,by rw[hg];simp,fun i hi=>?_⟩;rw[hg];simp;omega
 unfold Instr.entryStore;simp only[run_bind,rX h,iE,asInt,asIntOf,hfi,vK h];refine⟨_,rfl,⟨?_,aFy hj h.2⟩,frm_setB⟩;have:At (lY w b _) b _:=h.1.set (o':= .map ((ents enc 0 m).toArray.modify j fun e=>{e with val:=vi v}) m.length);rw[qS (v:=v) hj _ rfl]at this;rw[List.length_set,qS (v:=v) hj _ rfl];exact this
structure IterIs(w:World)(it b n:Nat)(seen:List Nat):Prop where
 blk:At w it (.mapIter (some b) n seen.toArray n)
 nodup:seen.Nodup
 lt:∀j∈seen,j<n
theorem IterIs.frm{S:Nat→Prop}{w':World}{it n:Nat}{seen:List Nat}(h:IterIs w it b n seen)(F:Frm S w w')(hn:¬S it):IterIs w' it b n seen:=⟨h.blk.frm F hn,h.nodup,h.lt⟩
theorem aBx(K:Keys κ mt kt enc)(h:MapIs enc w b m):∃w',(Instr.range mt (.map (some b))).run Pg w= .ok (.pointer (some ⟨w.heap.size,0,none⟩)) w'∧IterIs w' w.heap.size b m.length []∧Ext w w':=by
 obtain⟨el,hu,hz⟩:=K.under;unfold Instr.range;simp only[run_bind,run_underlying hu,rX h,iE];refine⟨w.alloc (.mapIter (some b) m.length #[] m.length),?_,⟨At.new,.nil,fun j hj=>(by cases hj)⟩,nE _⟩;rfl
theorem aB5(n:Nat)(w:World)(hn:0<n):∃i w',(choose (.mapNext n)).run Pg w= .ok i w'∧i<n∧Ext w w':=by
 unfold choose;simp only[Sem.run];split
 ·exact⟨0,w,rfl,hn,er w⟩
 ·exact⟨_,w.drew,rfl,Nat.mod_lt _ hn,uD⟩
theorem yC(h:MapIs enc w b m){it:Nat}{seen:List Nat}(hi:IterIs w it b m.length seen){ty:TypeId}:
 (∃(j:Nat) (y:κ × Int) (w':World),j ∉ seen∧m[j]? =some y∧(Instr.next (.pointer (some ⟨it,0,none⟩)) false ty).run Pg w= .ok (.tuple #[.bool true,enc y.1,vi y.2]) w'∧IterIs w' it b m.length (seen++[j])∧Frm (fun k=>k=it) w w')∨
 ((∀j,j<m.length→j∈seen)∧∃w',(Instr.next (.pointer (some ⟨it,0,none⟩)) false ty).run Pg w= .ok (.tuple #[.bool false]) w'∧Ext w w'):=by
 have hit:(getObj it).run Pg w= .ok (.mapIter (some b) m.length seen.toArray m.length) w:=by
  have h':w.heap[it]? =_:=hi.blk;simp[getObj,Sem.run,h']
 have hmem:∀e∈ents enc 0 m,∃j y,m[j]? =some y∧e=⟨enc y.1,vi y.2,j⟩:=by
  intro e he;obtain⟨j,hj⟩:=List.getElem?_of_mem he;rw[rF]at hj;obtain⟨y,hy,e'⟩:=Option.map_eq_some_iff.1 hj;exact⟨j,y,hy,by rw[←e',Nat.zero_add]⟩
 have hborn:∀e∈ents enc 0 m,e.born<m.length:=by
  intro e he;obtain⟨j,y,hy,rfl⟩:=hmem e he;exact(List.getElem?_eq_some_iff.1 hy).1
 have hguard:(!seen.toArray.isEmpty&& !(ents enc 0 m).toArray.isEmpty&&(ents enc 0 m).toArray.all (fun e=>decide (e.born≥m.length)))=false:=by
  rw[Bool.and_eq_false_iff];cases hm:ents enc 0 m with
  | nil=>left;simp
  | cons e es=>
   right;have:=hborn e (by rw[hm];exact List.mem_cons_self);simp[this];intro h;omega
 have hold:((ents enc 0 m).toArray.filter fun e=> !seen.toArray.contains e.born).filter (fun e=>decide (e.born<m.length))=((ents enc 0 m).filter fun e=> !seen.contains e.born).toArray:=by
  simp only[List.filter_toArray,List.contains_toArray];congr 1;exact List.filter_eq_self.2 fun e he=>by simpa using hborn e (List.mem_filter.1 he).1
 have hnew:((ents enc 0 m).toArray.filter fun e=> !seen.toArray.contains e.born).filter (fun e=>decide (e.born≥m.length))= #[]:=by
  simp only[List.filter_toArray];rw[List.filter_eq_nil_iff.2];intro e he;have:=hborn e (List.mem_filter.1 he).1;simp;omega
 generalize hL:((ents enc 0 m).filter fun e=> !seen.contains e.born)=L at hold;unfold Instr.next;simp only[run_bind,hit,rX h,hguard,Bool.false_eq_true,if_false,iE,hold,hnew];cases L with
 | nil=>
  refine .inr ⟨fun j hj=>?_,?_⟩
  ·apply Classical.byContradiction;intro hn;have:(ents enc 0 m)[j]? =_:=rF m 0 j;rw[List.getElem?_eq_getElem hj]at this;have hmm:=List.mem_of_getElem? this;have:=List.filter_eq_nil_iff.1 hL _ hmm;simp[hn]at this
  ·obtain⟨i,w',hr,hlt,E⟩:=aB5 1 w (by omega);obtain rfl:i=0:=by omega
   refine⟨w',?_,E⟩;have hsz:((if(List.toArray ([]:List MapEntry)).isEmpty then #[none]else #[])++((List.toArray ([]:List MapEntry))++ #[]).map (some:MapEntry→Option MapEntry)).size=1:=by simp
   have hc:((if(List.toArray ([]:List MapEntry)).isEmpty then #[none]else #[])++((List.toArray ([]:List MapEntry))++ #[]).map (some:MapEntry→Option MapEntry))[0]? =some none:=by simp
   rw[hsz,hr];simp only[hc,iE]
 | cons e L=>
  left;obtain⟨i,w',hr,hlt,E⟩:=aB5 (L.length+1) w (by omega);have hget:∃e',(e::L)[i]? =some e':=⟨_,List.getElem?_eq_getElem (by simpa using hlt)⟩;obtain⟨e',he'⟩:=hget;have hmem':e'∈(ents enc 0 m).filter fun e=> !seen.contains e.born:=by rw[hL];exact List.mem_of_getElem? he'
  obtain⟨h1,h2⟩:=List.mem_filter.1 hmem';obtain⟨j,y,hy,rfl⟩:=hmem e' h1;have hj:j ∉ seen:=by simpa using h2
  have hat:=hi.blk.ext E;refine⟨j,y,lY w' it (.mapIter (some b) m.length (seen++[j]).toArray m.length),hj,hy,?_,⟨hat.set,List.nodup_append.2 ⟨hi.nodup,by simp,?_⟩,?_⟩,Frm.trans (Ext.frm E) frm_setB fun k _ h=>h⟩
  ·have hset:∀o,(setObj it o).run Pg w'= .ok () (lY w' it o):=fun o=>by
    have h':w'.heap[it]? =_:=hat;simp[setObj,Sem.run,h',lY]
   have hc:((if(List.toArray (e::L)).isEmpty then #[none]else #[])++((List.toArray (e::L))++ #[]).map some)[i]? =some (some (⟨enc y.1,vi y.2,j⟩:MapEntry)):=by
    have:(List.toArray (e::L)).isEmpty=false:=by simp
    rw[this];simp only[Bool.false_eq_true,if_false,Array.append_empty,Array.empty_append,Array.getElem?_map,List.getElem?_toArray,he',Option.map_some]
   have hsz:((if(List.toArray (e::L)).isEmpty then #[none]else #[])++((List.toArray (e::L))++ #[]).map (some:MapEntry→Option MapEntry)).size=L.length+1:=by simp
   rw[hsz,hr];simp only[hc,run_bind,hset,iE,List.push_toArray]
  ·intro a ha c hc;simp at hc;subst hc;exact fun e=>hj (e▸ha)
  ·intro k hk;rcases List.mem_append.1 hk with hk | hk
   ·exact hi.lt k hk
   ·simp at hk;subst hk;exact(List.getElem?_eq_some_iff.1 hy).1
theorem aCH(h:MapIs enc w b m){it j:Nat}{seen:List Nat}(hi:IterIs w it b m.length (seen++[j])){y:κ × Int}(hy:m[j]? =some y):(Instr.entry (.pointer (some ⟨it,0,none⟩))).run Pg w= .ok (.tuple #[enc y.1,vi y.2]) w:=by
 have hit:(getObj it).run Pg w= .ok (.mapIter (some b) m.length (seen++[j]).toArray m.length) w:=by
  have h':w.heap[it]? =_:=hi.blk;simp[getObj,Sem.run,h']
 have hlt:=(List.getElem?_eq_some_iff.1 hy).1;have hf:(ents enc 0 m).toArray.find? (fun e=>e.born==j)=some ⟨enc y.1,vi y.2,j⟩:=by
  rw[List.find?_toArray,List.find?_eq_some_iff_getElem];have hg:∀i (hi:i<(ents enc 0 m).length),∃z,m[i]? =some z∧(ents enc 0 m)[i]=⟨enc z.1,vi z.2,i⟩:=fun i hi=>by
   have hi':i<m.length:=by rw[sO]at hi;exact hi
   have:=rF (enc:=enc) m 0 i;rw[List.getElem?_eq_getElem hi,List.getElem?_eq_getElem hi']at this;simp at this;exact⟨_,List.getElem?_eq_getElem hi',this⟩
  refine⟨by simp,j,by rw[sO];exact hlt,?_,fun i hi=>?_⟩
  ·obtain⟨z,hz,e⟩:=hg j (by rw[sO];exact hlt);rw[e];rw[hy]at hz;cases hz;rfl
  ·obtain⟨z,hz,e⟩:=hg i (by rw[sO];omega);simp[e]
   try omega
 unfold Instr.entry;simp only[run_bind,hit,rX h,iE];have hb:(seen++[j]).toArray.back? =some j:=by simp
 rw[hb];simp only[run_bind,rX h,bne_self_eq_false,Bool.false_eq_true,if_false,hf,iE]
end
end Go.Proofs.YtcbijkakoepglaaGreat
namespace Go.Proofs.YtcbijkakoepglaaGreat
open Go Go.Wx
set_option maxRecDepth 100000
def jQ.l1(Q:Option Addr→Nat→Nat→World→Prop)(it1:Nat):Nat→Option Addr→Nat→Nat→World→Prop
 | 0,_,_,_,_=>False
 | nl1+1,v1_a,v1_n,v1_c,w2=>(
 (∃(x1:Value),∃(x2:Value),∃w3,(Instr.next (.pointer (some ⟨it1,0,none⟩)) false 0).run Pg w2= .ok (.tuple #[vb true,x1,x2]) w3∧∃x3 x4,(Instr.entry (.pointer (some ⟨it1,0,none⟩))).run Pg w3= .ok (.tuple #[vg (Tplace.enc x3),vi x4]) w3∧
 Al w3 (.cells #[vu 0,vi 0,vs (ByteArray.mk #[])] 111) fun b1 w4=>
 Sb w4 b1 (.cells #[vu x3.account_Kind,vi x3.account_Id,vs x3.unit] 111 (0,0)) fun w5=>
 Ifb (x4 !=0)
 (Al w5 (.cells #[vu x3.account_Kind,vi x3.account_Id,vs x3.unit,vi x4] 49) fun b2 w6=>
 Ap Pg w6 #[24,24] 24 (vl v1_a v1_n v1_c) (vl (some ⟨b2,0,none⟩) 1 1) fun a1_a a1_n a1_c w7=>
 (jQ.l1 Q it1 nl1) a1_a a1_n a1_c w7)
 ((jQ.l1 Q it1 nl1) v1_a v1_n v1_c w5))∨
 (∃w8,(Instr.next (.pointer (some ⟨it1,0,none⟩)) false 0).run Pg w2= .ok (.tuple #[.bool false]) w8∧Cl Pg 126 #[vl v1_a v1_n v1_c,.func (.func 127) #[] #[]] w8 (fun v w9=>v= .tuple #[]∧Q v1_a v1_n v1_c w9)))
def jQ.R(Q:Option Addr→Nat→Nat→World→Prop)(all:Option Nat)(w:World):Prop:=(
 ∃(it1:Nat),∃w1,(Instr.range 103 (.map all)).run Pg w= .ok (.pointer (some ⟨it1,0,none⟩)) w1∧
 ∃k,jQ.l1 Q it1 k none 0 0 w1)
theorem jQ.ok{Q:Option Addr→Nat→Nat→World→Prop}{all:Option Nat}{w:World}(h:jQ.R Q all w):Cl Pg 70 #[.map all] w (fun v w'=>∃r0a r0n r0c,v=vl r0a r0n r0c∧Q r0a r0n r0c w'):=by
 refine aI (args:=[.map all]) Tryz.func70 ?_
 unfold jQ.R at h
 refine aC<|zp 1<|aD<|aC<|zp 1<|aD<|aL<|aC<|zp 1 ?_
 obtain⟨it1,w1,hrun,h⟩:=h
 refine m5 rfl rfl (aB0 rfl rfl hrun) ?_
 clear hrun
 refine aD<|aR ?_
 obtain⟨nl1,h⟩:=h
 refine bS (fun k e w2=>∃(e0:Env) (v1_a:Option Addr) (v1_n:Nat) (v1_c:Nat),e=upds e0 [(3,vl v1_a v1_n v1_c),(7,vp ⟨it1,0,none⟩)]∧jQ.l1 Q it1 k v1_a v1_n v1_c w2) nl1 ?_ ?_ ?_
 rintro _ _ ⟨_,_,_,_,_,h⟩
 exact h
 exact⟨_,none,0,0,ag,h⟩
 clear h nl1
 rintro nl1 _ w2 ⟨e0,v1_a,v1_n,v1_c,rfl,h⟩
 unfold jQ.l1 at h
 refine aC ?_
 rcases h with⟨x1,x2,w3,hrun,h⟩ | ⟨w8,hrun,h⟩
 refine m5 rfl rfl (wR rfl rfl hrun) ?_
 clear hrun
 refine zp 1<|aD<|aL<|wF (t:=true) rfl<|aJ<|aR<|aC ?_
 obtain⟨x3,x4,hen,h⟩:=h
 refine m5 rfl rfl (aD6 rfl rfl hen) ?_
 clear hen
 refine zp 2<|zq h fun b1 w4 _ _ q1 h=>zt aE5 q1 h fun w5 ew q h=>?_
 replace q1:=q
 refine zp 1<|aD<|aC<|zp 2<|aD<|zc h (fun h=>?_) fun h=>?_
 refine aW<|zp 2<|zm j8 q1<|zp 1<|zb tk9 q1<|zp 2<|zv 1 h fun b2 w6 _ _ _ h=>za h ?_
 rintro a1_a a1_n a1_c w7 h
 exact zp 1<|aD<|aG<|⟨_,a1_a,a1_n,a1_c,ag,h⟩
 exact aJ<|aG<|⟨_,v1_a,v1_n,v1_c,ag,h⟩
 refine m5 rfl rfl (wR rfl rfl hrun) ?_
 clear hrun
 refine zp 1<|aD<|aL<|wF (t:=false) rfl<|dE<|aU<|aC<|zp 1<|zk h ?_
 rintro _ w9 ⟨rfl,h⟩
 exact aD<|aC<|zp 2<|aD<|aN<|z1 ⟨_,_,_,rfl,h⟩
def iI.l1(Q:Option Nat→World→Prop)(l_a:Option Addr)(l_n:Nat)(day:Int)(b1:Nat):Nat→Int→World→Prop
 | 0,_,_=>False
 | nl1+1,v1,w2=>(
 Ifb (decide (v1<((l_n:Nat):Int)))
 (Ix l_a l_n v1 fun p1=>
 LdT TPosting.enc w2 (Addr.add p1 (v1.toNat*9)) fun x1=>
 Al w2 (.cells #[vi 0,vs (ByteArray.mk #[]),vi 0,vu 0,vi 0,vu 0,vi 0,vu 0,vi 0] 42) fun b2 w3=>
 Sb w3 b2 (.cells #[vi x1.Day,vs x1.Unit,vi x1.N,vu x1.From_Kind,vi x1.From_Id,vu x1.To_Kind,vi x1.To_Id,vu x1.Why,vi x1.Lot] 42 (0,0)) fun w4=>
 Ifb (decide (x1.Day≤day))
 (Dr w4 fun w5=>
 ∃x2,(Instr.lookup 103 (.map (some b1)) (vg [vu x1.From_Kind,vi x1.From_Id,vs x1.Unit]) false).run Pg w5= .ok (vi x2) w5∧
 ∃(x3:Int),∃(x4:Int),∃w6,(Instr.mapEntry 103 (.map (some b1)) (vg [vu x1.From_Kind,vi x1.From_Id,vs x1.Unit])).run Pg w5= .ok (.tuple #[vi x3,vi x4]) w6∧
 Kp b2 w5 w6∧(Instr.lookup 103 (.map (some b1)) (vg [vu x1.From_Kind,vi x1.From_Id,vs x1.Unit]) false).run Pg w6= .ok (vi x2) w6∧∃w7,(Instr.entryStore 103 (.map (some b1)) (vi x4) (vi (IntKind.wrap .i64 (x2-x1.N)))).run Pg w6= .ok () w7∧
 Kp b2 w6 w7∧Dr w7 fun w8=>
 ∃x5,(Instr.lookup 103 (.map (some b1)) (vg [vu x1.To_Kind,vi x1.To_Id,vs x1.Unit]) false).run Pg w8= .ok (vi x5) w8∧
 ∃(x6:Int),∃(x7:Int),∃w9,(Instr.mapEntry 103 (.map (some b1)) (vg [vu x1.To_Kind,vi x1.To_Id,vs x1.Unit])).run Pg w8= .ok (.tuple #[vi x6,vi x7]) w9∧
 (Instr.lookup 103 (.map (some b1)) (vg [vu x1.To_Kind,vi x1.To_Id,vs x1.Unit]) false).run Pg w9= .ok (vi x5) w9∧∃w10,(Instr.entryStore 103 (.map (some b1)) (vi x7) (vi (IntKind.wrap .i64 (x5+x1.N)))).run Pg w9= .ok () w10∧
 (iI.l1 Q l_a l_n day b1 nl1) (IntKind.wrap .i64 (v1+1)) w10)
 ((iI.l1 Q l_a l_n day b1 nl1) (IntKind.wrap .i64 (v1+1)) w4))
 (Q (some b1) w2))
def iI.R(Q:Option Nat→World→Prop)(l_a:Option Addr)(l_n:Nat)(l_c:Nat)(day:Int)(w:World):Prop:=(
 Al w (.map #[] 0) fun b1 w1=>
 ∃k,iI.l1 Q l_a l_n day b1 k 0 w1)
theorem iI.ok{Q:Option Nat→World→Prop}{l_a:Option Addr}{l_n:Nat}{l_c:Nat}{day:Int}{w:World}(h:iI.R Q l_a l_n l_c day w):Cl Pg 84 #[vl l_a l_n l_c,vi day] w (fun v w'=>∃(r0:Option Nat),v= .map r0∧Q r0 w'):=by
 refine aI (args:=[vl l_a l_n l_c,vi day]) Tryz.func84 ?_
 unfold iI.R at h
 refine aC<|zp 1<|aD<|aC<|zw h fun b1 w1 _ _ _ h=>zp 1<|aD<|aL<|aC<|zp 3<|aD<|aR ?_
 obtain⟨nl1,h⟩:=h
 refine bS (fun k e w2=>∃(e0:Env) (v1:Int),e=upds e0 [(1,vi day),(5,.map (some b1)),(9,vl l_a l_n l_c),(10,vi (l_n:Nat)),(11,vi v1)]∧iI.l1 Q l_a l_n day b1 k v1 w2) nl1 ?_ ?_ ?_
 rintro _ _ ⟨_,_,_,h⟩
 exact h
 exact⟨_,0,ag,h⟩
 clear h nl1
 rintro nl1 _ w2 ⟨e0,v1,rfl,h⟩
 unfold iI.l1 at h
 refine aC<|zp 1<|aD<|aL<|zc h (fun h=>?_) fun h=>?_
 refine aJ<|aL<|aR<|aC<|zi aAw h fun p1 h=>?_
 obtain⟨x1,hx1,h⟩:=h
 refine zn aAV hx1<|zq h fun b2 w3 _ _ q2 h=>zt aAV q2 h fun w4 ew q h=>?_
 replace q2:=q
 refine aD<|aC<|zp 1<|zb tk3 q2<|zp 2<|aD<|zc h (fun h=>?_) fun h=>?_
 refine drs iG [[],[],[],[],[],[2,4],[2,4],[],[],[2,4,6,8],[2,4,8],[2,4,8],[2,4,6,8]] [.p 0,.p 1,.l 2,.p 3,.l 4,.p 5,.l 6,.p 7,.l 8,.p 9,.e 10,.p 11,.e 12] h fun w5 ew h=>?_
 replace q2:=dN ew q2
 refine zP 2<|zM j8 q2<|zP 1<|zB tk9 q2<|zP 1 ?_
 obtain⟨x2,hlk1,h⟩:=h
 refine zY hlk1<|zP 1<|zB tk3 q2<|zP 1 ?_
 obtain⟨x3,x4,w6,hrun,hk0,hk1,h⟩:=h
 refine zme hrun ?_
 replace q2:=bG hk0 q2
 replace hlk1:=hk1
 clear hrun
 refine⟨zh hlk1<|AllOk.nil,?_⟩
 refine zP 1 ?_
 obtain⟨w7,hrun,hk0,h⟩:=h
 refine zes hrun ?_
 replace q2:=bG hk0 q2
 clear hrun
 refine⟨AllOk.nil,?_⟩
 refine bF<|drw iG [[],[],[],[],[],[2,4],[2,4],[],[],[2,4,6,8],[2,4,8],[2,4,8],[2,4,6,8]] [.p 0,.p 1,.l 2,.p 3,.l 4,.p 5,.l 6,.p 7,.l 8,.p 9,.e 10,.p 11,.e 12] h fun w8 ew h=>?_
 replace q2:=dN ew q2
 refine zP 2<|zM j8 q2<|zP 1<|zB tk9 q2<|zP 1 ?_
 obtain⟨x5,hlk2,h⟩:=h
 refine zY hlk2<|zP 1<|zB tk3 q2<|zP 1 ?_
 obtain⟨x6,x7,w9,hrun,hk0,h⟩:=h
 refine zme hrun ?_
 replace hlk2:=hk0
 clear hrun
 refine⟨zh hlk2<|AllOk.nil,?_⟩
 refine zP 1 ?_
 obtain⟨w10,hrun,h⟩:=h
 refine zes hrun ?_
 clear hrun
 refine⟨AllOk.nil,?_⟩
 exact bF<|aG<|aW<|zp 2<|aD<|⟨_,IntKind.wrap .i64 (v1+1),ag,h⟩
 exact aJ<|aG<|aW<|zp 2<|aD<|⟨_,IntKind.wrap .i64 (v1+1),ag,h⟩
 exact dE<|aU<|aC<|zp 2<|aD<|aN<|z1 ⟨_,rfl,h⟩
def fE.l2(Q:Option Addr→Nat→Nat→World→Prop)(it1:Nat):Nat→Option Addr→Nat→Nat→World→Prop
 | 0,_,_,_,_=>False
 | nl2+1,v2_a,v2_n,v2_c,w7=>(
 (∃(x3:Value),∃(x4:Value),∃w8,(Instr.next (.pointer (some ⟨it1,0,none⟩)) false 0).run Pg w7= .ok (.tuple #[vb true,x3,x4]) w8∧∃x5 x6,(Instr.entry (.pointer (some ⟨it1,0,none⟩))).run Pg w8= .ok (.tuple #[vs x5,vi x6]) w8∧
 Ifb (x6 !=0)
 (Al w8 (.cells #[vs x5,vi x6] 58) fun b3 w9=>
 Ap Pg w9 #[53,53] 53 (vl v2_a v2_n v2_c) (vl (some ⟨b3,0,none⟩) 1 1) fun a1_a a1_n a1_c w10=>
 (fE.l2 Q it1 nl2) a1_a a1_n a1_c w10)
 ((fE.l2 Q it1 nl2) v2_a v2_n v2_c w8))∨
 (∃w11,(Instr.next (.pointer (some ⟨it1,0,none⟩)) false 0).run Pg w7= .ok (.tuple #[.bool false]) w11∧Cl Pg 145 #[vl v2_a v2_n v2_c,.func (.func 146) #[] #[]] w11 (fun v w12=>v= .tuple #[]∧Q v2_a v2_n v2_c w12)))
def fE.l1(Q:Option Addr→Nat→Nat→World→Prop)(l_a:Option Addr)(l_n:Nat)(b1:Nat):Nat→Int→World→Prop
 | 0,_,_=>False
 | nl1+1,v1,w2=>(
 Ifb (decide (v1<((l_n:Nat):Int)))
 (Ix l_a l_n v1 fun p1=>
 LdT TAmount.enc w2 (Addr.add p1 (v1.toNat*2)) fun x1=>
 Al w2 (.cells #[vs (ByteArray.mk #[]),vi 0] 58) fun b2 w3=>
 Sb w3 b2 (.cells #[vs x1.Unit,vi x1.N] 58 (0,0)) fun w4=>
 ∃x2,(Instr.lookup 56 (.map (some b1)) (vs x1.Unit) false).run Pg w4= .ok (vi x2) w4∧
 ∃w5,(Instr.mapUpdate 56 (.map (some b1)) (vs x1.Unit) (vi (IntKind.wrap .i64 (x2+x1.N)))).run Pg w4= .ok () w5∧
 (fE.l1 Q l_a l_n b1 nl1) (IntKind.wrap .i64 (v1+1)) w5)
 (∃(it1:Nat),∃w6,(Instr.range 56 (.map (some b1))).run Pg w2= .ok (.pointer (some ⟨it1,0,none⟩)) w6∧
 ∃k,fE.l2 Q it1 k none 0 0 w6))
def fE.R(Q:Option Addr→Nat→Nat→World→Prop)(l_a:Option Addr)(l_n:Nat)(l_c:Nat)(w:World):Prop:=(
 Al w (.map #[] 0) fun b1 w1=>
 ∃k,fE.l1 Q l_a l_n b1 k 0 w1)
theorem fE.ok{Q:Option Addr→Nat→Nat→World→Prop}{l_a:Option Addr}{l_n:Nat}{l_c:Nat}{w:World}(h:fE.R Q l_a l_n l_c w):Cl Pg 88 #[vl l_a l_n l_c] w (fun v w'=>∃r0a r0n r0c,v=vl r0a r0n r0c∧Q r0a r0n r0c w'):=by
 refine aI (args:=[vl l_a l_n l_c]) Tryz.func88 ?_
 unfold fE.R at h
 refine aC<|zp 1<|aD<|aC<|zw h fun b1 w1 _ _ _ h=>zp 1<|aD<|aL<|aC<|zp 3<|aD<|aR ?_
 obtain⟨nl1,h⟩:=h
 refine bS (fun k e w2=>∃(e0:Env) (v1:Int),e=upds e0 [(3,.map (some b1)),(10,vl l_a l_n l_c),(11,vi (l_n:Nat)),(12,vi v1)]∧fE.l1 Q l_a l_n b1 k v1 w2) nl1 ?_ ?_ ?_
 rintro _ _ ⟨_,_,_,h⟩
 exact h
 exact⟨_,0,ag,h⟩
 clear h nl1
 rintro nl1 _ w2 ⟨e0,v1,rfl,h⟩
 unfold fE.l1 at h
 refine aC<|zp 1<|aD<|aL<|zc h (fun h=>?_) fun h=>?_
 refine aJ<|aL<|aR<|aC<|zi pM h fun p1 h=>?_
 obtain⟨x1,hx1,h⟩:=h
 refine zn yP hx1<|zq h fun b2 w3 _ _ q2 h=>zt yP q2 h fun w4 ew q h=>?_
 replace q2:=q
 refine aD<|aW<|zp 2<|zb tk9 q2 ?_
 obtain⟨x2,hlk1,h⟩:=h
 refine zy hlk1<|zp 1<|zb tk3 q2<|zp 1 ?_
 obtain⟨w5,hrun,h⟩:=h
 refine aCy rfl rfl (aCp rfl rfl rfl rfl hrun) ?_
 clear hrun
 exact aD<|aG<|aW<|zp 2<|aD<|⟨_,IntKind.wrap .i64 (v1+1),ag,h⟩
 refine dE<|aU<|aC<|zp 1<|aD<|aL<|aC<|zp 1 ?_
 obtain⟨it1,w6,hrun,h⟩:=h
 refine m5 rfl rfl (aB0 rfl rfl hrun) ?_
 clear hrun
 refine aD<|aR ?_
 obtain⟨nl2,h⟩:=h
 refine bS (fun k e w7=>∃(e0:Env) (v2_a:Option Addr) (v2_n:Nat) (v2_c:Nat),e=upds e0 [(6,vl v2_a v2_n v2_c),(25,vp ⟨it1,0,none⟩)]∧fE.l2 Q it1 k v2_a v2_n v2_c w7) nl2 ?_ ?_ ?_
 rintro _ _ ⟨_,_,_,_,_,h⟩
 exact h
 exact⟨_,none,0,0,ag,h⟩
 clear h nl2
 rintro nl2 _ w7 ⟨e0,v2_a,v2_n,v2_c,rfl,h⟩
 unfold fE.l2 at h
 refine aC ?_
 rcases h with⟨x3,x4,w8,hrun,h⟩ | ⟨w11,hrun,h⟩
 refine m5 rfl rfl (wR rfl rfl hrun) ?_
 clear hrun
 refine zp 1<|aD<|aL<|wF (t:=true) rfl<|aJ<|aR<|aC ?_
 obtain⟨x5,x6,hen,h⟩:=h
 refine m5 rfl rfl (aD6 rfl rfl hen) ?_
 clear hen
 refine zp 4<|aD<|aC<|zp 2<|aD<|zc h (fun h=>?_) fun h=>?_
 refine aW<|zp 4<|zv 1 h fun b3 w9 _ _ _ h=>za h ?_
 rintro a1_a a1_n a1_c w10 h
 exact zp 1<|aD<|aG<|⟨_,a1_a,a1_n,a1_c,ag,h⟩
 exact aJ<|aG<|⟨_,v2_a,v2_n,v2_c,ag,h⟩
 refine m5 rfl rfl (wR rfl rfl hrun) ?_
 clear hrun
 refine zp 1<|aD<|aL<|wF (t:=false) rfl<|dE<|aU<|aC<|zp 1<|zk h ?_
 rintro _ w12 ⟨rfl,h⟩
 exact aD<|aC<|zp 2<|aD<|aN<|z1 ⟨_,_,_,rfl,h⟩
end Go.Proofs.YtcbijkakoepglaaGreat
namespace Go.Proofs.YtcbijkakoepglaaGreat
open Go Go.Wx
def j6(p:TPosting):Tplace:=⟨p.From_Kind,p.From_Id,p.Unit⟩
def pTo(p:TPosting):Tplace:=⟨p.To_Kind,p.To_Id,p.Unit⟩
def rL(m:List (Tplace × Int))(x:Tplace)(n:Int):List (Tplace × Int):=pA m x (wr (jX m x-n))
def sU{κ:Type} [DecidableEq κ](m:List (κ × Int))(x:κ)(n:Int):List (κ × Int):=pA m x (wr (jX m x+n))
def oD(day:Int):List (Tplace × Int)→List TPosting→List (Tplace × Int)
 | m,[]=>m
 | m,p::ps=>oD day (if p.Day≤day then sU (rL m (j6 p) p.N) (pTo p) p.N else m) ps
def mO(y:Tplace × Int):TTrialLine:=⟨y.1.account_Kind,y.1.account_Id,y.1.unit,y.2⟩
def tS(m:List (Tplace × Int)):List TTrialLine:=isort iZ ((m.filter fun y=>y.2 !=0).map mO)
def sI:List (ByteArray × Int)→List TAmount→List (ByteArray × Int)
 | m,[]=>m
 | m,a::l=>sI (sU m a.Unit a.N) l
def j5(y:ByteArray × Int):TAmount:=⟨y.1,y.2⟩
def sX(l:List TAmount):List TAmount:=isort mM (((sI [] l).filter fun y=>y.2 !=0).map j5)
theorem uB{κ:Type} [DecidableEq κ](x:κ)(v:Int):∀m:List (κ × Int),(pA m x v).length≤m.length+1
 |[]=>by simp[pA]
 | (y,u)::m=>by
  unfold pA;split
  ·simp
  ·simp[uB x v m]
theorem zG(day:Int):∀(l:List TPosting) (m:List (Tplace × Int)),(oD day m l).length≤m.length+2*l.length
 |[],m=>by simp[oD]
 | p::l,m=>by
  have h:=zG day l (if p.Day≤day then sU (rL m (j6 p) p.N) (pTo p) p.N else m);unfold oD;split at h
  ·rename_i hd;rw[if_pos hd];have h1:=uB (pTo p) (wr (jX (rL m (j6 p) p.N) (pTo p)+p.N)) (rL m (j6 p) p.N);have h2:=uB (j6 p) (wr (jX m (j6 p)-p.N)) m;simp only[sU,rL,List.length_cons]at h h1 h2 ⊢;omega
  ·rename_i hd;rw[if_neg hd];simp only[List.length_cons];omega
theorem aBt:∀(l:List TAmount) (m:List (ByteArray × Int)),(sI m l).length≤m.length+l.length
 |[],m=>by simp[sI]
 | a::l,m=>by
  have h:=aBt l (sU m a.Unit a.N);have h1:=uB a.Unit (wr (jX m a.Unit+a.N)) m;unfold sI;simp only[sU,List.length_cons]at h h1 ⊢;omega
theorem vF{α:Type}:∀m:List α,(List.range m.length).filterMap (fun j=>m[j]?)=m
 |[]=>rfl
 | x::m=>by
  rw[List.length_cons,List.range_succ_eq_map,List.filterMap_cons];simp only[List.getElem?_cons_zero,List.filterMap_map];congr 1;exact vF m
theorem visited{α:Type}{m:List α}{seen:List Nat}(hn:seen.Nodup)(hl:∀j∈seen,j<m.length)(ha:∀j,j<m.length→j∈seen):(seen.filterMap fun j=>m[j]?).Perm m:=by
 have hp:seen.Perm (List.range m.length):=(List.perm_ext_iff_of_nodup hn List.nodup_range).2 fun j=>⟨fun h=>List.mem_range.2 (hl j h),fun h=>ha j (List.mem_range.1 h)⟩;have h2:=hp.filterMap fun j=>m[j]?;rwa[vF]at h2
theorem aBP{κ:Type}{m:List (κ × Int)}(h:m.Pairwise fun x y=>x.1≠y.1):∀x∈m,∀y∈m,x.1=y.1→x=y:=by
 intro x hx y hy e;obtain⟨i,hi⟩:=List.getElem?_of_mem hx;obtain⟨j,hj⟩:=List.getElem?_of_mem hy;obtain⟨h1,rfl⟩:=List.getElem?_eq_some_iff.1 hi;obtain⟨h2,rfl⟩:=List.getElem?_eq_some_iff.1 hj;have hp:=List.pairwise_iff_getElem.1 h;rcases Nat.lt_trichotomy i j with h' | h' | h'
 ·exact absurd e (hp i j h1 h2 h')
 ·subst h';rfl
 ·exact absurd e.symm (hp j i h2 h1 h')
def unseen(n:Nat)(seen:List Nat):Nat:=((List.range n).filter fun j=> !seen.contains j).length
theorem sV{n j:Nat}{seen:List Nat}(hj:j<n)(hs:j ∉ seen):unseen n (seen++[j])<unseen n seen:=by
 unfold unseen;have e:(List.range n).filter (fun i=> !(seen++[j]).contains i)=((List.range n).filter fun i=> !seen.contains i).filter fun i=>i !=j:=by
  rw[List.filter_filter];congr 1;funext i;rw[Bool.eq_iff_iff];simp only[Bool.not_eq_true',List.contains_eq_mem,List.mem_append,List.mem_singleton,decide_eq_false_iff_not,Bool.and_eq_true,bne_iff_ne];exact⟨fun h=>⟨fun e=>h (.inr e),fun e=>h (.inl e)⟩,fun h e=>e.elim h.2 h.1⟩
 rw[e,List.length_filter_lt_length_iff_exists];exact⟨j,List.mem_filter.2 ⟨List.mem_range.2 hj,by simpa using hs⟩,by simp⟩
theorem aEh{w:World}{b:Nat}{m:List (Tplace × Int)}(h:MapIs j4 w b m)(hm:m.length≤100000){Q:Option Addr→Nat→Nat→World→Prop}
 (hQ:∀a n c w',Own 49 4 TTrialLine.enc w' a n c (tS m)→(∀k,obk a c=some k→w.heap.size≤k)→Ext w w'→Q a n c w'):Cl Pg 70 #[.map (some b)] w (fun v w'=>∃a n c,v=vl a n c∧Q a n c w'):=by
 refine jQ.ok ?_;obtain⟨w1,hr,hi,E⟩:=aBx pW h;refine⟨_,w1,hr,unseen m.length []+1,?_⟩;have hlt:=h.1.lt;have hpw:=h.2;have hitl:w.heap.size≤w.heap.size:=Nat.le_refl _;generalize hit:w.heap.size=it at hr hi hitl
 have fin:∀w' (seen:List Nat) a n c,IterIs w' it b m.length seen→(∀j,j<m.length→j∈seen)→Ext w w'→Own 49 4 TTrialLine.enc w' a n c (((seen.filterMap fun j=>m[j]?).filter fun y=>y.2 !=0).map mO)→(∀k,obk a c=some k→w.heap.size≤k)→Cl Pg 126 #[vl a n c,.func (.func 127) #[] #[]] w' (fun v w'=>v= .tuple #[]∧Q a n c w'):=by
  intro w' seen a n c hi hall E ho hk;have hp:=visited hi.nodup hi.lt hall;have hp2:(((seen.filterMap fun j=>m[j]?).filter fun y=>y.2 !=0).map mO).Perm ((m.filter fun y=>y.2 !=0).map mO):=(hp.filter _).map _;have hinj:∀x∈(m.filter fun y=>y.2 !=0).map mO,∀y∈(m.filter fun y=>y.2 !=0).map mO,x.Account_Kind=y.Account_Kind→x.Account_Id=y.Account_Id→x.Unit=y.Unit→x=y:=by
   intro x hx y hy e1 e2 e3;obtain⟨x',hx',rfl⟩:=List.mem_map.1 hx;obtain⟨y',hy',rfl⟩:=List.mem_map.1 hy;have:x'=y':=aBP hpw x' (List.mem_filter.1 hx').1 y' (List.mem_filter.1 hy').1 (by
    obtain⟨⟨_,_,_⟩,_⟩:=x';obtain⟨⟨_,_,_⟩,_⟩:=y';simp only[mO]at e1 e2 e3;simp[e1,e2,e3])
   rw[this]
  have hlen:n≤m.length:=by rw[ho.1,hp2.length_eq,List.length_map];exact List.length_filter_le _ _
  refine aFC ho (by omega) (fun x hx y hy=>hinj x (hp2.mem_iff.1 hx) y (hp2.mem_iff.1 hy)) fun w2 ho2 F2=>hQ _ _ _ _ ?_ hk (Frm.trans E F2 fun k hk' e=>by have:=hk k e;omega);have:isort iZ (((seen.filterMap fun j=>m[j]?).filter fun y=>y.2 !=0).map mO)=tS m:=by
   refine lN swoLine ((dI _).trans hp2) (lZ swoLine _) fun x hx y hy h1 h2=>?_;have g:=fun{a b:TTrialLine} (h:iZ a b=false)=>qY.1 h;have h1:=g h1;have h2:=g h2;have e1:x.Account_Kind=y.Account_Kind:=by
    apply Classical.byContradiction;intro hne;by_cases h3:x.Account_Kind<y.Account_Kind
    ·exact h1 (.inl h3)
    ·exact h2 (.inl (by omega))
   have e2:x.Account_Id=y.Account_Id:=by
    apply Classical.byContradiction;intro hne;by_cases h3:x.Account_Id<y.Account_Id
    ·exact h1 (.inr ⟨e1,.inl h3⟩)
    ·exact h2 (.inr ⟨e1.symm,.inl (by omega)⟩)
   refine hinj x hx y hy e1 e2 (nX ?_ ?_)
   ·cases h:iO x.Unit y.Unit with
    | false=>rfl
    | true=>exact(h1 (.inr ⟨e1,.inr ⟨e2,h⟩⟩)).elim
   ·cases h:iO y.Unit x.Unit with
    | false=>rfl
    | true=>exact(h2 (.inr ⟨e1.symm,.inr ⟨e2.symm,h⟩⟩)).elim
  rwa[this]at ho2
 have key:∀q w' seen a n c,unseen m.length seen≤q→IterIs w' it b m.length seen→MapIs j4 w' b m→Ext w w'→n≤seen.length→seen.length+unseen m.length seen≤m.length→Own 49 4 TTrialLine.enc w' a n c (((seen.filterMap fun j=>m[j]?).filter fun y=>y.2 !=0).map mO)→(∀k,obk a c=some k→w.heap.size≤k)→jQ.l1 Q it (q+1) a n c w':=by
  intro q;induction q with
  | zero=>
   intro w' seen a n c hs hi h E hn hsl ho hk;unfold jQ.l1;rcases yC h hi (ty:=0)with⟨j,y,w2,hj,hy,_,hi2,_⟩ | ⟨hall,w2,hr,e2⟩
   ·have:=sV (List.getElem?_eq_some_iff.1 hy).1 hj;omega
   ·exact .inr ⟨w2,hr,fin w2 seen a n c (hi.frm e2 id) hall (E.trans e2) (ho.ext e2) hk⟩
  | succ q ih=>
   intro w' seen a n c hs hi h E hn hsl ho hk;unfold jQ.l1;rcases yC h hi (ty:=0)with⟨j,y,w2,hj,hy,hr,hi2,F2⟩ | ⟨hall,w2,hr,e2⟩
   ·have hstep:=sV (List.getElem?_eq_some_iff.1 hy).1 hj;have hne:b≠it:=fun e=>by subst e;have:=hi.blk;have h':=h.1;exact absurd (Option.some.inj (this.symm.trans h')) (by simp)
    have h2:=h.frm F2 hne;have hkit:∀k,obk a c=some k→¬k=it:=fun k hk' e=>by
     subst e;obtain⟨cur,hc⟩:=ho.at _ hk';exact absurd (Option.some.inj (hi.blk.symm.trans hc)) (by simp)
    have E2:Ext w w2:=Frm.trans E F2 fun k hk' e=>by omega
    have ho2:=ho.frm F2 hkit;refine .inl ⟨_,_,w2,hr,y.1,y.2,aCH h2 hi2 hy,bW E2 fun b1 w4 hb1 hat E4 e4 _=>lW E4 hat hb1 fun w5 hat5 E5 f5=>ifb ?_⟩;have hb1l:=e4.size;have n1:¬b=b1:=fun e=>by subst e;exact absurd (Option.some.inj (hat.symm.trans (h2.ext e4).1)) (by simp)
    have n2:¬it=b1:=fun e=>by subst e;exact absurd (Option.some.inj (hat.symm.trans (hi2.frm e4 id).blk)) (by simp)
    have h5:=(h2.ext e4).frm f5 n1;have hi5:=(hi2.frm e4 id).frm f5 n2;have ho5:=(ho2.ext e4).frm f5 fun k hk' e=>by
     obtain⟨cur,hc⟩:=(ho2.ext e4).at k hk';exact hc.neT hat (by simp[tyO]) e
    have hfm:(((seen++[j]).filterMap fun j=>m[j]?).filter fun y=>y.2 !=0).map mO=(((seen.filterMap fun j=>m[j]?).filter fun y=>y.2 !=0).map mO)++if y.2 !=0 then [mO y]else []:=by
     have e1:([j].filterMap fun j=>m[j]?)=[y]:=by simp[hy]
     have e2:([y].filter fun y=>y.2 !=0).map mO=if y.2 !=0 then [mO y]else []:=by cases hz:(y.2 !=0)<;>simp[hz]
     rw[List.filterMap_append,e1,List.filter_append,List.map_append,e2]
    have hsl':(seen++[j]).length+unseen m.length (seen++[j])≤m.length:=by simp;omega
    split
    ·rename_i hnz;rw[if_pos hnz]at hfm;refine bW E5 fun b2 w6 hb2 hat6 E6 e6 _=>jT ap24 qH (fun x=>iN rfl) (ho5.ext e6) (Rd.one (enc:=TTrialLine.enc) (sz:=4) (mO y) hat6) (by omega) (by simp only[maxLen];omega) fun a2 c2 w7 ho7 F7 hb7=>?_;rw[←hfm]at ho7;have k7:∀{o:Obj} {k:Nat},At w6 k o→tyO o≠some 49→¬obk a c=some k:=fun hk' ho' e=>(ho5.ext e6).neT hk' ho' e
     refine ih w7 (seen++[j]) a2 (n+1) c2 (by omega) ((hi5.frm e6 id).frm F7 (k7 (hi5.frm e6 id).blk (by simp[tyO]))) ((h5.ext e6).frm F7 (k7 (h5.ext e6).1 (by simp[tyO]))) (Frm.trans E6 F7 fun k hk' e=>by have:=hk k e;omega) (by simp;omega) hsl' ho7 fun k hk'=>(hb7 k hk').elim (hk k) fun h=>Nat.le_trans E6.size h
    ·rename_i hnz;rw[if_neg hnz,List.append_nil]at hfm;rw[←hfm]at ho5;exact ih w5 (seen++[j]) a n c (by omega) hi5 h5 E5 (by simp;omega) hsl' ho5 hk
   ·exact .inr ⟨w2,hr,fin w2 seen a n c (hi.frm e2 id) hall (E.trans e2) (ho.ext e2) hk⟩
 refine key _ w1 [] none 0 0 (Nat.le_refl _) hi (h.ext E) E (Nat.zero_le _) ?_ (by simpa using Own.nil) (fun k hk=>by cases hk);have:unseen m.length []=m.length:=by unfold unseen;rw[List.filter_eq_self.2 (by simp),List.length_range]
 simp[this]
end Go.Proofs.YtcbijkakoepglaaGreat
namespace Go.Proofs.YtcbijkakoepglaaGreat
open Go Go.Wx
section
variable {κ : Type} [DecidableEq κ]
theorem wQ(x:κ)(v:Int):∀m:List (κ × Int),jX (pA m x v) x=v
 |[]=>by simp[pA,jX]
 | (y,u)::m=>by
  unfold pA;split
  ·rename_i h;simp[jX,h]
  ·rename_i h;simp[jX,h,wQ x v m]
theorem pZ{x y:κ}(hxy:y≠x)(v:Int):∀m:List (κ × Int),jX (pA m x v) y=jX m y
 |[]=>by simp[pA,jX,hxy]
 | (z,u)::m=>by
  unfold pA;split
  ·rename_i h;subst h;simp[jX,hxy]
  ·rename_i h;simp only[jX,pZ hxy v m]
end
theorem xP{κ:Type}{enc:κ→Value}{w:World}{b k:Nat}{m:List (κ × Int)}(h:MapIs enc w b m){cur:Array Value}{T:TypeId}{fr:Nat × Nat}(hk:At w k (.cells cur T fr)):¬k=b:=fun e=>by
 subst e;exact absurd (Option.some.inj (hk.symm.trans h.1)) (by simp)
theorem aCi{w:World}{b:Nat}{m:List (Tplace × Int)}(h:MapIs j4 w b m)(x:Tplace)(n:Int){K:World→Prop}
 (hK:∀w',MapIs j4 w' b (pA m x n)→Frm (fun k=>k=b) w w'→K w'):
 ∃(x3:Int) (x4:Int) (w6:World),(Instr.mapEntry 103 (.map (some b)) (vg x.enc)).run Pg w= .ok (.tuple #[vi x3,vi x4]) w6∧Frm (fun k=>k=b) w w6∧
  (Instr.lookup 103 (.map (some b)) (vg x.enc) false).run Pg w6= .ok (vi (jX m x)) w6∧∃w7,(Instr.entryStore 103 (.map (some b)) (vi x4) (vi n)).run Pg w6= .ok () w7∧Frm (fun k=>k=b) w6 w7∧K w7:=by
 obtain⟨j,w6,hr,h6,F6,hj,hset⟩:=aCh pW h x;have hl:=pO pW h6 x;rw[wQ]at hl;obtain⟨w7,hr7,h7,F7⟩:=aB2 h6 (v:=n) hj;rw[hset]at h7;exact⟨_,_,w6,hr,F6,hl,w7,hr7,F7,hK w7 h7 (F6.trans F7 fun _ _ h=>h)⟩
theorem aB7{w:World}{a:Option Addr}{n c:Nat}{ps:List TPosting}(hr:Rd TPosting.enc 9 w a n ps)(hn:n≤1000000){day:Int}{Q:Option Nat→World→Prop}
 (hQ:∀b w',w.heap.size≤b→MapIs j4 w' b (oD day [] ps)→Ext w w'→Q (some b) w'):Cl Pg 84 #[vl a n c,vi day] w (fun v w'=>∃r,v= .map r∧Q r w'):=by
 refine iI.ok (bW (er w) fun b1 w1 hb1 hat E _ _=>⟨n+1,?_⟩);have key:∀m i w' M,i+m=n→Ext w w'→MapIs j4 w' b1 M→(∀w',MapIs j4 w' b1 (oD day M (ps.drop i))→Ext w w'→Q (some b1) w')→iI.l1 Q a n day b1 (m+1) (i:Nat) w':=by
  intro m;induction m with
  | zero=>
   intro i w' M hi E hM hQ;unfold iI.l1;rw[List.drop_of_length_le (by have:=hr.1;omega)]at hQ;exact dK (by omega) (hQ _ hM E)
  | succ m ih=>
   intro i w' M hi E hM hQ;unfold iI.l1;refine dQ (by omega) ((hr.ext E).ix (by omega) (by omega) fun a0 x ha hx hc=>⟨x,hc,bW E fun b2 w3 hb2 hat2 E3 e3 _=>lW E3 hat2 hb2 fun w4 hat4 E4 f4=>ifb ?_⟩);simp only[Int.toNat_natCast]at hx;obtain⟨hl,hx'⟩:=List.getElem?_eq_some_iff.1 hx;rw[List.drop_eq_getElem_cons hl,hx']at hQ;simp only[oD]at hQ;have hM4:MapIs j4 w4 b1 M:=(hM.ext e3).frm f4 fun e=>xP (hM.ext e3) hat2 e.symm;rw[fO (n:=n) (by omega) (by omega) (by simp only[maxLen];omega)];split
   ·rename_i hd;rw[if_pos (of_decide_eq_true hd)]at hQ;refine iS E4 fun w5 E5 e5=>⟨_,pO pW (hM4.ext e5) (j6 x),?_⟩;obtain⟨x3,x4,w6,r6,F6,r6',w7,r7,F7,h7,F57⟩:=aCi (K:=fun w'=>MapIs j4 w' b1 (rL M (j6 x) x.N)∧Frm (fun k=>k=b1) w5 w') (hM4.ext e5) (j6 x) (wr (jX M (j6 x)-x.N)) fun w' h F=>⟨h,F⟩;have hn5:=xP (hM4.ext e5) (hat4.ext e5);refine⟨x3,x4,w6,r6,F6.blk _ (hat4.ext e5).lt hn5,r6',w7,r7,F7.blk _ (Nat.lt_of_lt_of_le (hat4.ext e5).lt F6.size) hn5,?_⟩
    have E7:Ext w w7:=Frm.trans E5 F57 fun k hk e=>by omega
    refine iS E7 fun w8 E8 e8=>⟨_,pO pW (h7.ext e8) (pTo x),?_⟩;obtain⟨y3,y4,w9,s9,G9,s9',w10,s10,G10,h10,F810⟩:=aCi (K:=fun w'=>MapIs j4 w' b1 (sU (rL M (j6 x) x.N) (pTo x) x.N)∧Frm (fun k=>k=b1) w8 w') (h7.ext e8) (pTo x) (wr (jX (rL M (j6 x) x.N) (pTo x)+x.N)) fun w' h F=>⟨h,F⟩;refine⟨y3,y4,w9,s9,s9',w10,s10,?_⟩;exact ih (i+1) w10 _ (by omega) (Frm.trans E8 F810 fun k hk e=>by omega) h10 hQ
   ·rename_i hd;rw[if_neg (by simpa using hd)]at hQ;exact ih (i+1) w4 M (by omega) E4 hM4 hQ
 exact key n 0 w1 [] (by omega) E (MapIs.new hat) fun w' h E'=>hQ b1 w' hb1 (by simpa using h) E'
theorem aFh{w:World}{a:Option Addr}{n c:Nat}{am:List TAmount}(hr:Rd TAmount.enc 2 w a n am)(hn:n≤100000){Q:Option Addr→Nat→Nat→World→Prop}
 (hQ:∀a2 n2 c2 w',Own 58 2 TAmount.enc w' a2 n2 c2 (sX am)→(∀k,obk a2 c2=some k→w.heap.size≤k)→Ext w w'→Q a2 n2 c2 w'):Cl Pg 88 #[vl a n c] w (fun v w'=>∃a2 n2 c2,v=vl a2 n2 c2∧Q a2 n2 c2 w'):=by
 refine fE.ok (bW (er w) fun b w1 hb hat E _ _=>⟨n+1,?_⟩);have fin:∀w',MapIs vs w' b (sI [] am)→Ext w w'→∃(it1:Nat),∃w6,(Instr.range 56 (.map (some b))).run Pg w'= .ok (.pointer (some ⟨it1,0,none⟩)) w6∧∃k,fE.l2 Q it1 k none 0 0 w6:=by
  intro w0 h E0;have hm:(sI [] am).length≤100000:=by have:=aBt am [];have:=hr.1;simp only[List.length_nil]at*;omega
  have hsm:sX am=isort mM (((sI [] am).filter fun y=>y.2 !=0).map j5):=rfl;rw[hsm]at hQ;clear hsm;generalize sI [] am=m at h hm hQ;obtain⟨w1,hr1,hi,E1⟩:=aBx aCl h;refine⟨_,w1,hr1,unseen m.length []+1,?_⟩;have hpw:=h.2;have hit0:w.heap.size≤w0.heap.size:=E0.size;have hitl:w0.heap.size≤w0.heap.size:=Nat.le_refl _;generalize hit:w0.heap.size=it at hr1 hi hit0 hitl
  have fin:∀w' (seen:List Nat) a n c,IterIs w' it b m.length seen→(∀j,j<m.length→j∈seen)→Ext w w'→Own 58 2 TAmount.enc w' a n c (((seen.filterMap fun j=>m[j]?).filter fun y=>y.2 !=0).map j5)→(∀k,obk a c=some k→w.heap.size≤k)→Cl Pg 145 #[vl a n c,.func (.func 146) #[] #[]] w' (fun v w'=>v= .tuple #[]∧Q a n c w'):=by
   intro w' seen a n c hi hall E ho hk;have hp:=visited hi.nodup hi.lt hall;have hp2:(((seen.filterMap fun j=>m[j]?).filter fun y=>y.2 !=0).map j5).Perm ((m.filter fun y=>y.2 !=0).map j5):=(hp.filter _).map _;have hinj:∀x∈(m.filter fun y=>y.2 !=0).map j5,∀y∈(m.filter fun y=>y.2 !=0).map j5,x.Unit=y.Unit→x=y:=by
    intro x hx y hy e1;obtain⟨x',hx',rfl⟩:=List.mem_map.1 hx;obtain⟨y',hy',rfl⟩:=List.mem_map.1 hy;have:x'=y':=aBP hpw x' (List.mem_filter.1 hx').1 y' (List.mem_filter.1 hy').1 e1;rw[this]
   have hlen:n≤m.length:=by rw[ho.1,hp2.length_eq,List.length_map];exact List.length_filter_le _ _
   refine aDC ho (by omega) (fun x hx y hy=>hinj x (hp2.mem_iff.1 hx) y (hp2.mem_iff.1 hy)) fun w2 ho2 F2=>hQ _ _ _ _ ?_ hk (Frm.trans E F2 fun k hk' e=>by have:=hk k e;omega);have:isort mM (((seen.filterMap fun j=>m[j]?).filter fun y=>y.2 !=0).map j5)=isort mM ((m.filter fun y=>y.2 !=0).map j5):=by
    refine lN tY ((dI _).trans hp2) (lZ tY _) fun x hx y hy h1 h2=>?_;have e:∀{a b:TAmount},mM a b=false→iO a.Unit b.Unit=false:=fun{a b} h=>by
     rw[←Bool.not_eq_true,nP,Bool.not_eq_true]at h;exact h
    exact hinj x hx y hy (nX (e h1) (e h2))
   rwa[this]at ho2
  have key:∀q w' seen a n c,unseen m.length seen≤q→IterIs w' it b m.length seen→MapIs vs w' b m→Ext w w'→n≤seen.length→seen.length+unseen m.length seen≤m.length→Own 58 2 TAmount.enc w' a n c (((seen.filterMap fun j=>m[j]?).filter fun y=>y.2 !=0).map j5)→(∀k,obk a c=some k→w.heap.size≤k)→fE.l2 Q it (q+1) a n c w':=by
   intro q;induction q with
   | zero=>
    intro w' seen a n c hs hi h E hn hsl ho hk;unfold fE.l2;rcases yC h hi (ty:=0)with⟨j,y,w2,hj,hy,_,hi2,_⟩ | ⟨hall,w2,hr,e2⟩
    ·have:=sV (List.getElem?_eq_some_iff.1 hy).1 hj;omega
    ·exact .inr ⟨w2,hr,fin w2 seen a n c (hi.frm e2 id) hall (E.trans e2) (ho.ext e2) hk⟩
   | succ q ih=>
    intro w' seen a n c hs hi h E hn hsl ho hk;unfold fE.l2;rcases yC h hi (ty:=0)with⟨j,y,w2,hj,hy,hr,hi2,F2⟩ | ⟨hall,w2,hr,e2⟩
    ·have hstep:=sV (List.getElem?_eq_some_iff.1 hy).1 hj;have hne:b≠it:=fun e=>by subst e;have:=hi.blk;have h':=h.1;exact absurd (Option.some.inj (this.symm.trans h')) (by simp)
     have h2:=h.frm F2 hne;have hkit:∀k,obk a c=some k→¬k=it:=fun k hk' e=>by
      subst e;obtain⟨cur,hc⟩:=ho.at _ hk';exact absurd (Option.some.inj (hi.blk.symm.trans hc)) (by simp)
     have E2:Ext w w2:=Frm.trans E F2 fun k hk' e=>by omega
     have ho2:=ho.frm F2 hkit;have hfm:(((seen++[j]).filterMap fun j=>m[j]?).filter fun y=>y.2 !=0).map j5=(((seen.filterMap fun j=>m[j]?).filter fun y=>y.2 !=0).map j5)++if y.2 !=0 then [j5 y]else []:=by
      have e1:([j].filterMap fun j=>m[j]?)=[y]:=by simp[hy]
      have e2:([y].filter fun y=>y.2 !=0).map j5=if y.2 !=0 then [j5 y]else []:=by cases hz:(y.2 !=0)<;>simp[hz]
      rw[List.filterMap_append,e1,List.filter_append,List.map_append,e2]
     have hsl':(seen++[j]).length+unseen m.length (seen++[j])≤m.length:=by simp;omega
     refine .inl ⟨_,_,w2,hr,y.1,y.2,aCH h2 hi2 hy,ifb ?_⟩;split
     ·rename_i hnz;rw[if_pos hnz]at hfm;refine bW E2 fun b2 w6 hb2 hat6 E6 e6 _=>jT aF9 lS (fun x=>iN rfl) (ho2.ext e6) (Rd.one (enc:=TAmount.enc) (sz:=2) (j5 y) hat6) (by omega) (by simp only[maxLen];omega) fun a2 c2 w7 ho7 F7 hb7=>?_;rw[←hfm]at ho7;have k7:∀{o:Obj} {k:Nat},At w6 k o→tyO o≠some 58→¬obk a c=some k:=fun hk' ho' e=>(ho2.ext e6).neT hk' ho' e
      refine ih w7 (seen++[j]) a2 (n+1) c2 (by omega) ((hi2.frm e6 id).frm F7 (k7 (hi2.frm e6 id).blk (by simp[tyO]))) ((h2.ext e6).frm F7 (k7 (h2.ext e6).1 (by simp[tyO]))) (Frm.trans E6 F7 fun k hk' e=>by have:=hk k e;omega) (by simp;omega) hsl' ho7 fun k hk'=>(hb7 k hk').elim (hk k) fun h=>Nat.le_trans E6.size h
     ·rename_i hnz;rw[if_neg hnz,List.append_nil]at hfm;rw[←hfm]at ho2;exact ih w2 (seen++[j]) a n c (by omega) hi2 h2 E2 (by simp;omega) hsl' ho2 hk
    ·exact .inr ⟨w2,hr,fin w2 seen a n c (hi.frm e2 id) hall (E.trans e2) (ho.ext e2) hk⟩
  refine key _ w1 [] none 0 0 (Nat.le_refl _) hi (h.ext E1) (E0.trans E1) (Nat.zero_le _) ?_ (by simpa using Own.nil) (fun k hk=>by cases hk);have:unseen m.length []=m.length:=by unfold unseen;rw[List.filter_eq_self.2 (by simp),List.length_range]
  simp[this]
 have key:∀m i w' M,i+m=n→Ext w w'→MapIs vs w' b M→(∀w',MapIs vs w' b (sI M (am.drop i))→Ext w w'→∃(it1:Nat),∃w6,(Instr.range 56 (.map (some b))).run Pg w'= .ok (.pointer (some ⟨it1,0,none⟩)) w6∧∃k,fE.l2 Q it1 k none 0 0 w6)→fE.l1 Q a n b (m+1) (i:Nat) w':=by
  intro m;induction m with
  | zero=>
   intro i w' M hi E hM hQ;unfold fE.l1;rw[List.drop_of_length_le (by have:=hr.1;omega)]at hQ;exact dK (by omega) (hQ _ hM E)
  | succ m ih=>
   intro i w' M hi E hM hQ;unfold fE.l1;refine dQ (by omega) ((hr.ext E).ix (by omega) (by omega) fun a0 x ha hx hc=>⟨x,hc,bW E fun b2 w3 hb2 hat2 E3 e3 _=>lW E3 hat2 hb2 fun w4 hat4 E4 f4=>?_⟩);simp only[Int.toNat_natCast]at hx;obtain⟨hl,hx'⟩:=List.getElem?_eq_some_iff.1 hx;rw[List.drop_eq_getElem_cons hl,hx']at hQ;simp only[sI]at hQ;have hM4:MapIs vs w4 b M:=(hM.ext e3).frm f4 fun e=>xP (hM.ext e3) hat2 e.symm;rw[fO (n:=n) (by omega) (by omega) (by simp only[maxLen];omega)]
   obtain⟨w5,r5,h5,F5⟩:=aBg aCl hM4 x.Unit (wr (jX M x.Unit+x.N));refine⟨_,pO aCl hM4 x.Unit,w5,r5,?_⟩;exact ih (i+1) w5 _ (by omega) (Frm.trans E4 F5 fun k hk e=>by omega) h5 hQ
 exact key n 0 w1 [] (by omega) E (MapIs.new hat) fun w' h E'=>fin w' (by simpa using h) E'
end Go.Proofs.YtcbijkakoepglaaGreat
namespace Go.Proofs.YtcbijkakoepglaaGreat
open Go Go.Wx
set_option maxRecDepth 100000
def nV.R(Q:Option Addr→Nat→Nat→World→Prop)(l:Option Addr)(day:Int)(w:World):Prop:=(
 Ifb l.isNone
 (Q none 0 0 w)
 (NN l fun p1=>
 dU w (Addr.add p1 4) fun x1_a x1_n x1_c=>
 Cl Pg 84 #[vl x1_a x1_n x1_c,vi day] w (fun v w1=>∃(r1:Option Nat),v= .map r1∧Cl Pg 70 #[.map r1] w1 (fun v w2=>∃r2_a r2_n r2_c,v=vl r2_a r2_n r2_c∧Q r2_a r2_n r2_c w2))))
theorem nV.ok{Q:Option Addr→Nat→Nat→World→Prop}{l:Option Addr}{day:Int}{w:World}(h:nV.R Q l day w):Cl Pg 25 #[vP l,vi day] w (fun v w'=>∃r0a r0n r0c,v=vl r0a r0n r0c∧Q r0a r0n r0c w'):=by
 refine aI (args:=[vP l,vi day]) Tryz.func25 ?_
 unfold nV.R at h
 refine aC<|zp 1<|aD<|aL<|aC<|zp 1<|sH rfl rfl (v:=vb l.isNone) (jE (by kernel_rfl) rfl rfl rfl)<|aD<|zc h (fun h=>?_) fun h=>?_
 exact aC<|zp 1<|aD<|aN<|aH<|z1 ⟨_,_,_,rfl,h⟩
 refine aJ<|aC<|zp 1<|zo h fun p1 h=>zp 2<|zr sT h fun x1_a x1_n x1_c hx1 h=>zp 1<|zk h ?_
 rintro _ w1 ⟨r1,rfl,h⟩
 refine zk h ?_
 rintro _ w2 ⟨r2_a,r2_n,r2_c,rfl,h⟩
 exact zp 1<|aD<|aN<|z1 ⟨_,_,_,rfl,h⟩
def mI.R(Q:Option Addr→Nat→Nat→World→Prop)(l:Option Addr)(w:World):Prop:=(
 Ifb l.isNone
 (Q none 0 0 w)
 (NN l fun p1=>
 dU w (Addr.add p1 4) fun x1_a x1_n x1_c=>
 Cl Pg 85 #[vl x1_a x1_n x1_c] w (fun v w1=>∃r1_a r1_n r1_c,v=vl r1_a r1_n r1_c∧Q r1_a r1_n r1_c w1)))
theorem mI.ok{Q:Option Addr→Nat→Nat→World→Prop}{l:Option Addr}{w:World}(h:mI.R Q l w):Cl Pg 26 #[vP l] w (fun v w'=>∃r0a r0n r0c,v=vl r0a r0n r0c∧Q r0a r0n r0c w'):=by
 refine aI (args:=[vP l]) Tryz.func26 ?_
 unfold mI.R at h
 refine aC<|zp 1<|aD<|aL<|aC<|zp 1<|sH rfl rfl (v:=vb l.isNone) (jE (by kernel_rfl) rfl rfl rfl)<|aD<|zc h (fun h=>?_) fun h=>?_
 exact aC<|zp 1<|aD<|aN<|aH<|z1 ⟨_,_,_,rfl,h⟩
 refine aJ<|aC<|zp 1<|zo h fun p1 h=>zp 2<|zr sT h fun x1_a x1_n x1_c hx1 h=>zk h ?_
 rintro _ w1 ⟨r1_a,r1_n,r1_c,rfl,h⟩
 exact zp 1<|aD<|aN<|z1 ⟨_,_,_,rfl,h⟩
def nU.R(Q:Int→World→Prop)(l:Option Addr)(name:ByteArray)(day:Int)(w:World):Prop:=(
 Ifb l.isNone
 (Q 0 w)
 (NN l fun p1=>
 Cl Pg 79 #[vp p1,vs name,vi day] w (fun v w1=>∃r1,v=vi r1∧Q r1 w1)))
theorem nU.ok{Q:Int→World→Prop}{l:Option Addr}{name:ByteArray}{day:Int}{w:World}(h:nU.R Q l name day w):Cl Pg 27 #[vP l,vs name,vi day] w (fun v w'=>∃r0,v=vi r0∧Q r0 w'):=by
 refine aI (args:=[vP l,vs name,vi day]) Tryz.func27 ?_
 unfold nU.R at h
 refine aC<|zp 1<|aD<|aL<|aC<|zp 1<|sH rfl rfl (v:=vb l.isNone) (jE (by kernel_rfl) rfl rfl rfl)<|aD<|zc h (fun h=>?_) fun h=>?_
 exact aC<|zp 1<|aD<|aN<|aH<|z1 ⟨_,rfl,h⟩
 refine aJ<|aC<|zp 1<|zo h fun p1 h=>zp 3<|zk h ?_
 rintro _ w1 ⟨r1,rfl,h⟩
 exact zp 1<|aD<|aN<|z1 ⟨_,rfl,h⟩
def fH.l1(Q:Option Addr→Nat→Nat→World→Prop)(thing:Int)(x1_a:Option Addr)(x1_n:Nat):Nat→Option Addr→Nat→Nat→Int→World→Prop
 | 0,_,_,_,_,_=>False
 | nl1+1,v1_a,v1_n,v1_c,v2,w1=>(
 Ifb (decide (v2<((x1_n:Nat):Int)))
 (Ix x1_a x1_n v2 fun p2=>
 LdT TLot.enc w1 (Addr.add p2 (v2.toNat*10)) fun x2=>
 Al w1 (.cells #[vi 0,vi 0,vi 0,vi 0,vi 0,vs (ByteArray.mk #[]),vi 0,vi 0,vu 0,vi 0] 45) fun b1 w2=>
 Sb w2 b1 (.cells #[vi x2.Id,vi x2.Thing,vi x2.Layer,vi x2.Day,vi x2.Due,vs x2.Unit,vi x2.N,vi x2.Left,vu x2.State,vi x2.Bag] 45 (0,0)) fun w3=>
 Ifb (x2.Thing==thing)
 (Al w3 (.cells #[vi x2.Id,vi x2.Thing,vi x2.Layer,vi x2.Day,vi x2.Due,vs x2.Unit,vi x2.N,vi x2.Left,vu x2.State,vi x2.Bag] 45) fun b2 w4=>
 Ap Pg w4 #[46,46] 46 (vl v1_a v1_n v1_c) (vl (some ⟨b2,0,none⟩) 1 1) fun a1_a a1_n a1_c w5=>
 (fH.l1 Q thing x1_a x1_n nl1) a1_a a1_n a1_c (IntKind.wrap .i64 (v2+1)) w5)
 ((fH.l1 Q thing x1_a x1_n nl1) v1_a v1_n v1_c (IntKind.wrap .i64 (v2+1)) w3))
 (Q v1_a v1_n v1_c w1))
def fH.R(Q:Option Addr→Nat→Nat→World→Prop)(l:Option Addr)(thing:Int)(w:World):Prop:=(
 Ifb l.isNone
 (Q none 0 0 w)
 (NN l fun p1=>
 dU w (Addr.add p1 3) fun x1_a x1_n x1_c=>
 ∃k,fH.l1 Q thing x1_a x1_n k none 0 0 0 w))
theorem fH.ok{Q:Option Addr→Nat→Nat→World→Prop}{l:Option Addr}{thing:Int}{w:World}(h:fH.R Q l thing w):Cl Pg 28 #[vP l,vi thing] w (fun v w'=>∃r0a r0n r0c,v=vl r0a r0n r0c∧Q r0a r0n r0c w'):=by
 refine aI (args:=[vP l,vi thing]) Tryz.func28 ?_
 unfold fH.R at h
 refine aC<|zp 1<|aD<|aL<|aC<|zp 1<|sH rfl rfl (v:=vb l.isNone) (jE (by kernel_rfl) rfl rfl rfl)<|aD<|zc h (fun h=>?_) fun h=>?_
 exact aC<|zp 1<|aD<|aN<|aH<|z1 ⟨_,_,_,rfl,h⟩
 refine aJ<|aC<|zp 1<|aD<|aL<|aC<|zp 1<|zo h fun p1 h=>zp 2<|zr iU h fun x1_a x1_n x1_c hx1 h=>zp 2<|aD<|aR ?_
 obtain⟨nl1,h⟩:=h
 refine bS (fun k e w1=>∃(e0:Env) (v1_a:Option Addr) (v1_n:Nat) (v1_c:Nat) (v2:Int),e=upds e0 [(1,vi thing),(5,vl v1_a v1_n v1_c),(14,vl x1_a x1_n x1_c),(15,vi (x1_n:Nat)),(16,vi v2)]∧fH.l1 Q thing x1_a x1_n k v1_a v1_n v1_c v2 w1) nl1 ?_ ?_ ?_
 rintro _ _ ⟨_,_,_,_,_,_,h⟩
 exact h
 exact⟨_,none,0,0,0,ag,h⟩
 clear h nl1
 rintro nl1 _ w1 ⟨e0,v1_a,v1_n,v1_c,v2,rfl,h⟩
 unfold fH.l1 at h
 refine aC<|zp 1<|aD<|aL<|zc h (fun h=>?_) fun h=>?_
 refine aJ<|aL<|aR<|aC<|zi dX h fun p2 h=>?_
 obtain⟨x2,hx2,h⟩:=h
 refine zn jU hx2<|zq h fun b1 w2 _ _ q1 h=>zt jU q1 h fun w3 ew q h=>?_
 replace q1:=q
 refine aD<|aC<|zp 1<|zb tk3 q1<|zp 2<|aD<|zc h (fun h=>?_) fun h=>?_
 refine aW<|zp 1<|zm jU q1<|zv 1 h fun b2 w4 _ _ _ h=>za h ?_
 rintro a1_a a1_n a1_c w5 h
 exact zp 1<|aD<|aG<|aW<|zp 2<|aD<|⟨_,a1_a,a1_n,a1_c,IntKind.wrap .i64 (v2+1),ag,h⟩
 exact aJ<|aG<|aW<|zp 2<|aD<|⟨_,v1_a,v1_n,v1_c,IntKind.wrap .i64 (v2+1),ag,h⟩
 exact dE<|aU<|aC<|zp 2<|aD<|aN<|z1 ⟨_,_,_,rfl,h⟩
def fN.l1(Q:Int→World→Prop)(l:Option Addr)(day:Int)(r1_a:Option Addr)(r1_n:Nat):Nat→Int→Int→World→Prop
 | 0,_,_,_=>False
 | nl1+1,v1,v2,w3=>(
 Ifb (decide (v2<((r1_n:Nat):Int)))
 (Ix r1_a r1_n v2 fun p1=>
 LdT TAmount.enc w3 (Addr.add p1 (v2.toNat*2)) fun x1=>
 Al w3 (.cells #[vs (ByteArray.mk #[]),vi 0] 58) fun b2 w4=>
 Sb w4 b2 (.cells #[vs x1.Unit,vi x1.N] 58 (0,0)) fun w5=>
 Dr w5 fun w6=>
 Cl Pg 27 #[vP l,vs x1.Unit,vi day] w6 (fun v w7=>∃r2,v=vi r2∧Kp b2 w6 w7∧(fN.l1 Q l day r1_a r1_n nl1) (IntKind.wrap .i64 (v1+(IntKind.wrap .i64 (x1.N*r2)))) (IntKind.wrap .i64 (v2+1)) w7))
 (Q v1 w3))
def fN.R(Q:Int→World→Prop)(l:Option Addr)(a:TAccount)(day:Int)(w:World):Prop:=(
 Al w (.cells #[vu a.Kind,vi a.Id] 40) fun b1 w1=>
 Cl Pg 32 #[vP l,vg [vu a.Kind,vi a.Id],vi day] w1 (fun v w2=>∃r1_a r1_n r1_c,v=vl r1_a r1_n r1_c∧∃k,fN.l1 Q l day r1_a r1_n k 0 0 w2))
theorem fN.ok{Q:Int→World→Prop}{l:Option Addr}{a:TAccount}{day:Int}{w:World}(h:fN.R Q l a day w):Cl Pg 29 #[vP l,vg (TAccount.enc a),vi day] w (fun v w'=>∃r0,v=vi r0∧Q r0 w'):=by
 refine aI (args:=[vP l,vg (TAccount.enc a),vi day]) Tryz.func29 ?_
 unfold fN.R at h
 refine aC<|zq h fun b1 w1 _ _ q1 h=>zp 1<|aD<|aC<|zp 1<|aD<|aL<|aC<|zp 1<|zm j8 q1<|zp 1<|zk h ?_
 rintro _ w2 ⟨r1_a,r1_n,r1_c,rfl,h⟩
 refine zp 2<|aD<|aR ?_
 obtain⟨nl1,h⟩:=h
 refine bS (fun k e w3=>∃(e0:Env) (v1:Int) (v2:Int),e=upds e0 [(0,vP l),(2,vi day),(7,vi v1),(13,vl r1_a r1_n r1_c),(14,vi (r1_n:Nat)),(15,vi v2)]∧fN.l1 Q l day r1_a r1_n k v1 v2 w3) nl1 ?_ ?_ ?_
 rintro _ _ ⟨_,_,_,_,h⟩
 exact h
 exact⟨_,0,0,ag,h⟩
 clear h nl1
 rintro nl1 _ w3 ⟨e0,v1,v2,rfl,h⟩
 unfold fN.l1 at h
 refine aC<|zp 1<|aD<|aL<|zc h (fun h=>?_) fun h=>?_
 refine aJ<|aL<|aR<|aC<|zi pM h fun p1 h=>?_
 obtain⟨x1,hx1,h⟩:=h
 refine zn yP hx1<|zq h fun b2 w4 _ _ q2 h=>zt yP q2 h fun w5 ew q h=>?_
 replace q2:=q
 refine aD<|drw iG [[],[],[],[],[],[],[],[5],[2,5],[2,5],[2,5]] [.p 0,.p 1,.l 2,.p 3,.p 4,.l 5,.p 6,.e 7,.p 8,.p 9,.p 10] h fun w6 ew h=>?_
 replace q2:=dN ew q2
 refine zP 2<|zB tk3 q2<|zP 2<|zB tk9 q2<|zP 1<|zK h ?_
 rintro _ w7 ⟨r2,rfl,hk0,h⟩
 replace q2:=bG hk0 q2
 refine⟨AllOk.cons (jW (jO rfl rfl (fW tk3 (aV q2 rfl))))<|AllOk.nil,?_⟩
 exact zP 3<|bF<|aG<|aW<|zp 2<|aD<|⟨_,IntKind.wrap .i64 (v1+(IntKind.wrap .i64 (x1.N*r2))),IntKind.wrap .i64 (v2+1),ag,h⟩
 exact dE<|aU<|aC<|zp 2<|aD<|aN<|z1 ⟨_,rfl,h⟩
def mW.R(Q:Int→World→Prop)(l:Option Addr)(a:TAccount)(name:ByteArray)(day:Int)(w:World):Prop:=(
 Al w (.cells #[vu a.Kind,vi a.Id] 40) fun b1 w1=>
 Ifb l.isNone
 (Q 0 w1)
 (Dr w1 fun w2=>
 NN l fun p1=>
 dU w2 (Addr.add p1 4) fun x1_a x1_n x1_c=>
 Cl Pg 84 #[vl x1_a x1_n x1_c,vi day] w2 (fun v w3=>∃(r1:Option Nat),v= .map r1∧Kp b1 w2 w3∧∃x2,(Instr.lookup 103 (.map r1) (vg [vu a.Kind,vi a.Id,vs name]) false).run Pg w3= .ok (vi x2) w3∧
 Q x2 w3)))
theorem mW.ok{Q:Int→World→Prop}{l:Option Addr}{a:TAccount}{name:ByteArray}{day:Int}{w:World}(h:mW.R Q l a name day w):Cl Pg 48 #[vP l,vg (TAccount.enc a),vs name,vi day] w (fun v w'=>∃r0,v=vi r0∧Q r0 w'):=by
 refine aI (args:=[vP l,vg (TAccount.enc a),vs name,vi day]) Tryz.func48 ?_
 unfold mW.R at h
 refine aC<|zq h fun b1 w1 _ _ q1 h=>zp 1<|aD<|aL<|aC<|zp 1<|sH rfl rfl (v:=vb l.isNone) (jE (by kernel_rfl) rfl rfl rfl)<|aD<|zc h (fun h=>?_) fun h=>?_
 exact aC<|zp 1<|aD<|aN<|aH<|z1 ⟨_,rfl,h⟩
 refine aJ<|drs iG [[],[],[],[],[],[],[4],[],[],[7],[4,7],[4,7,10]] [.p 0,.p 1,.p 2,.p 3,.l 4,.p 5,.l 7,.p 8,.p 9,.e 6,.l 10,.p 11] h fun w2 ew h=>?_
 replace q1:=dN ew q1
 refine zP 1<|zO h fun p1 h=>zP 2<|zR sT h fun x1_a x1_n x1_c hx1 h=>zP 1<|zM j8 q1<|zP 2<|zK h ?_
 rintro _ w3 ⟨r1,rfl,hk0,h⟩
 replace q1:=bG hk0 q1
 refine⟨AllOk.cons (jW (jO rfl rfl (bT j8 (vs:=[vu a.Kind,vi a.Id]) rfl (dS q1 rfl))))<|AllOk.nil,?_⟩
 obtain⟨x2,hlk1,h⟩:=h
 exact zY hlk1<|zP 1<|bF<|aN<|z1 ⟨_,rfl,h⟩
def dR.l1(Q:Option Addr→Nat→Nat→World→Prop)(a:TAccount)(b1:Nat)(r1_a:Option Addr)(r1_n:Nat):Nat→Option Addr→Nat→Nat→Int→World→Prop
 | 0,_,_,_,_,_=>False
 | nl1+1,v1_a,v1_n,v1_c,v2,w3=>(
 Ifb (decide (v2<((r1_n:Nat):Int)))
 (Ix r1_a r1_n v2 fun p1=>
 LdT TTrialLine.enc w3 (Addr.add p1 (v2.toNat*4)) fun x1=>
 Al w3 (.cells #[vu 0,vi 0,vs (ByteArray.mk #[]),vi 0] 49) fun b2 w4=>
 Sb w4 b2 (.cells #[vu x1.Account_Kind,vi x1.Account_Id,vs x1.Unit,vi x1.N] 49 (0,0)) fun w5=>
 Ifb ((x1.Account_Kind==a.Kind)&&((x1.Account_Id==a.Id)&&true))
 (Al w5 (.cells #[vs x1.Unit,vi x1.N] 58) fun b3 w6=>
 Ap Pg w6 #[53,53] 53 (vl v1_a v1_n v1_c) (vl (some ⟨b3,0,none⟩) 1 1) fun a1_a a1_n a1_c w7=>
 Kp b1 w6 w7∧(dR.l1 Q a b1 r1_a r1_n nl1) a1_a a1_n a1_c (IntKind.wrap .i64 (v2+1)) w7)
 ((dR.l1 Q a b1 r1_a r1_n nl1) v1_a v1_n v1_c (IntKind.wrap .i64 (v2+1)) w5))
 (Q v1_a v1_n v1_c w3))
def dR.R(Q:Option Addr→Nat→Nat→World→Prop)(l:Option Addr)(a:TAccount)(day:Int)(w:World):Prop:=(
 Al w (.cells #[vu a.Kind,vi a.Id] 40) fun b1 w1=>
 Cl Pg 25 #[vP l,vi day] w1 (fun v w2=>∃r1_a r1_n r1_c,v=vl r1_a r1_n r1_c∧Kp b1 w1 w2∧∃k,dR.l1 Q a b1 r1_a r1_n k none 0 0 0 w2))
theorem dR.ok{Q:Option Addr→Nat→Nat→World→Prop}{l:Option Addr}{a:TAccount}{day:Int}{w:World}(h:dR.R Q l a day w):Cl Pg 32 #[vP l,vg (TAccount.enc a),vi day] w (fun v w'=>∃r0a r0n r0c,v=vl r0a r0n r0c∧Q r0a r0n r0c w'):=by
 refine aI (args:=[vP l,vg (TAccount.enc a),vi day]) Tryz.func32 ?_
 unfold dR.R at h
 refine aC<|zq h fun b1 w1 _ _ q1 h=>zp 1<|aD<|aC<|zp 1<|aD<|aL<|aC<|zp 2<|zk h ?_
 rintro _ w2 ⟨r1_a,r1_n,r1_c,rfl,hk0,h⟩
 replace q1:=bG hk0 q1
 refine zp 2<|aD<|aR ?_
 obtain⟨nl1,h⟩:=h
 refine bS (fun k e w3=>∃(e0:Env) (v1_a:Option Addr) (v1_n:Nat) (v1_c:Nat) (v2:Int),e=upds e0 [(4,vp ⟨b1,0,none⟩),(7,vl v1_a v1_n v1_c),(12,vl r1_a r1_n r1_c),(13,vi (r1_n:Nat)),(14,vi v2)]∧w3.heap[b1]? =some (.cells #[vu a.Kind,vi a.Id] 40 (0,0))∧dR.l1 Q a b1 r1_a r1_n k v1_a v1_n v1_c v2 w3) nl1 ?_ ?_ ?_
 rintro _ _ ⟨_,_,_,_,_,_,_,h⟩
 exact h
 exact⟨_,none,0,0,0,ag,q1,h⟩
 clear h nl1 q1
 rintro nl1 _ w3 ⟨e0,v1_a,v1_n,v1_c,v2,rfl,q1,h⟩
 unfold dR.l1 at h
 refine aC<|zp 1<|aD<|aL<|zc h (fun h=>?_) fun h=>?_
 refine aJ<|aL<|aR<|aC<|zi xC h fun p1 h=>?_
 obtain⟨x1,hx1,h⟩:=h
 refine zn xW hx1<|zq h fun b2 w4 eb ew q2 h=>?_
 have o1:=q1
 replace q1:=fQ ew q1
 have n1_2:b1≠b2:=lR o1 eb
 clear o1
 clear eb ew
 refine zt xW q2 h fun w5 ew q h=>?_
 replace q1:=dC ew n1_2 q1
 replace q2:=q
 refine aD<|aC<|zp 1<|zm j8 q2<|zm j8 q1<|wG rfl rfl (v:=vb ((x1.Account_Kind==a.Kind)&&((x1.Account_Id==a.Id)&&true))) (rE (by kernel_rfl) (fun w=>tL (d:=9998)) rfl rfl rfl)<|aD<|zc h (fun h=>?_) fun h=>?_
 refine aW<|zp 2<|zb tk9 q2<|zp 1<|zb tk3 q2<|zp 1<|zv 1 h fun b3 w6 eb ew q3 h=>?_
 replace q1:=fQ ew q1
 clear eb ew q3
 refine za h ?_
 rintro a1_a a1_n a1_c w7 ⟨hk0,h⟩
 replace q1:=bG hk0 q1
 exact zp 1<|aD<|aG<|aW<|zp 2<|aD<|⟨_,a1_a,a1_n,a1_c,IntKind.wrap .i64 (v2+1),ag,q1,h⟩
 exact aJ<|aG<|aW<|zp 2<|aD<|⟨_,v1_a,v1_n,v1_c,IntKind.wrap .i64 (v2+1),ag,q1,h⟩
 exact dE<|aU<|aC<|zp 2<|aD<|aN<|z1 ⟨_,_,_,rfl,h⟩
def o6.R(Q:Option Addr→Nat→Nat→World→Prop)(l:Option Addr)(until_:Int)(w:World):Prop:=(
 Ifb l.isNone
 (Q none 0 0 w)
 (NN l fun p1=>
 Cl Pg 75 #[vp p1,vi until_] w (fun v w1=>∃r1_a r1_n r1_c,v=vl r1_a r1_n r1_c∧Q r1_a r1_n r1_c w1)))
theorem o6.ok{Q:Option Addr→Nat→Nat→World→Prop}{l:Option Addr}{until_:Int}{w:World}(h:o6.R Q l until_ w):Cl Pg 52 #[vP l,vi until_] w (fun v w'=>∃r0a r0n r0c,v=vl r0a r0n r0c∧Q r0a r0n r0c w'):=by
 refine aI (args:=[vP l,vi until_]) Tryz.func52 ?_
 unfold o6.R at h
 refine aC<|zp 1<|aD<|aL<|aC<|zp 1<|sH rfl rfl (v:=vb l.isNone) (jE (by kernel_rfl) rfl rfl rfl)<|aD<|zc h (fun h=>?_) fun h=>?_
 exact aC<|zp 1<|aD<|aN<|aH<|z1 ⟨_,_,_,rfl,h⟩
 refine aJ<|aC<|zp 1<|zo h fun p1 h=>zp 2<|zk h ?_
 rintro _ w1 ⟨r1_a,r1_n,r1_c,rfl,h⟩
 exact zp 1<|aD<|aN<|z1 ⟨_,_,_,rfl,h⟩
def oJ.R(Q:Int→World→Prop)(l:Option Addr)(name:ByteArray)(n:Int)(day:Int)(w:World):Prop:=(
 Ifb l.isNone
 (Q 0 w)
 (NN l fun p1=>
 Cl Pg 97 #[vp p1,vs name,vi n,vi day] w (fun v w1=>∃r1,v=vi r1∧Q r1 w1)))
theorem oJ.ok{Q:Int→World→Prop}{l:Option Addr}{name:ByteArray}{n:Int}{day:Int}{w:World}(h:oJ.R Q l name n day w):Cl Pg 55 #[vP l,vs name,vi n,vi day] w (fun v w'=>∃r0,v=vi r0∧Q r0 w'):=by
 refine aI (args:=[vP l,vs name,vi n,vi day]) Tryz.func55 ?_
 unfold oJ.R at h
 refine aC<|zp 1<|aD<|aL<|aC<|zp 1<|sH rfl rfl (v:=vb l.isNone) (jE (by kernel_rfl) rfl rfl rfl)<|aD<|zc h (fun h=>?_) fun h=>?_
 exact aC<|zp 1<|aD<|aN<|aH<|z1 ⟨_,rfl,h⟩
 refine aJ<|aC<|zp 1<|zo h fun p1 h=>zp 4<|zk h ?_
 rintro _ w1 ⟨r1,rfl,h⟩
 exact zp 1<|aD<|aN<|z1 ⟨_,rfl,h⟩
def aO.j3(Q:Option Addr→Nat→Nat→World→Prop)(from_:Int)(until_:Int)(b1:Nat)(v1_a:Option Addr)(v1_n:Nat)(v1_c:Nat)(v3:Int)(kl1:Option Addr→Nat→Nat→Int→Int→World→Prop)(x2:TPosting)(v6:Int)(w7:World):Prop:=(
 Ifb ((decide (x2.Day≥from_))&&(decide (x2.Day≤until_)))
 (Al w7 (.cells #[vi v3,vi v6] 97) fun b3 w8=>
 Ap Pg w8 #[94,94] 94 (vl v1_a v1_n v1_c) (vl (some ⟨b3,0,none⟩) 1 1) fun a1_a a1_n a1_c w9=>
 Kp b1 w8 w9∧kl1 a1_a a1_n a1_c v6 (IntKind.wrap .i64 (v3+1)) w9)
 (kl1 v1_a v1_n v1_c v6 (IntKind.wrap .i64 (v3+1)) w7))
def aO.j2(Q:Option Addr→Nat→Nat→World→Prop)(a:TAccount)(from_:Int)(until_:Int)(b1:Nat)(v1_a:Option Addr)(v1_n:Nat)(v1_c:Nat)(v3:Int)(kl1:Option Addr→Nat→Nat→Int→Int→World→Prop)(x2:TPosting)(v5:Int)(w6:World):Prop:=(
 Ifb ((x2.To_Kind==a.Kind)&&((x2.To_Id==a.Id)&&true))
 (aO.j3 Q from_ until_ b1 v1_a v1_n v1_c v3 kl1 x2 (IntKind.wrap .i64 (v5+x2.N)) w6)
 (aO.j3 Q from_ until_ b1 v1_a v1_n v1_c v3 kl1 x2 v5 w6))
def aO.j1(Q:Option Addr→Nat→Nat→World→Prop)(a:TAccount)(from_:Int)(until_:Int)(b1:Nat)(v1_a:Option Addr)(v1_n:Nat)(v1_c:Nat)(v2:Int)(v3:Int)(kl1:Option Addr→Nat→Nat→Int→Int→World→Prop)(x2:TPosting)(v4:Bool)(w5:World):Prop:=(
 Ifb v4
 (kl1 v1_a v1_n v1_c v2 (IntKind.wrap .i64 (v3+1)) w5)
 (Ifb ((x2.From_Kind==a.Kind)&&((x2.From_Id==a.Id)&&true))
 (aO.j2 Q a from_ until_ b1 v1_a v1_n v1_c v3 kl1 x2 (IntKind.wrap .i64 (v2-x2.N)) w5)
 (aO.j2 Q a from_ until_ b1 v1_a v1_n v1_c v3 kl1 x2 v2 w5)))
def aO.l1(Q:Option Addr→Nat→Nat→World→Prop)(a:TAccount)(name:ByteArray)(from_:Int)(until_:Int)(b1:Nat)(x1_a:Option Addr)(x1_n:Nat):Nat→Option Addr→Nat→Nat→Int→Int→World→Prop
 | 0,_,_,_,_,_,_=>False
 | nl1+1,v1_a,v1_n,v1_c,v2,v3,w2=>(
 Ifb (decide (v3<((x1_n:Nat):Int)))
 (Ix x1_a x1_n v3 fun p2=>
 LdT TPosting.enc w2 (Addr.add p2 (v3.toNat*9)) fun x2=>
 Al w2 (.cells #[vi 0,vs (ByteArray.mk #[]),vi 0,vu 0,vi 0,vu 0,vi 0,vu 0,vi 0] 42) fun b2 w3=>
 Sb w3 b2 (.cells #[vi x2.Day,vs x2.Unit,vi x2.N,vu x2.From_Kind,vi x2.From_Id,vu x2.To_Kind,vi x2.To_Id,vu x2.Why,vi x2.Lot] 42 (0,0)) fun w4=>
 Ifb (!dF x2.Unit name)
 (aO.j1 Q a from_ until_ b1 v1_a v1_n v1_c v2 v3 (aO.l1 Q a name from_ until_ b1 x1_a x1_n nl1) x2 true w4)
 (Ifb (!((x2.From_Kind==a.Kind)&&((x2.From_Id==a.Id)&&true)))
 (aO.j1 Q a from_ until_ b1 v1_a v1_n v1_c v2 v3 (aO.l1 Q a name from_ until_ b1 x1_a x1_n nl1) x2 (!((x2.To_Kind==a.Kind)&&((x2.To_Id==a.Id)&&true))) w4)
 (aO.j1 Q a from_ until_ b1 v1_a v1_n v1_c v2 v3 (aO.l1 Q a name from_ until_ b1 x1_a x1_n nl1) x2 false w4)))
 (Q v1_a v1_n v1_c w2))
def aO.R(Q:Option Addr→Nat→Nat→World→Prop)(l:Option Addr)(a:TAccount)(name:ByteArray)(from_:Int)(until_:Int)(w:World):Prop:=(
 Al w (.cells #[vu a.Kind,vi a.Id] 40) fun b1 w1=>
 Ifb l.isNone
 (Q none 0 0 w1)
 (NN l fun p1=>
 dU w1 (Addr.add p1 4) fun x1_a x1_n x1_c=>
 ∃k,aO.l1 Q a name from_ until_ b1 x1_a x1_n k none 0 0 0 0 w1))
theorem aO.ok{Q:Option Addr→Nat→Nat→World→Prop}{l:Option Addr}{a:TAccount}{name:ByteArray}{from_:Int}{until_:Int}{w:World}(h:aO.R Q l a name from_ until_ w):Cl Pg 53 #[vP l,vg (TAccount.enc a),vs name,vi from_,vi until_] w (fun v w'=>∃r0a r0n r0c,v=vl r0a r0n r0c∧Q r0a r0n r0c w'):=by
 refine aI (args:=[vP l,vg (TAccount.enc a),vs name,vi from_,vi until_]) Tryz.func53 ?_
 unfold aO.R at h
 refine aC<|zq h fun b1 w1 _ _ q1 h=>zp 1<|aD<|aL<|aC<|zp 1<|sH rfl rfl (v:=vb l.isNone) (jE (by kernel_rfl) rfl rfl rfl)<|aD<|zc h (fun h=>?_) fun h=>?_
 exact aC<|zp 1<|aD<|aN<|aH<|z1 ⟨_,_,_,rfl,h⟩
 refine aJ<|aC<|zp 1<|aD<|aC<|zp 1<|aD<|aL<|aC<|zp 1<|zo h fun p1 h=>zp 2<|zr sT h fun x1_a x1_n x1_c hx1 h=>zp 2<|aD<|aR ?_
 obtain⟨nl1,h⟩:=h
 refine bS (fun k e w2=>∃(e0:Env) (v1_a:Option Addr) (v1_n:Nat) (v1_c:Nat) (v2:Int) (v3:Int),e=upds e0 [(2,vs name),(3,vi from_),(4,vi until_),(6,vp ⟨b1,0,none⟩),(11,vl v1_a v1_n v1_c),(12,vi v2),(21,vl x1_a x1_n x1_c),(22,vi (x1_n:Nat)),(23,vi v3)]∧w2.heap[b1]? =some (.cells #[vu a.Kind,vi a.Id] 40 (0,0))∧aO.l1 Q a name from_ until_ b1 x1_a x1_n k v1_a v1_n v1_c v2 v3 w2) nl1 ?_ ?_ ?_
 rintro _ _ ⟨_,_,_,_,_,_,_,_,h⟩
 exact h
 exact⟨_,none,0,0,0,0,ag,q1,h⟩
 clear h nl1 q1
 rintro nl1 _ w2 ⟨e0,v1_a,v1_n,v1_c,v2,v3,rfl,q1,h⟩
 unfold aO.l1 at h
 refine aC<|zp 1<|aD<|aL<|zc h (fun h=>?_) fun h=>?_
 refine aJ<|aL<|aR<|aC<|zp 1<|zi aAw h fun p2 h=>?_
 obtain⟨x2,hx2,h⟩:=h
 refine zn aAV hx2<|zq h fun b2 w3 eb ew q2 h=>?_
 have o1:=q1
 replace q1:=fQ ew q1
 have n1_2:b1≠b2:=lR o1 eb
 clear o1
 clear eb ew
 refine zp 1<|zt aAV q2 h fun w4 ew q h=>?_
 replace q1:=dC ew n1_2 q1
 replace q2:=q
 refine aD<|aL<|fD (fun e w5=>∃(e0:Env) (v4:Bool),e=upds e0 [(2,vs name),(3,vi from_),(4,vi until_),(6,vp ⟨b1,0,none⟩),(11,vl v1_a v1_n v1_c),(12,vi v2),(13,vi v3),(14,vp ⟨b2,0,none⟩),(21,vl x1_a x1_n x1_c),(22,vi (x1_n:Nat)),(23,vi v3),(43,vb v4)]∧w5.heap[b1]? =some (.cells #[vu a.Kind,vi a.Id] 40 (0,0))∧w5.heap[b2]? =some (.cells #[vi x2.Day,vs x2.Unit,vi x2.N,vu x2.From_Kind,vi x2.From_Id,vu x2.To_Kind,vi x2.To_Id,vu x2.Why,vi x2.Lot] 42 (0,0))∧b1≠b2∧aO.j1 Q a from_ until_ b1 v1_a v1_n v1_c v2 v3 (aO.l1 Q a name from_ until_ b1 x1_a x1_n nl1) x2 v4 w5) ?_ ?_
 refine aW<|zp 1<|zb tk9 q2<|zp 3<|zs 32 h (fun h=>?_) fun h=>?_
 exact zp 11<|aD<|⟨_,true,ag,q1,q2,n1_2,h⟩
 refine zp 1<|zm j8 q2<|zm j8 q1<|wG rfl rfl (v:=vb (!((x2.From_Kind==a.Kind)&&((x2.From_Id==a.Id)&&true)))) (sB (by kernel_rfl) (fun w=>tL (d:=9998)) rfl rfl rfl)<|zp 1<|zs 37 h (fun h=>?_) fun h=>?_
 exact zp 1<|zm j8 q2<|zm j8 q1<|wG rfl rfl (v:=vb (!((x2.To_Kind==a.Kind)&&((x2.To_Id==a.Id)&&true)))) (sB (by kernel_rfl) (fun w=>tL (d:=9998)) rfl rfl rfl)<|zp 2<|aD<|⟨_,(!((x2.To_Kind==a.Kind)&&((x2.To_Id==a.Id)&&true))),ag,q1,q2,n1_2,h⟩
 exact zp 6<|aD<|⟨_,false,ag,q1,q2,n1_2,h⟩
 clear h q1 q2 n1_2
 rintro _ w5 ⟨e0,v4,rfl,q1,q2,n1_2,h⟩
 unfold aO.j1 at h
 refine zc h (fun h=>?_) fun h=>?_
 exact dE<|aU<|aW<|zp 2<|aD<|⟨_,v1_a,v1_n,v1_c,v2,IntKind.wrap .i64 (v3+1),ag,q1,h⟩
 refine aJ<|fD (fun e w6=>∃(e0:Env) (v5:Int),e=upds e0 [(2,vs name),(3,vi from_),(4,vi until_),(6,vp ⟨b1,0,none⟩),(11,vl v1_a v1_n v1_c),(12,vi v5),(13,vi v3),(14,vp ⟨b2,0,none⟩),(21,vl x1_a x1_n x1_c),(22,vi (x1_n:Nat)),(23,vi v3)]∧w6.heap[b1]? =some (.cells #[vu a.Kind,vi a.Id] 40 (0,0))∧w6.heap[b2]? =some (.cells #[vi x2.Day,vs x2.Unit,vi x2.N,vu x2.From_Kind,vi x2.From_Id,vu x2.To_Kind,vi x2.To_Id,vu x2.Why,vi x2.Lot] 42 (0,0))∧b1≠b2∧aO.j2 Q a from_ until_ b1 v1_a v1_n v1_c v3 (aO.l1 Q a name from_ until_ b1 x1_a x1_n nl1) x2 v5 w6) ?_ ?_
 refine aC<|zp 1<|zm j8 q2<|zm j8 q1<|wG rfl rfl (v:=vb ((x2.From_Kind==a.Kind)&&((x2.From_Id==a.Id)&&true))) (rE (by kernel_rfl) (fun w=>tL (d:=9998)) rfl rfl rfl)<|aD<|zc h (fun h=>?_) fun h=>?_
 exact aW<|zp 2<|zb tk3 q2<|zp 2<|aD<|⟨_,IntKind.wrap .i64 (v2-x2.N),ag,q1,q2,n1_2,h⟩
 exact aJ<|⟨_,v2,ag,q1,q2,n1_2,h⟩
 clear h q1 q2 n1_2
 rintro _ w6 ⟨e0,v5,rfl,q1,q2,n1_2,h⟩
 unfold aO.j2 at h
 refine fD (fun e w7=>∃(e0:Env) (v6:Int),e=upds e0 [(2,vs name),(3,vi from_),(4,vi until_),(6,vp ⟨b1,0,none⟩),(11,vl v1_a v1_n v1_c),(12,vi v6),(13,vi v3),(14,vp ⟨b2,0,none⟩),(21,vl x1_a x1_n x1_c),(22,vi (x1_n:Nat)),(23,vi v3)]∧w7.heap[b1]? =some (.cells #[vu a.Kind,vi a.Id] 40 (0,0))∧w7.heap[b2]? =some (.cells #[vi x2.Day,vs x2.Unit,vi x2.N,vu x2.From_Kind,vi x2.From_Id,vu x2.To_Kind,vi x2.To_Id,vu x2.Why,vi x2.Lot] 42 (0,0))∧b1≠b2∧aO.j3 Q from_ until_ b1 v1_a v1_n v1_c v3 (aO.l1 Q a name from_ until_ b1 x1_a x1_n nl1) x2 v6 w7) ?_ ?_
 refine aC<|zp 1<|zm j8 q2<|zm j8 q1<|wG rfl rfl (v:=vb ((x2.To_Kind==a.Kind)&&((x2.To_Id==a.Id)&&true))) (rE (by kernel_rfl) (fun w=>tL (d:=9998)) rfl rfl rfl)<|aD<|zc h (fun h=>?_) fun h=>?_
 exact aW<|zp 2<|zb tk3 q2<|zp 2<|aD<|⟨_,IntKind.wrap .i64 (v5+x2.N),ag,q1,q2,n1_2,h⟩
 exact aJ<|⟨_,v5,ag,q1,q2,n1_2,h⟩
 clear h q1 q2 n1_2
 rintro _ w7 ⟨e0,v6,rfl,q1,q2,n1_2,h⟩
 unfold aO.j3 at h
 refine aC<|zp 1<|zb tk3 q2<|zp 3<|jV (fun e w_=>∃(e0:Env),e=upds e0 [(2,vs name),(3,vi from_),(4,vi until_),(6,vp ⟨b1,0,none⟩),(11,vl v1_a v1_n v1_c),(12,vi v6),(13,vi v3),(21,vl x1_a x1_n x1_c),(22,vi (x1_n:Nat)),(23,vi v3),(69,vb ((decide (x2.Day≥from_))&&(decide (x2.Day≤until_))))]∧w7=w_) ?_ ?_
 clear h
 refine dO 64 (b:=decide (x2.Day≥from_)) rfl (fun hb0=>?_) (fun hb0=>?_)
 refine zp 1<|zb tk3 q2<|zp 3 ?_
 rw[hb0]
 exact aD ⟨_,ag,rfl⟩
 refine zp 5 ?_
 rw[hb0]
 exact aD ⟨_,ag,rfl⟩
 rintro _ _ ⟨e0,rfl,rfl⟩
 refine zc h (fun h=>?_) fun h=>?_
 refine aW<|zp 4<|zv 1 h fun b3 w8 eb ew q3 h=>?_
 replace q1:=fQ ew q1
 clear eb ew q3
 refine za h ?_
 rintro a1_a a1_n a1_c w9 ⟨hk0,h⟩
 replace q1:=bG hk0 q1
 exact zp 1<|aD<|aG<|aW<|zp 2<|aD<|⟨_,a1_a,a1_n,a1_c,v6,IntKind.wrap .i64 (v3+1),ag,q1,h⟩
 exact aJ<|aG<|aW<|zp 2<|aD<|⟨_,v1_a,v1_n,v1_c,v6,IntKind.wrap .i64 (v3+1),ag,q1,h⟩
 exact dE<|aU<|aC<|zp 2<|aD<|aN<|z1 ⟨_,_,_,rfl,h⟩
end Go.Proofs.YtcbijkakoepglaaGreat
namespace Go.Proofs.YtcbijkakoepglaaGreat
open Go Go.Wx
def MState.lotsOf(M:MState)(thing:Int):List TLot:=M.lots.filter fun x=>x.Thing==thing
def MState.trial(M:MState)(day:Int):List TTrialLine:=tS (oD day [] M.postings)
def MState.balance(M:MState)(a:TAccount)(name:ByteArray)(day:Int):Int:=jX (oD day [] M.postings) ⟨a.Kind,a.Id,name⟩
def aBh(a:TAccount)(x:TTrialLine):Bool:=(x.Account_Kind==a.Kind)&&((x.Account_Id==a.Id)&&true)
def MState.balances(M:MState)(a:TAccount)(day:Int):List TAmount:=((M.trial day).filter (aBh a)).map fun x=>⟨x.Unit,x.N⟩
def rU(M:MState)(day:Int):Int→List TAmount→Int
 | v,[]=>v
 | v,x::xs=>rU M day (wr (v+wr (x.N*M.value x.Unit day))) xs
def MState.worth(M:MState)(a:TAccount)(day:Int):Int:=rU M day 0 (M.balances a day)
def j0(a:TAccount)(x:TPosting):Bool:=(x.From_Kind==a.Kind)&&((x.From_Id==a.Id)&&true)
def pL(a:TAccount)(x:TPosting):Bool:=(x.To_Kind==a.Kind)&&((x.To_Id==a.Id)&&true)
def sD(a:TAccount)(name:ByteArray)(from_ until_:Int):Int→Int→List TPosting→List TStatementLine
 | _,_,[]=>[]
 | v,i,x::xs=>
  if !dF x.Unit name||(!j0 a x&& !pL a x)then sD a name from_ until_ v (i+1) xs else
   let v1:=if j0 a x then wr (v-x.N)else v
   let v2:=if pL a x then wr (v1+x.N)else v1
   (if(decide (x.Day≥from_))&&(decide (x.Day≤until_))then [⟨i,v2⟩]else [])++sD a name from_ until_ v2 (i+1) xs
def MState.statement(M:MState)(a:TAccount)(name:ByteArray)(from_ until_:Int):List TStatementLine:=sD a name from_ until_ 0 0 M.postings
theorem aAa(x:TStatementLine):x.enc.length=2:=rfl
theorem aEQ(m:List (Tplace × Int)):(tS m).length≤m.length:=by
 unfold tS;rw[(dI _).length_eq,List.length_map];exact List.length_filter_le _ _
theorem wI(M:MState)(day:Int):(M.trial day).length≤2*M.postings.length:=by
 have h1:=aEQ (oD day [] M.postings);have h2:=zG day M.postings [];simp only[List.length_nil]at h2;unfold MState.trial;omega
section
variable {w : World} {p : Addr} {st : Tstate} {M : MState}
theorem aCW(h:StRd w p st M)(hS:M.postings.length≤40000){day:Int}{Q:Option Addr→Nat→Nat→World→Prop}
 (hQ:∀a n c w',Own 49 4 TTrialLine.enc w' a n c (M.trial day)→(∀k,obk a c=some k→w.heap.size≤k)→Ext w w'→Q a n c w'):Cl Pg 25 #[vP (some p),vi day] w (fun v w'=>∃a n c,v=vl a n c∧Q a n c w'):=by
 refine nV.ok (jJ ⟨_,rfl,_,_,_,h.cells.at 4 rfl,?_⟩);refine aB7 h.postings (by rw[h.postings.1];omega) fun b w1 hb hm E=>?_;have hl:=zG day M.postings [];simp only[List.length_nil]at hl;refine aEh hm (by omega) fun a n c w2 ho hk E2=>hQ a n c w2 ho (fun k h=>Nat.le_trans E.size (hk k h)) (E.trans E2)
theorem postings_c(h:StRd w p st M)(hF:Fits M){Q:Option Addr→Nat→Nat→World→Prop}
 (hQ:∀a n c w',Own 42 9 TPosting.enc w' a n c M.postings→(∀k,obk a c=some k→w.heap.size≤k)→Ext w w'→Q a n c w'):Cl Pg 26 #[vP (some p)] w (fun v w'=>∃a n c,v=vl a n c∧Q a n c w'):=by
 refine mI.ok (jJ ⟨_,rfl,_,_,_,h.cells.at 4 rfl,?_⟩);exact yL h.postings (by rw[h.postings.1];exact hF.postings) fun a c w1 ho hk E=>hQ _ _ _ _ ho hk E
theorem aBM(h:StRd w p st M)(hF:Fits M){name:ByteArray}{day:Int}{Q:Int→World→Prop}(hQ:∀w',Ext w w'→Q (M.value name day) w'):
 Cl Pg 27 #[vP (some p),vs name,vi day] w (fun v w'=>∃r,v=vi r∧Q r w'):=by
 refine nU.ok (jJ ⟨_,rfl,aCV h hF hQ⟩)
theorem aEg(h:StRd w p st M)(hF:Fits M){name:ByteArray}{n day:Int}{Q:Int→World→Prop}(hQ:∀w',Ext w w'→Q (M.term name n day) w'):
 Cl Pg 55 #[vP (some p),vs name,vi n,vi day] w (fun v w'=>∃r,v=vi r∧Q r w'):=by
 refine oJ.ok (jJ ⟨_,rfl,aFg h hF hQ⟩)
theorem ldue_c(h:StRd w p st M)(hS:Small M)(hI:IdOk M){day:Int}{Q:Option Addr→Nat→Nat→World→Prop}
 (hQ:∀a n c w',Own 45 10 TLot.enc w' a n c (M.due day)→(∀k,obk a c=some k→w.heap.size≤k)→Ext w w'→Q a n c w'):Cl Pg 52 #[vP (some p),vi day] w (fun v w'=>∃a n c,v=vl a n c∧Q a n c w'):=by
 refine o6.ok (jJ ⟨_,rfl,aEp h hS.fits hI (Nat.le_trans (List.length_filter_le _ _) hS.lots) hQ⟩)
theorem aF7(h:StRd w p st M)(hF:Fits M){a:TAccount}{name:ByteArray}{day:Int}{Q:Int→World→Prop}(hQ:∀w',Ext w w'→Q (M.balance a name day) w'):
 Cl Pg 48 #[vP (some p),vg [vu a.Kind,vi a.Id],vs name,vi day] w (fun v w'=>∃r,v=vi r∧Q r w'):=by
 refine mW.ok (bW (er w) fun b1 w1 hb1 hat E _ _=>jJ (iS E fun w2 E2 e2=>⟨_,rfl,_,_,_,(h.ext E2).cells.at 4 rfl,?_⟩));refine aB7 (h.ext E2).postings (by rw[h.postings.1];exact hF.postings) fun b w3 hb hm E3=>⟨E3.blk _ (hat.ext e2).lt id,_,pO pW hm ⟨a.Kind,a.Id,name⟩,hQ _ (E2.ext E3)⟩
theorem lots_c(h:StRd w p st M)(hF:Fits M){thing:Int}{Q:Option Addr→Nat→Nat→World→Prop}
 (hQ:∀a n c w',Own 45 10 TLot.enc w' a n c (M.lotsOf thing)→(∀k,obk a c=some k→w.heap.size≤k)→Ext w w'→Q a n c w'):Cl Pg 28 #[vP (some p),vi thing] w (fun v w'=>∃a n c,v=vl a n c∧Q a n c w'):=by
 have hl:=h.lots;have hn:st.lots_n≤1000000:=by rw[hl.1];exact hF.lots
 refine fH.ok (jJ ⟨_,rfl,_,_,_,h.cells.at 3 rfl,st.lots_n+1,?_⟩);have key:∀m i w' a n c,i+m=st.lots_n→Ext w w'→Own 45 10 TLot.enc w' a n c ((M.lots.take i).filter fun x=>x.Thing==thing)→(∀k,obk a c=some k→w.heap.size≤k)→fH.l1 Q thing st.lots_a st.lots_n (m+1) a n c (i:Nat) w':=by
  intro m;induction m with
  | zero=>
   intro i w' a n c hi E ho hk;unfold fH.l1;rw[List.take_of_length_le (by have:=hl.1;omega)]at ho;exact dK (by omega) (hQ _ _ _ _ ho hk E)
  | succ m ih=>
   intro i w' a n c hi E ho hk;unfold fH.l1;refine dQ (by omega) ((hl.ext E).ix (by omega) (by omega) fun a0 x ha hx hc=>⟨x,hc,bW E fun b1 w2 hb1 hat E2 e2 hn2=>lW E2 hat hb1 fun w3 hat E3 f3=>?_⟩);simp only[Int.toNat_natCast]at hx;have htk:(M.lots.take (i+1)).filter (fun x=>x.Thing==thing)=(M.lots.take i).filter (fun x=>x.Thing==thing)++if x.Thing==thing then [x]else []:=by
    rw[List.take_succ,hx,List.filter_append];simp[List.filter_cons]
   have hn1:n≤i:=by rw[ho.1];exact Nat.le_trans (List.length_filter_le _ _) (by rw[List.length_take];omega)
   have ho3:Own 45 10 TLot.enc w3 a n c _:=(ho.ext e2).frm f3 fun k hk' e=>(by
    obtain⟨cur,hc⟩:=ho.at k hk';have:=hc.lt;subst e;omega)
   rw[fO (n:=st.lots_n) (by omega) (by omega) (by simp only[maxLen];omega)];refine ifb ?_;split
   ·rename_i hdue;rw[if_pos hdue]at htk;refine bW E3 fun b2 w4 hb2 hat2 E4 e4 _=>?_;refine jT aBa iQ (fun x=>iN rfl) (ho3.ext e4) (Rd.one (enc:=TLot.enc) (sz:=10) x hat2) (by omega) (by simp only[maxLen];omega) fun a2 c2 w5 ho5 F5 hb5=>?_;rw[←htk]at ho5;exact ih (i+1) w5 a2 (n+1) c2 (by omega) (Frm.trans E4 F5 fun k hk' e=>by have:=hk k e;omega) ho5 fun k hk'=>(hb5 k hk').elim (hk k) fun h=>Nat.le_trans E4.size h
   ·rename_i hdue;rw[if_neg hdue,List.append_nil]at htk;rw[←htk]at ho3;exact ih (i+1) w3 a n c (by omega) E3 ho3 hk
 exact key _ 0 w none 0 0 (by omega) (er w) (by simpa using Own.nil) (fun k hk=>by cases hk)
theorem aAM(h:StRd w p st M)(hS:M.postings.length≤40000){a:TAccount}{day:Int}{Q:Option Addr→Nat→Nat→World→Prop}
 (hQ:∀a2 n c w',Own 58 2 TAmount.enc w' a2 n c (M.balances a day)→(∀k,obk a2 c=some k→w.heap.size≤k)→Ext w w'→Q a2 n c w'):Cl Pg 32 #[vP (some p),vg [vu a.Kind,vi a.Id],vi day] w (fun v w'=>∃a n c,v=vl a n c∧Q a n c w'):=by
 refine dR.ok (bW (er w) fun b1 w1 hb1 hat E _ _=>aCW (h.ext E) hS fun ta tn tc w2 ht hkt E2=>⟨E2.blk _ hat.lt id,tn+1,?_⟩);have hat2:=hat.ext E2;have hr:=ht.rd qH;have htl:=wI M day;have hn:tn≤80000:=by have:=hr.1;omega
 have key:∀m i w' a2 n c,i+m=tn→Ext w2 w'→At w' b1 (.cells #[vu a.Kind,vi a.Id] 40 (0,0))→Own 58 2 TAmount.enc w' a2 n c ((((M.trial day).take i).filter (aBh a)).map fun x=>⟨x.Unit,x.N⟩)→(∀k,obk a2 c=some k→w2.heap.size≤k)→dR.l1 Q a b1 ta tn (m+1) a2 n c (i:Nat) w':=by
  intro m;induction m with
  | zero=>
   intro i w' a2 n c hi E' hat' ho hk;unfold dR.l1;rw[List.take_of_length_le (by have:=hr.1;omega)]at ho;exact dK (by omega) (hQ _ _ _ _ ho (fun k h=>Nat.le_trans (E.ext E2).size (hk k h)) ((E.ext E2).ext E'))
  | succ m ih=>
   intro i w' a2 n c hi E' hat' ho hk;unfold dR.l1;refine dQ (by omega) ((hr.ext E').ix (by omega) (by omega) fun a0 x ha hx hc=>⟨x,hc,bW E' fun b2 w4 hb2 hat4 E4 e4 hn4=>lW E4 hat4 hb2 fun w5 hat5 E5 f5=>?_⟩);simp only[Int.toNat_natCast]at hx;have htk:(((M.trial day).take (i+1)).filter (aBh a)).map (fun x=>(⟨x.Unit,x.N⟩:TAmount))=(((M.trial day).take i).filter (aBh a)).map (fun x=>(⟨x.Unit,x.N⟩:TAmount))++if aBh a x then [⟨x.Unit,x.N⟩]else []:=by
    rw[List.take_succ,hx,List.filter_append,List.map_append];congr 1;cases hz:aBh a x<;>simp[List.filter_cons,hz]
   have hn1:n≤i:=by rw[ho.1,List.length_map];exact Nat.le_trans (List.length_filter_le _ _) (by rw[List.length_take];omega)
   have hb12:b1≠b2:=fun e=>by subst e;have:=hat'.lt;omega
   have hat5':At w5 b1 (.cells #[vu a.Kind,vi a.Id] 40 (0,0)):=(hat'.ext e4).frm f5 hb12;have ho5:=(ho.ext e4).frm f5 fun k hk' e=>(by
    obtain⟨cur,hc⟩:=ho.at k hk';have:=hc.lt;subst e;omega)
   rw[fO (n:=tn) (by omega) (by omega) (by simp only[maxLen];omega)];show Ifb (aBh a x) _ _;refine ifb ?_;split
   ·rename_i hdue;rw[if_pos hdue]at htk;refine bW E5 fun b3 w6 hb3 hat3 E6 e6 _=>?_;refine jT aF9 lS (fun x=>iN rfl) (ho5.ext e6) (Rd.one (enc:=TAmount.enc) (sz:=2) ⟨x.Unit,x.N⟩ hat3) (by omega) (by simp only[maxLen];omega) fun a3 c3 w7 ho7 F7 hb7=>?_;rw[←htk]at ho7;have hnb:¬obk a2 c=some b1:=(ho5.ext e6).notP (hat5'.ext e6) (by decide)
    refine⟨F7.blk _ (hat5'.ext e6).lt hnb,ih (i+1) w7 a3 (n+1) c3 (by omega) (Frm.trans E6 F7 fun k hk' e=>by have:=hk k e;omega) ((hat5'.ext e6).frm F7 hnb) ho7 fun k hk'=>(hb7 k hk').elim (hk k) fun h=>Nat.le_trans E6.size h⟩
   ·rename_i hdue;rw[if_neg hdue,List.append_nil]at htk;rw[←htk]at ho5;exact ih (i+1) w5 a2 n c (by omega) E5 hat5' ho5 hk
 exact key _ 0 w2 none 0 0 (by omega) (er w2) hat2 (by simpa using Own.nil) (fun k hk=>by cases hk)
theorem vB(M:MState)(a:TAccount)(day:Int):(M.balances a day).length≤2*M.postings.length:=by
 have:=wI M day;unfold MState.balances;rw[List.length_map];exact Nat.le_trans (List.length_filter_le _ _) this
theorem aE4(h:StRd w p st M)(hF:Fits M)(hS:M.postings.length≤40000){a:TAccount}{day:Int}{Q:Int→World→Prop}(hQ:∀w',Ext w w'→Q (M.worth a day) w'):
 Cl Pg 29 #[vP (some p),vg [vu a.Kind,vi a.Id],vi day] w (fun v w'=>∃r,v=vi r∧Q r w'):=by
 refine fN.ok (bW (er w) fun b1 w1 hb1 hat E _ _=>aAM (h.ext E) hS fun ta tn tc w2 ht hkt E2=>⟨tn+1,?_⟩);have hr:=ht.rd lS;have hbl:=vB M a day;have hn:tn≤80000:=by have:=hr.1;omega
 have key:∀m i w' v,i+m=tn→Ext w2 w'→(∀w',Ext w w'→Q (rU M day v ((M.balances a day).drop i)) w')→fN.l1 Q (some p) day ta tn (m+1) v (i:Nat) w':=by
  intro m;induction m with
  | zero=>
   intro i w' v hi E' hQ;unfold fN.l1;rw[List.drop_of_length_le (by have:=hr.1;omega)]at hQ;exact dK (by omega) (hQ _ ((E.ext E2).ext E'))
  | succ m ih=>
   intro i w' v hi E' hQ;unfold fN.l1;refine dQ (by omega) ((hr.ext E').ix (by omega) (by omega) fun a0 x ha hx hc=>⟨x,hc,bW E' fun b2 w4 hb2 hat4 E4 e4 hn4=>lW E4 hat4 hb2 fun w5 hat5 E5 f5=>iS E5 fun w6 E6 e6=>?_⟩);simp only[Int.toNat_natCast]at hx;obtain⟨hl,hx'⟩:=List.getElem?_eq_some_iff.1 hx;rw[List.drop_eq_getElem_cons hl,hx']at hQ;simp only[rU]at hQ;rw[fO (n:=tn) (by omega) (by omega) (by simp only[maxLen];omega)]
   refine aBM (h.ext ((E.ext E2).ext E6)) hF fun w7 E7=>⟨E7.blk _ (hat5.ext e6).lt id,ih (i+1) w7 _ (by omega) (E6.ext E7) hQ⟩
 exact key tn 0 w2 0 (by omega) (er w2) (by simpa[MState.worth]using hQ)
theorem aDB(h:StRd w p st M)(hF:Fits M){a:TAccount}{name:ByteArray}{from_ until_:Int}{Q:Option Addr→Nat→Nat→World→Prop}
 (hQ:∀a2 n c w',Own 97 2 TStatementLine.enc w' a2 n c (M.statement a name from_ until_)→(∀k,obk a2 c=some k→w.heap.size≤k)→Ext w w'→Q a2 n c w'):
 Cl Pg 53 #[vP (some p),vg [vu a.Kind,vi a.Id],vs name,vi from_,vi until_] w (fun v w'=>∃a n c,v=vl a n c∧Q a n c w'):=by
 have hp:=h.postings;have hn:st.postings_n≤1000000:=by rw[hp.1];exact hF.postings
 refine aO.ok (bW (er w) fun b1 w1 hb1 hat E _ _=>jJ ⟨_,rfl,_,_,_,(h.ext E).cells.at 4 rfl,st.postings_n+1,?_⟩);have key:∀m i w' a2 n c v out,i+m=st.postings_n→n≤i→Ext w w'→At w' b1 (.cells #[vu a.Kind,vi a.Id] 40 (0,0))→Own 97 2 TStatementLine.enc w' a2 n c out→(∀k,obk a2 c=some k→w.heap.size≤k)→
  (∀a2 n c w',Own 97 2 TStatementLine.enc w' a2 n c (out++sD a name from_ until_ v i (M.postings.drop i))→(∀k,obk a2 c=some k→w.heap.size≤k)→Ext w w'→Q a2 n c w')→
  aO.l1 Q a name from_ until_ b1 st.postings_a st.postings_n (m+1) a2 n c v (i:Nat) w':=by
  intro m;induction m with
  | zero=>
   intro i w' a2 n c v out hi hni E' hat' ho hk hQ;unfold aO.l1;rw[List.drop_of_length_le (by have:=hp.1;omega)]at hQ;simp only[sD,List.append_nil]at hQ;exact dK (by omega) (hQ _ _ _ _ ho hk E')
  | succ m ih=>
   intro i w' a2 n c v out hi hni E' hat' ho hk hQ;unfold aO.l1;refine dQ (by omega) ((hp.ext E').ix (by omega) (by omega) fun a0 x ha hx hc=>⟨x,hc,bW E' fun b2 w4 hb2 hat4 E4 e4 hn4=>lW E4 hat4 hb2 fun w5 hat5 E5 f5=>?_⟩);simp only[Int.toNat_natCast]at hx;obtain⟨hl,hx'⟩:=List.getElem?_eq_some_iff.1 hx;rw[List.drop_eq_getElem_cons hl,hx']at hQ;simp only[sD]at hQ;have hb12:b1≠b2:=fun e=>by subst e;have:=hat'.lt;omega
   have hat5':At w5 b1 (.cells #[vu a.Kind,vi a.Id] 40 (0,0)):=(hat'.ext e4).frm f5 hb12;have ho5:=(ho.ext e4).frm f5 fun k hk' e=>(by
    obtain⟨cur,hc⟩:=ho.at k hk';have:=hc.lt;subst e;omega)
   have hw:IntKind.wrap .i64 ((i:Int)+1)=((i+1:Nat):Int):=by rw[bQ (by omega) (by omega)];omega
   have hi1:(i:Int)+1=((i+1:Nat):Int):=by omega
   have skip:(!dF x.Unit name||(!j0 a x&& !pL a x))=true→aO.j1 Q a from_ until_ b1 a2 n c v i (aO.l1 Q a name from_ until_ b1 st.postings_a st.postings_n (m+1)) x true w5:=fun hs=>by
    rw[if_pos hs]at hQ;unfold aO.j1;rw[hw];rw[hi1]at hQ;exact jM (ih (i+1) w5 a2 n c v out (by omega) (by omega) E5 hat5' ho5 hk hQ)
   have take:(!dF x.Unit name||(!j0 a x&& !pL a x))=false→aO.j1 Q a from_ until_ b1 a2 n c v i (aO.l1 Q a name from_ until_ b1 st.postings_a st.postings_n (m+1)) x false w5:=fun hs=>by
    rw[if_neg (by rw[hs];simp)]at hQ;have j3:∀v2,(v2=if pL a x then wr ((if j0 a x then wr (v-x.N)else v)+x.N)else if j0 a x then wr (v-x.N)else v)→aO.j3 Q from_ until_ b1 a2 n c i (aO.l1 Q a name from_ until_ b1 st.postings_a st.postings_n (m+1)) x v2 w5:=by
     intro v2 hv2;rw[←hv2]at hQ;unfold aO.j3;rw[hw];rw[hi1]at hQ;refine ifb ?_;split
     ·rename_i hd;rw[if_pos hd]at hQ;refine bW E5 fun b3 w6 hb3 hat3 E6 e6 _=>?_;refine jT ap94 aAa (fun x=>iN rfl) (ho5.ext e6) (Rd.one (enc:=TStatementLine.enc) (sz:=2) ⟨i,v2⟩ hat3) (by omega) (by simp only[maxLen];omega) fun a3 c3 w7 ho7 F7 hb7=>?_;have hnb:¬obk a2 c=some b1:=(ho5.ext e6).notP (hat5'.ext e6) (by decide)
      refine⟨F7.blk _ (hat5'.ext e6).lt hnb,ih (i+1) w7 a3 (n+1) c3 v2 (out++[⟨i,v2⟩]) (by omega) (by omega) (Frm.trans E6 F7 fun k hk' e=>by have:=hk k e;omega) ((hat5'.ext e6).frm F7 hnb) ho7 (fun k hk'=>(hb7 k hk').elim (hk k) fun h=>Nat.le_trans E6.size h) ?_⟩;simpa using hQ
     ·rename_i hd;rw[if_neg hd]at hQ;exact ih (i+1) w5 a2 n c v2 out (by omega) (by omega) E5 hat5' ho5 hk (by simpa using hQ)
    unfold aO.j1;refine jJ ?_;have j2:∀v1,(v1=if j0 a x then wr (v-x.N)else v)→aO.j2 Q a from_ until_ b1 a2 n c i (aO.l1 Q a name from_ until_ b1 st.postings_a st.postings_n (m+1)) x v1 w5:=by
     intro v1 hv1;unfold aO.j2;show Ifb (pL a x) _ _;refine ifb ?_;split
     ·rename_i ht;exact j3 _ (by rw[if_pos ht,hv1])
     ·rename_i ht;exact j3 _ (by rw[if_neg ht,hv1])
    show Ifb (j0 a x) _ _;refine ifb ?_;split
    ·rename_i ht;exact j2 _ (by rw[if_pos ht])
    ·rename_i ht;exact j2 _ (by rw[if_neg ht])
   refine ifb ?_;split
   ·rename_i hu;exact skip (by rw[hu];rfl)
   ·rename_i hu;have hu:(!dF x.Unit name)=false:=by simpa using hu
    show Ifb (!j0 a x) (aO.j1 _ _ _ _ _ _ _ _ _ _ _ _ (!pL a x) _) _;refine ifb ?_;split
    ·rename_i hf;cases ht:pL a x with
     | true=>exact take (by rw[hu,hf,ht];rfl)
     | false=>exact skip (by rw[hu,hf,ht];rfl)
    ·rename_i hf;have hf:(!j0 a x)=false:=by simpa using hf
     exact take (by rw[hu,hf];rfl)
 exact key _ 0 w1 none 0 0 0 [] (by omega) (by omega) E hat (by simpa using Own.nil) (fun k hk=>by cases hk) (by simpa[MState.statement]using hQ)
end
end Go.Proofs.YtcbijkakoepglaaGreat
namespace Go.Proofs.YtcbijkakoepglaaGreat
open Go Go.Wx
set_option maxRecDepth 100000
def aK.j2(Q:Int→World→Prop)(s:Option Addr)(v2:Int)(kl1:Int→World→Prop)(x3:TAmount)(v3:Bool)(w5:World):Prop:=(
 Ifb v3
 (Q 1 w5)
 (Cl Pg 80 #[vP s,vs x3.Unit] w5 (fun v w6=>∃r1,v=vi r1∧Ifb (decide (r1<0))
 (Q 60 w6)
 (kl1 (IntKind.wrap .i64 (v2+1)) w6))))
def aK.j3(Q:Int→World→Prop)(s:Option Addr)(p1_1:Addr)(p2_2:Addr)(p4_4:Addr)(p5_5:Addr)(v4:Int)(kl2:Int→World→Prop)(x10:TAmount)(v5:Int)(w13:World):Prop:=(
 Dr w13 fun w14=>
 dU w14 p5_5 fun x11_a x11_n x11_c=>
 LdI .i64 w14 p1_1 fun x12=>
 LdI .i64 w14 p2_2 fun x13=>
 LdI .i64 w14 p4_4 fun x14=>
 Cl Pg 83 #[vP s,vg [vi 0,vi x12,vi x13,vi x14,vi v5,vs x10.Unit,vi x10.N,vi x10.N,vu 0,vi 0],vg [vu 1,vi 0],vu 1] w14 (fun v w15=>∃r3,v=vi r3∧w15.cell? p5_5=some (vl x11_a x11_n x11_c)∧Al w15 (.cells #[vi r3] 3) fun b3 w16=>
 Ap Pg w16 #[63,63] 63 (vl x11_a x11_n x11_c) (vl (some ⟨b3,0,none⟩) 1 1) fun a1_a a1_n a1_c w17=>
 St w17 p5_5 ([vl a1_a a1_n a1_c]) fun w18=>
 kl2 (IntKind.wrap .i64 (v4+1)) w18))
def aK.l2(Q:Int→World→Prop)(s:Option Addr)(p1_1:Addr)(p2_2:Addr)(p4_4:Addr)(p5_5:Addr)(x9_a:Option Addr)(x9_n:Nat):Nat→Int→World→Prop
 | 0,_,_=>False
 | nl2+1,v4,w10=>(
 Ifb (decide (v4<((x9_n:Nat):Int)))
 (Ix x9_a x9_n v4 fun p5=>
 LdT TAmount.enc w10 (Addr.add p5 (v4.toNat*2)) fun x10=>
 Al w10 (.cells #[vs (ByteArray.mk #[]),vi 0] 58) fun b2 w11=>
 Sb w11 b2 (.cells #[vs x10.Unit,vi x10.N] 58 (0,0)) fun w12=>
 LdI .i64 w12 p4_4 fun x15=>
 Cl Pg 97 #[vP s,vs x10.Unit,vi x10.N,vi x15] w12 (fun v w19=>∃r4,v=vi r4∧Kp b2 w12 w19∧Ifb (decide (r4>0))
 (LdI .i64 w19 p4_4 fun x16=>
 aK.j3 Q s p1_1 p2_2 p4_4 p5_5 v4 (aK.l2 Q s p1_1 p2_2 p4_4 p5_5 x9_a x9_n nl2) x10 (if(IntKind.wrap .i64 (x16+r4))<100001 then(IntKind.wrap .i64 (x16+r4))else(100001:Int)) w19)
 (aK.j3 Q s p1_1 p2_2 p4_4 p5_5 v4 (aK.l2 Q s p1_1 p2_2 p4_4 p5_5 x9_a x9_n nl2) x10 100001 w19)))
 (Q 0 w10))
def aK.l1(Q:Int→World→Prop)(s:Option Addr)(p1_1:Addr)(p2_2:Addr)(p3_3:Addr)(p4_4:Addr)(p5_5:Addr)(x2_a:Option Addr)(x2_n:Nat):Nat→Int→World→Prop
 | 0,_,_=>False
 | nl1+1,v2,w2=>(
 Ifb (decide (v2<((x2_n:Nat):Int)))
 (Ix x2_a x2_n v2 fun p1=>
 LdT TAmount.enc w2 (Addr.add p1 (v2.toNat*2)) fun x3=>
 Al w2 (.cells #[vs (ByteArray.mk #[]),vi 0] 58) fun b1 w3=>
 Sb w3 b1 (.cells #[vs x3.Unit,vi x3.N] 58 (0,0)) fun w4=>
 Dr w4 fun w7=>
 Ifb (decide (x3.N<1))
 (aK.j2 Q s v2 (aK.l1 Q s p1_1 p2_2 p3_3 p4_4 p5_5 x2_a x2_n nl1) x3 true w7)
 (Ifb (decide (x3.N>1000000000))
 (aK.j2 Q s v2 (aK.l1 Q s p1_1 p2_2 p3_3 p4_4 p5_5 x2_a x2_n nl1) x3 true w7)
 (Ifb (decide (v2>0))
 (dU w7 p3_3 fun x4_a x4_n x4_c=>
 Ix x4_a x4_n (IntKind.wrap .i64 (v2-1)) fun p2=>
 LdS w7 (Addr.add p2 ((IntKind.wrap .i64 (v2-1)).toNat*2)) fun x5=>
 aK.j2 Q s v2 (aK.l1 Q s p1_1 p2_2 p3_3 p4_4 p5_5 x2_a x2_n nl1) x3 (!iO x5 x3.Unit) w7)
 (aK.j2 Q s v2 (aK.l1 Q s p1_1 p2_2 p3_3 p4_4 p5_5 x2_a x2_n nl1) x3 false w7))))
 (NN s fun p3=>
 dU w2 (Addr.add p3 3) fun x6_a x6_n x6_c=>
 Cl Pg 95 #[vl x6_a x6_n x6_c,.func (.func 96) #[] #[vp p1_1,vp p2_2]] w2 (fun v w8=>∃r2,v=vb r2∧Ifb r2
 (Q 6 w8)
 (Dr w8 fun w9=>
 NN s fun p4=>
 dU w9 (Addr.add p4 3) fun x7_a x7_n x7_c=>
 dU w9 p3_3 fun x8_a x8_n x8_c=>
 Ifb (decide ((IntKind.wrap .i64 (((x7_n:Nat):Int)+((x8_n:Nat):Int)))>2000))
 (Q 2 w9)
 (dU w9 p3_3 fun x9_a x9_n x9_c=>
 ∃k,aK.l2 Q s p1_1 p2_2 p4_4 p5_5 x9_a x9_n k 0 w9)))))
def aK.j1(Q:Int→World→Prop)(s:Option Addr)(p1_1:Addr)(p2_2:Addr)(p3_3:Addr)(p4_4:Addr)(p5_5:Addr)(v1:Bool)(w1:World):Prop:=(
 Ifb v1
 (Q 1 w1)
 (dU w1 p3_3 fun x1_a x1_n x1_c=>
 Ifb (decide (((x1_n:Nat):Int)>6))
 (Q 2 w1)
 (dU w1 p3_3 fun x2_a x2_n x2_c=>
 ∃k,aK.l1 Q s p1_1 p2_2 p3_3 p4_4 p5_5 x2_a x2_n k 0 w1)))
def aK.R(Q:Int→World→Prop)(s:Option Addr)(p1_1:Addr)(p2_2:Addr)(p3_3:Addr)(p4_4:Addr)(p5_5:Addr)(w:World):Prop:=(
 LdI .i64 w p1_1 fun x17=>
 Al w (.cells #[vi x17] 3) fun b4 w20=>
 Cl Pg 87 #[vl (some ⟨b4,0,none⟩) 1 1] w20 (fun v w21=>∃r5,v=vb r5∧Ifb (!r5)
 (aK.j1 Q s p1_1 p2_2 p3_3 p4_4 p5_5 true w21)
 (LdI .i64 w21 p2_2 fun x18=>
 Ifb (decide (x18<1))
 (aK.j1 Q s p1_1 p2_2 p3_3 p4_4 p5_5 true w21)
 (LdI .i64 w21 p2_2 fun x19=>
 aK.j1 Q s p1_1 p2_2 p3_3 p4_4 p5_5 (decide (x19>3)) w21))))
theorem aK.ok{Q:Int→World→Prop}{s:Option Addr}{p1_1:Addr}{p2_2:Addr}{p3_3:Addr}{p4_4:Addr}{p5_5:Addr}{w:World}(h:aK.R Q s p1_1 p2_2 p3_3 p4_4 p5_5 w):Cl Pg 94 #[vP s,vp p1_1,vp p2_2,vp p3_3,vp p4_4,vp p5_5] w (fun v w'=>∃r0,v=vi r0∧Q r0 w'):=by
 refine aI (args:=[vP s,vp p1_1,vp p2_2,vp p3_3,vp p4_4,vp p5_5]) Tryz.func94 ?_
 unfold aK.R at h
 refine aC<|zp 1<|aD<|aL<|fD (fun e w1=>∃(e0:Env) (v1:Bool),e=upds e0 [(0,vP s),(1,vp p1_1),(2,vp p2_2),(3,vp p3_3),(4,vp p4_4),(5,vp p5_5),(25,vb v1)]∧aK.j1 Q s p1_1 p2_2 p3_3 p4_4 p5_5 v1 w1) ?_ ?_
 refine aW<|zd tk3 h fun x17 hx17 h=>zv 1 h fun b4 w20 _ _ _ h=>zk h ?_
 rintro _ w21 ⟨r5,rfl,h⟩
 refine zp 2<|zs 18 h (fun h=>?_) fun h=>?_
 exact zp 7<|aD<|⟨_,true,ag,h⟩
 refine zd tk3 h fun x18 hx18 h=>zp 3<|zs 22 h (fun h=>?_) fun h=>?_
 exact zp 3<|aD<|⟨_,true,ag,h⟩
 exact zd tk3 h fun x19 hx19 h=>zp 2<|aD<|⟨_,decide (x19>3),ag,h⟩
 clear h
 rintro _ w1 ⟨e0,v1,rfl,h⟩
 unfold aK.j1 at h
 refine zc h (fun h=>?_) fun h=>?_
 exact aC<|zp 1<|aD<|aN<|aH<|z1 ⟨_,rfl,h⟩
 refine aJ<|aL<|aC<|zr uK h fun x1_a x1_n x1_c hx1 h=>zp 2<|aD<|zc h (fun h=>?_) fun h=>?_
 exact aC<|zp 1<|aD<|aN<|aH<|z1 ⟨_,rfl,h⟩
 refine aJ<|aL<|aC<|zr uK h fun x2_a x2_n x2_c hx2 h=>zp 2<|aD<|aR ?_
 obtain⟨nl1,h⟩:=h
 refine bS (fun k e w2=>∃(e0:Env) (v2:Int),e=upds e0 [(0,vP s),(1,vp p1_1),(2,vp p2_2),(3,vp p3_3),(4,vp p4_4),(5,vp p5_5),(29,vl x2_a x2_n x2_c),(30,vi (x2_n:Nat)),(31,vi v2)]∧aK.l1 Q s p1_1 p2_2 p3_3 p4_4 p5_5 x2_a x2_n k v2 w2) nl1 ?_ ?_ ?_
 rintro _ _ ⟨_,_,_,h⟩
 exact h
 exact⟨_,0,ag,h⟩
 clear h nl1
 rintro nl1 _ w2 ⟨e0,v2,rfl,h⟩
 unfold aK.l1 at h
 refine aC<|zp 1<|aD<|aL<|zc h (fun h=>?_) fun h=>?_
 refine aJ<|aL<|aR<|aC<|zp 1<|zi pM h fun p1 h=>?_
 obtain⟨x3,hx3,h⟩:=h
 refine zn yP hx3<|zq h fun b1 w3 _ _ q1 h=>zp 1<|zt yP q1 h fun w4 ew q h=>?_
 replace q1:=q
 refine aD<|aL<|fD (fun e w5=>∃(e0:Env) (v3:Bool),e=upds e0 [(0,vP s),(1,vp p1_1),(2,vp p2_2),(3,vp p3_3),(4,vp p4_4),(5,vp p5_5),(9,vp ⟨b1,0,none⟩),(29,vl x2_a x2_n x2_c),(30,vi (x2_n:Nat)),(31,vi v2),(58,vb v3)]∧w5.heap[b1]? =some (.cells #[vs x3.Unit,vi x3.N] 58 (0,0))∧aK.j2 Q s v2 (aK.l1 Q s p1_1 p2_2 p3_3 p4_4 p5_5 x2_a x2_n nl1) x3 v3 w5) ?_ ?_
 refine drw iG [[],[],[1],[1],[1],[1],[1,5],[1,5],[1,5],[1,5],[1,5],[1,5],[1,5],[1,5],[1,5],[1,5,12],[1,5,12],[1,5,12],[1,5],[1,5],[1,5,12,17,19],[1,5,12,17,19],[1,5,12,17,19]] [.p 0,.l 1,.p 2,.p 3,.p 4,.l 5,.p 6,.p 7,.p 8,.p 9,.p 10,.p 11,.l 12,.p 13,.p 14,.p 15,.p 16,.l 17,.p 18,.l 19,.p 20,.p 21,.p 22] h fun w7 ew h=>?_
 replace q1:=dN ew q1
 refine zP 1<|zB tk3 q1<|zP 2<|zS 39 h (fun h=>?_) fun h=>?_
 exact zP 1<|ze<|zP 6<|ze<|zP 4<|ze<|zP 1<|ze<|zP 3<|bF<|⟨_,true,ag,q1,h⟩
 refine zP 1<|zB tk3 q1<|zP 3<|zS 44 h (fun h=>?_) fun h=>?_
 exact zP 3<|ze<|zP 4<|ze<|zP 1<|ze<|zP 3<|bF<|⟨_,true,ag,q1,h⟩
 refine zP 3<|zS 47 h (fun h=>?_) fun h=>?_
 exact zR uK h fun x4_a x4_n x4_c hx4 h=>zP 2<|zI pM h fun p2 h=>zP 1<|zD tk9 h fun x5 hx5 h=>zP 1<|zB tk9 q1<|zP 3<|bF<|⟨_,(!iO x5 x3.Unit),ag,q1,h⟩
 exact ze<|zP 4<|ze<|zP 1<|ze<|zP 3<|bF<|⟨_,false,ag,q1,h⟩
 clear h q1
 rintro _ w5 ⟨e0,v3,rfl,q1,h⟩
 unfold aK.j2 at h
 refine zc h (fun h=>?_) fun h=>?_
 exact aC<|zp 1<|aD<|aN<|aH<|bD<|aH<|aH<|bD<|aH<|z1 ⟨_,rfl,h⟩
 refine aJ<|aC<|zp 2<|zb tk9 q1<|zk h ?_
 rintro _ w6 ⟨r1,rfl,h⟩
 refine zp 1<|aD<|zc h (fun h=>?_) fun h=>?_
 exact aC<|zp 1<|aD<|aN<|bD<|aH<|aH<|bD<|aH<|z1 ⟨_,rfl,h⟩
 exact aJ<|aG<|aW<|zp 2<|aD<|⟨_,IntKind.wrap .i64 (v2+1),ag,h⟩
 refine dE<|aU<|aL<|aC<|zp 1<|zo h fun p3 h=>zp 1<|zr iU h fun x6_a x6_n x6_c hx6 h=>zp 1<|zk h ?_
 rintro _ w8 ⟨r2,rfl,h⟩
 refine aD<|zc h (fun h=>?_) fun h=>?_
 exact aC<|zp 1<|aD<|aN<|aH<|z1 ⟨_,rfl,h⟩
 refine aJ<|aL<|drs iG [[],[],[],[],[3],[],[5],[3,5],[3,5]] [.p 0,.p 1,.p 2,.l 3,.p 4,.l 5,.p 6,.p 7,.p 8] h fun w9 _ h=>zP 1<|zO h fun p4 h=>zP 1<|zR iU h fun x7_a x7_n x7_c hx7 h=>zP 1<|zR uK h fun x8_a x8_n x8_c hx8 h=>zP 3<|bF<|zc h (fun h=>?_) fun h=>?_
 exact aC<|zp 1<|aD<|aN<|aH<|z1 ⟨_,rfl,h⟩
 refine aJ<|aL<|aC<|zr uK h fun x9_a x9_n x9_c hx9 h=>zp 2<|aD<|aR ?_
 obtain⟨nl2,h⟩:=h
 refine bS (fun k e w10=>∃(e0:Env) (v4:Int),e=upds e0 [(0,vP s),(1,vp p1_1),(2,vp p2_2),(4,vp p4_4),(5,vp p5_5),(80,vl x9_a x9_n x9_c),(81,vi (x9_n:Nat)),(82,vi v4)]∧aK.l2 Q s p1_1 p2_2 p4_4 p5_5 x9_a x9_n k v4 w10) nl2 ?_ ?_ ?_
 rintro _ _ ⟨_,_,_,h⟩
 exact h
 exact⟨_,0,ag,h⟩
 clear h nl2
 rintro nl2 _ w10 ⟨e0,v4,rfl,h⟩
 unfold aK.l2 at h
 refine aC<|zp 1<|aD<|aL<|zc h (fun h=>?_) fun h=>?_
 refine aJ<|aL<|aR<|aC<|zi pM h fun p5 h=>?_
 obtain⟨x10,hx10,h⟩:=h
 refine zn yP hx10<|zq h fun b2 w11 _ _ q2 h=>zt yP q2 h fun w12 ew q h=>?_
 replace q2:=q
 refine aD<|aC<|zp 1<|aD<|fD (fun e w13=>∃(e0:Env) (v5:Int),e=upds e0 [(0,vP s),(1,vp p1_1),(2,vp p2_2),(4,vp p4_4),(5,vp p5_5),(11,vp ⟨b2,0,none⟩),(12,vi v5),(80,vl x9_a x9_n x9_c),(81,vi (x9_n:Nat)),(82,vi v4)]∧w13.heap[b2]? =some (.cells #[vs x10.Unit,vi x10.N] 58 (0,0))∧aK.j3 Q s p1_1 p2_2 p4_4 p5_5 v4 (aK.l2 Q s p1_1 p2_2 p4_4 p5_5 x9_a x9_n nl2) x10 v5 w13) ?_ ?_
 refine aC<|zp 2<|zb tk9 q2<|zp 1<|zb tk3 q2<|zd tk3 h fun x15 hx15 h=>zk h ?_
 rintro _ w19 ⟨r4,rfl,hk0,h⟩
 replace q2:=bG hk0 q2
 refine zp 1<|aD<|aC<|zp 2<|aD<|zc h (fun h=>?_) fun h=>?_
 exact aW<|zp 1<|zd tk3 h fun x16 hx16 h=>zp 4<|aD<|⟨_,(if(IntKind.wrap .i64 (x16+r4))<100001 then(IntKind.wrap .i64 (x16+r4))else(100001:Int)),ag,q2,h⟩
 exact aJ<|⟨_,100001,ag,q2,h⟩
 clear h q2
 rintro _ w13 ⟨e0,v5,rfl,q2,h⟩
 unfold aK.j3 at h
 refine drw iG [[],[],[],[],[],[],[],[],[],[],[],[],[2,3,4,7,9,11],[],[2,3,4,7,9,11],[2,3,4,7,9,11],[0,2,3,4,7,9,11],[0,2,3,4,7,9,11]] [.l 0,.p 1,.l 2,.l 3,.l 4,.p 5,.p 6,.l 7,.p 8,.l 9,.p 10,.l 11,.p 12,.p 13,.e 14,.e 15,.e 16,.e 17] h fun w14 ew h=>?_
 replace q2:=dN ew q2
 refine zR xV h fun x11_a x11_n x11_c hx11 h=>zP 1<|zD tk3 h fun x12 hx12 h=>zD tk3 h fun x13 hx13 h=>zD tk3 h fun x14 hx14 h=>zP 2<|zB tk9 q2<|zP 1<|zB tk3 q2<|zP 1<|zB tk3 q2<|zP 2<|zK h ?_
 rintro _ w15 ⟨r3,rfl,hk0,h⟩
 replace hx11:=hk0
 refine⟨zf xV hx11<|AllOk.nil,?_⟩
 refine zV 1 h fun b3 w16 eb ew q3 h=>?_
 replace hx11:=oE ew hx11
 clear eb ew q3
 refine⟨zf xV hx11<|AllOk.nil,?_⟩
 refine zA h ?_
 rintro a1_a a1_n a1_c w17 h
 refine⟨AllOk.nil,?_⟩
 refine zU xV h ?_
 rintro w18 h
 refine⟨AllOk.nil,?_⟩
 exact bF<|aG<|aW<|zp 2<|aD<|⟨_,IntKind.wrap .i64 (v4+1),ag,h⟩
 exact dE<|aU<|aC<|zp 1<|aD<|aN<|z1 ⟨_,rfl,h⟩
def mU.R(Q:Option Addr→Nat→Nat→Int→World→Prop)(l:Option Addr)(day:Int)(thing:Int)(layer:Int)(goods_a:Option Addr)(goods_n:Nat)(goods_c:Nat)(w:World):Prop:=(
 Al w (.cells #[vi day] 3) fun b1 w1=>
 Al w1 (.cells #[vi thing] 3) fun b2 w2=>
 Al w2 (.cells #[vi layer] 3) fun b3 w3=>
 Al w3 (.cells #[vl goods_a goods_n goods_c] 53) fun b4 w4=>
 Al w4 (.cells #[vl none 0 0] 63) fun b5 w5=>
 LdI .i64 w5 ⟨b1,0,none⟩ fun x1=>
 Cl Pg 76 #[vP l,vi x1,.func (.func 94) #[] #[vp ⟨b2,0,none⟩,vp ⟨b3,0,none⟩,vp ⟨b4,0,none⟩,vp ⟨b1,0,none⟩,vp ⟨b5,0,none⟩]] w5 (fun v w6=>∃r1,v=vi r1∧Ifb (r1 !=0)
 (Q none 0 0 r1 w6)
 (dU w6 ⟨b5,0,none⟩ fun x2_a x2_n x2_c=>
 Q x2_a x2_n x2_c 0 w6)))
theorem mU.ok{Q:Option Addr→Nat→Nat→Int→World→Prop}{l:Option Addr}{day:Int}{thing:Int}{layer:Int}{goods_a:Option Addr}{goods_n:Nat}{goods_c:Nat}{w:World}(h:mU.R Q l day thing layer goods_a goods_n goods_c w):Cl Pg 35 #[vP l,vi day,vi thing,vi layer,vl goods_a goods_n goods_c] w (fun v w'=>∃r0a r0n r0c r1,v= .tuple #[vl r0a r0n r0c,vi r1]∧Q r0a r0n r0c r1 w'):=by
 refine aI (args:=[vP l,vi day,vi thing,vi layer,vl goods_a goods_n goods_c]) Tryz.func35 ?_
 unfold mU.R at h
 refine aC<|zq h fun b1 w1 _ _ _ h=>zq h fun b2 w2 _ _ _ h=>zq h fun b3 w3 _ _ _ h=>zq h fun b4 w4 _ _ _ h=>zp 2<|aD<|aC<|zq h fun b5 w5 _ _ _ h=>aD<|aC<|zp 1<|zd tk3 h fun x1 hx1 h=>zp 1<|zk h ?_
 rintro _ w6 ⟨r1,rfl,h⟩
 refine zp 1<|aD<|aL<|aC<|zp 2<|aD<|zc h (fun h=>?_) fun h=>?_
 exact aC<|zp 3<|aD<|aN<|aH<|z2 ⟨_,_,_,_,rfl,h⟩
 exact aJ<|aC<|zr xV h fun x2_a x2_n x2_c hx2 h=>zp 2<|aD<|aN<|z2 ⟨_,_,_,_,rfl,h⟩
end Go.Proofs.YtcbijkakoepglaaGreat
