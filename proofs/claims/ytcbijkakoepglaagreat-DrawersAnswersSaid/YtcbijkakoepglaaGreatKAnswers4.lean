/- The law DrawersAnswers holds. Conditions: none. -/
import Derived.Test.YtcbijkakoepglaaGreatKAnswers3
set_option linter.all false
namespace Go.Proofs.YtcbijkakoepglaaGreat
open Go Go.Wx Go.ChangeShapes Go.WideShapes Go.ChangeAt Go.RowKit
open Go.ChangeMaps (open_string shut_string)
theorem own:ownKnob Pg.godebug=none:=by kernel_rfl
theorem laidOut:laidOutB Pg=true:=by kernel_rfl
theorem fk77:flatK Pg 9 77=some [.int .u8,.int .i64,.str,.str,.int .i64,.int .i64,.int .i64,.sl 53,.sl 46]:=by kernel_rfl
theorem fk58:flatK Pg 9 58=some [.str,.int .i64]:=by kernel_rfl
theorem fk45:flatK Pg 9 45=some [.int .i64,.int .i64,.int .i64,.int .i64,.int .i64,.str,.int .i64,.int .i64,.int .u8,.int .i64]:=by kernel_rfl
theorem fk40:flatK Pg 9 40=some [.int .u8,.int .i64]:=by kernel_rfl
section
variable {H : Type} {enc : TypeId × Value → H} {P : Program} {w : World} {base : Nat} {spare : Nat → Bool} {held : Bool}
theorem aDN{t:TypeId}{fs:Array Field}{q:Nat}{ks:List CK}{r:Reach}{b0:Nat}{v:Value}{d:DataW H}{p:List MemPlace}(hs:P.underlying t=some (.struct fs))(hk:flatK P q t=some ks)(hv:Value.okWide P w r b0 t v)(h:DataW.Trod enc P w base spare held t v d p)(hw:∀m∈d.weights P t,m≤reachBytes):
 ∃cs,v=vg cs∧CM enc P w base spare held ks cs:=by
 obtain⟨cs,rfl,_⟩:=okWide_struct hs hv;obtain⟨fuel,hf⟩:=h;exact⟨cs.toList,by simp,yO q fuel t ks _ _ hk hf hw⟩
end
instance : Inhabited TAmount := ⟨⟨ByteArray.empty, 0⟩⟩
instance : Inhabited TLot := ⟨⟨0, 0, 0, 0, 0, ByteArray.empty, 0, 0, 0, 0⟩⟩
instance : Inhabited TOp := ⟨⟨0, 0, ByteArray.empty, ByteArray.empty, 0, 0, 0, none, 0, 0, none, 0, 0⟩⟩
section
variable {H : Type} {enc : TypeId × Value → H} {w : World} {base : Nat} {spare : Nat → Bool} {held : Bool}
theorem el58(cs:List Value)(h:CM enc Pg w base spare held [.str,.int .i64] cs):∃y:TAmount,cs=y.enc∧True:=by
 simp only[CM]at h;obtain⟨a1,_,rfl,_,a2,_,rfl,_,rfl⟩:=h;exact⟨⟨a1,a2⟩,rfl,trivial⟩
theorem el45(cs:List Value)(h:CM enc Pg w base spare held [.int .i64,.int .i64,.int .i64,.int .i64,.int .i64,.str,.int .i64,.int .i64,.int .u8,.int .i64] cs):∃y:TLot,cs=y.enc∧True:=by
 simp only[CM]at h;obtain⟨a1,_,rfl,_,a2,_,rfl,_,a3,_,rfl,_,a4,_,rfl,_,a5,_,rfl,_,a6,_,rfl,_,a7,_,rfl,_,a8,_,rfl,_,a9,_,rfl,_,a10,_,rfl,_,rfl⟩:=h;exact⟨⟨a1,a2,a3,a4,a5,a6,a7,a8,a9,a10⟩,rfl,trivial⟩
theorem el77(cs:List Value)(h:CM enc Pg w base spare held [.int .u8,.int .i64,.str,.str,.int .i64,.int .i64,.int .i64,.sl 53,.sl 46] cs):∃y:TOp,cs=y.enc∧∃m,OpIs w y m:=by
 simp only[CM]at h;obtain⟨a1,_,rfl,_,a2,_,rfl,_,a3,_,rfl,_,a4,_,rfl,_,a5,_,rfl,_,a6,_,rfl,h6,a7,_,rfl,_,a8,n8,c8,_,rfl,⟨f8,x8,h8,w8⟩,a9,n9,c9,_,rfl,⟨f9,x9,h9,w9⟩,rfl⟩:=h;obtain⟨gs,hg,bg,_,_⟩:=yQ (α:=TAmount) (encA:=TAmount.enc) (sz:=2) (Ex:=fun _ _=>True) Tryz.underlying53 fk58 (by kernel_rfl) (B:=24) (by kernel_rfl) el58 h8 w8;obtain⟨ls,hl,bl,_,_⟩:=yQ (α:=TLot) (encA:=TLot.enc) (sz:=10) (Ex:=fun _ _=>True) Tryz.underlying46 fk45 (by kernel_rfl) (B:=88) (by kernel_rfl) el45 h9 w9
 have hrb:reachBytes<2 ^ 47:=reachBytes_lt;exact⟨⟨a1,a2,a3,a4,a5,a6,a7,a8,n8,c8,a9,n9,c9⟩,rfl,⟨a1,a2,a3,a4,a5,a6,a7,gs,ls⟩,rfl,rfl,rfl,rfl,rfl,rfl,rfl,hg,hl,by show n8≤1000000000000000;omega,by show n9≤1000000000000000;omega,(by
  have h6':(decide (IntKind.min .i64≤a6)&&decide (a6≤IntKind.max .i64))=true:=h6;simp only[Bool.and_eq_true,decide_eq_true_eq]at h6';exact⟨h6'.1,h6'.2⟩)⟩
theorem aDO{fuel:Nat}{a:Option Addr}{n c:Nat}{x:DataW H × List MemPlace}(h:DataW.trod enc Pg w base spare held fuel 30 [.slice a n c]=some x)(hw:∀m∈x.1.weights Pg 30,m≤reachBytes):∃ms,OpsIs w a n ms:=by
 obtain⟨os,hr,_,_,hex⟩:=yQ (α:=TOp) (encA:=TOp.enc) (sz:=9) (Ex:=fun w y=>∃m,OpIs w y m) Tryz.underlying30 fk77 (by kernel_rfl) (B:=Pg.bytesOf 77) rfl el77 h hw;have:∀os:List TOp,(∀y∈os,∃m,OpIs w y m)→∃ms:List MOp,os.length=ms.length∧∀(i:Nat) (o:TOp) (m:MOp),os[i]? =some o→ms[i]? =some m→OpIs w o m:=by
  intro os;induction os with
  | nil=>exact fun _=>⟨[],rfl,fun i o m h=>by simp at h⟩
  | cons o os ih=>
   intro hh;obtain⟨m,hm⟩:=hh o List.mem_cons_self;obtain⟨ms,hl,hms⟩:=ih fun y hy=>hh y (List.mem_cons_of_mem _ hy);refine⟨m::ms,by simp[hl],fun i o' m' h1 h2=>?_⟩;cases i with
   | zero=>simp at h1 h2;subst h1;subst h2;exact hm
   | succ i=>exact hms i o' m' (by simpa using h1) (by simpa using h2)
 obtain⟨ms,hl,hms⟩:=this os hex;exact⟨ms,hr.1.trans hl,os,hr,hms⟩
set_option maxRecDepth 100000 in
theorem aFQ{r:Reach}{b0:Nat}{v:Value}{d:DataW H}{p:List MemPlace}(hv:Value.okWide Pg w r b0 40 v)(h:DataW.Trod enc Pg w base spare held 40 v d p)(hw:∀m∈d.weights Pg 40,m≤reachBytes):∃a:TAccount,v=vg [vu a.Kind,vi a.Id]:=by
 obtain⟨cs,rfl,hm⟩:= @aDN H enc Pg w base spare held 40 _ 9 _ r b0 v d p Tryz.underlying40 fk40 hv h hw;simp only[CM]at hm;obtain⟨a1,_,rfl,_,a2,_,rfl,_,rfl⟩:=hm;exact⟨⟨a1,a2⟩,rfl⟩
end
theorem aAe{H:Type}{P:Program}{ts:List TypeId}{ds:List (DataW H)}(h:(DataW.weightsEach P ts ds).all (· ≤reachBytes)=true){j:Nat}{t:TypeId}{d:DataW H}(ht:ts[j]? =some t)(hd:ds[j]? =some d):∀m∈d.weights P t,m≤reachBytes:=
 fun m hm=>of_decide_eq_true (List.all_eq_true.1 h m (DataW.weights_mem_each ht hd m hm))
end Go.Proofs.YtcbijkakoepglaaGreat
namespace Go.Proofs.YtcbijkakoepglaaGreat
open Go Go.Wx
set_option maxRecDepth 100000
def bE.j1(Q:Int→World→Prop)(v1:Int)(v2:Int)(kl1:Int→Int→World→Prop)(v3:Bool)(w4:World):Prop:=(
 Ifb v3
 (kl1 v2 (IntKind.wrap .i64 (v2+1)) w4)
 (kl1 v1 (IntKind.wrap .i64 (v2+1)) w4))
def bE.l1(Q:Int→World→Prop)(l:Option Addr)(day:Int):Nat→Int→Int→World→Prop
 | 0,_,_,_=>False
 | nl1+1,v1,v2,w1=>(
 NN l fun p1=>
 dU w1 (Addr.add p1 4) fun x1_a x1_n x1_c=>
 Ifb (decide (v2<((x1_n:Nat):Int)))
 (NN l fun p2=>
 dU w1 (Addr.add p2 4) fun x2_a x2_n x2_c=>
 Ix x2_a x2_n v2 fun p3=>
 LdT TLot.enc w1 (Addr.add p3 (v2.toNat*10)) fun x3=>
 Al w1 (.cells #[vi 0,vi 0,vi 0,vi 0,vi 0,vs (ByteArray.mk #[]),vi 0,vi 0,vu 0,vi 0] 45) fun b1 w2=>
 Sb w2 b1 (.cells #[vi x3.Id,vi x3.Thing,vi x3.Layer,vi x3.Day,vi x3.Due,vs x3.Unit,vi x3.N,vi x3.Left,vu x3.State,vi x3.Bag] 45 (0,0)) fun w3=>
 Dr w3 fun w5=>
 Ifb (x3.State==1)
 (Ifb (decide (x3.Due≤day))
 (Ifb (decide (v1<0))
 (bE.j1 Q v1 v2 (bE.l1 Q l day nl1) true w5)
 (NN l fun p4=>
 dU w5 (Addr.add p4 4) fun x4_a x4_n x4_c=>
 Ix x4_a x4_n v1 fun p5=>
 LdI .i64 w5 (Addr.add (Addr.add p5 (v1.toNat*10)) 4) fun x5=>
 bE.j1 Q v1 v2 (bE.l1 Q l day nl1) (decide (x3.Due<x5)) w5))
 (bE.j1 Q v1 v2 (bE.l1 Q l day nl1) false w5))
 (bE.j1 Q v1 v2 (bE.l1 Q l day nl1) false w5))
 (Q v1 w1))
def bE.R(Q:Int→World→Prop)(l:Option Addr)(day:Int)(w:World):Prop:=(
 ∃k,bE.l1 Q l day k (-1) 0 w)
theorem bE.ok{Q:Int→World→Prop}{l:Option Addr}{day:Int}{w:World}(h:bE.R Q l day w):Cl Pg 120 #[vP l,vi day] w (fun v w'=>∃r0,v=vi r0∧Q r0 w'):=by
 refine aI (args:=[vP l,vi day]) Tryz.func120 ?_
 unfold bE.R at h
 refine aC<|zp 1<|aD<|aC<|zp 1<|aD<|aL<|aC<|zp 1<|aD<|aR ?_
 obtain⟨nl1,h⟩:=h
 refine bS (fun k e w1=>∃(e0:Env) (v1:Int) (v2:Int),e=upds e0 [(0,vP l),(1,vi day),(5,vi v1),(6,vi v2)]∧bE.l1 Q l day k v1 v2 w1) nl1 ?_ ?_ ?_
 rintro _ _ ⟨_,_,_,_,h⟩
 exact h
 exact⟨_, -1,0,ag,h⟩
 clear h nl1
 rintro nl1 _ w1 ⟨e0,v1,v2,rfl,h⟩
 unfold bE.l1 at h
 refine aL<|aC<|zp 2<|zo h fun p1 h=>zp 1<|zr iU h fun x1_a x1_n x1_c hx1 h=>zp 2<|aD<|zc h (fun h=>?_) fun h=>?_
 refine aJ<|aL<|aR<|aC<|zp 1<|zo h fun p2 h=>zp 1<|zr iU h fun x2_a x2_n x2_c hx2 h=>zp 1<|zi dX h fun p3 h=>?_
 obtain⟨x3,hx3,h⟩:=h
 refine zn jU hx3<|zq h fun b1 w2 _ _ q1 h=>zt jU q1 h fun w3 ew q h=>?_
 replace q1:=q
 refine aD<|fD (fun e w4=>∃(e0:Env) (v3:Bool),e=upds e0 [(0,vP l),(1,vi day),(5,vi v1),(6,vi v2),(49,vb v3)]∧bE.j1 Q v1 v2 (bE.l1 Q l day nl1) v3 w4) ?_ ?_
 refine drw iG [[],[],[1],[1],[1],[1],[1],[1,5],[1,5],[1,5],[1,5],[1,5],[1,5],[1,5],[1,5],[1,5],[1,5],[1,5],[1,5],[1,5],[1,5,18],[1,5,18],[1,5,18],[1,5,14,18,22],[1,5,14,18,22],[1,5,14,18,22]] [.p 0,.l 1,.p 2,.p 3,.p 4,.l 5,.p 6,.p 7,.p 8,.p 9,.p 10,.p 11,.p 12,.p 13,.l 14,.p 15,.p 16,.p 17,.l 18,.p 19,.p 20,.p 21,.l 22,.p 23,.p 24,.p 25] h fun w5 ew h=>?_
 replace q1:=dN ew q1
 refine zP 1<|zB tk5 q1<|zP 2<|zS 27 h (fun h=>?_) fun h=>?_
 refine zP 1<|zB tk3 q1<|zP 4<|zS 33 h (fun h=>?_) fun h=>?_
 refine zP 3<|zS 36 h (fun h=>?_) fun h=>?_
 exact zP 1<|ze<|zP 3<|ze<|zP 3<|ze<|zP 3<|bF<|⟨_,true,ag,h⟩
 exact zP 1<|zB tk3 q1<|zP 1<|zO h fun p4 h=>zP 1<|zR iU h fun x4_a x4_n x4_c hx4 h=>zP 1<|zI dX h fun p5 h=>zP 1<|zD tk3 h fun x5 hx5 h=>zP 3<|bF<|⟨_,decide (x3.Due<x5),ag,h⟩
 exact zP 4<|ze<|zP 3<|ze<|zP 3<|ze<|zP 3<|bF<|⟨_,false,ag,h⟩
 exact zP 1<|ze<|zP 8<|ze<|zP 3<|ze<|zP 3<|ze<|zP 3<|bF<|⟨_,false,ag,h⟩
 clear h q1
 rintro _ w4 ⟨e0,v3,rfl,h⟩
 unfold bE.j1 at h
 refine zc h (fun h=>?_) fun h=>?_
 exact aW<|zp 2<|aD<|aG<|aW<|zp 3<|aD<|⟨_,v2,IntKind.wrap .i64 (v2+1),ag,h⟩
 exact aJ<|aG<|aW<|zp 3<|aD<|⟨_,v1,IntKind.wrap .i64 (v2+1),ag,h⟩
 exact dE<|aU<|aC<|zp 2<|aD<|aN<|z1 ⟨_,rfl,h⟩
def iL.l1(Q:Int→World→Prop)(l:Option Addr)(unit:ByteArray):Nat→Int→World→Prop
 | 0,_,_=>False
 | nl1+1,v1,w1=>(
 NN l fun p1=>
 dU w1 (Addr.add p1 1) fun x1_a x1_n x1_c=>
 Ifb (decide (v1<((x1_n:Nat):Int)))
 (NN l fun p2=>
 dU w1 (Addr.add p2 1) fun x2_a x2_n x2_c=>
 Ix x2_a x2_n v1 fun p3=>
 LdS w1 (Addr.add p3 (v1.toNat*2)) fun x3=>
 Ifb (dF x3 unit)
 (NN l fun p4=>
 dU w1 (Addr.add p4 1) fun x4_a x4_n x4_c=>
 Ix x4_a x4_n v1 fun p5=>
 LdI .u8 w1 (Addr.add (Addr.add p5 (v1.toNat*2)) 1) fun x5=>
 Q x5 w1)
 ((iL.l1 Q l unit nl1) (IntKind.wrap .i64 (v1+1)) w1))
 (Q 0 w1))
def iL.R(Q:Int→World→Prop)(l:Option Addr)(unit:ByteArray)(w:World):Prop:=(
 ∃k,iL.l1 Q l unit k 0 w)
theorem iL.ok{Q:Int→World→Prop}{l:Option Addr}{unit:ByteArray}{w:World}(h:iL.R Q l unit w):Cl Pg 159 #[vP l,vs unit] w (fun v w'=>∃r0,v=vu r0∧Q r0 w'):=by
 refine aI (args:=[vP l,vs unit]) Tryz.func159 ?_
 unfold iL.R at h
 refine aC<|zp 1<|aD<|aL<|aC<|zp 1<|aD<|aR ?_
 obtain⟨nl1,h⟩:=h
 refine bS (fun k e w1=>∃(e0:Env) (v1:Int),e=upds e0 [(0,vP l),(1,vs unit),(5,vi v1)]∧iL.l1 Q l unit k v1 w1) nl1 ?_ ?_ ?_
 rintro _ _ ⟨_,_,_,h⟩
 exact h
 exact⟨_,0,ag,h⟩
 clear h nl1
 rintro nl1 _ w1 ⟨e0,v1,rfl,h⟩
 unfold iL.l1 at h
 refine aL<|aC<|zp 2<|zo h fun p1 h=>zp 1<|zr vD h fun x1_a x1_n x1_c hx1 h=>zp 2<|aD<|zc h (fun h=>?_) fun h=>?_
 refine aJ<|aL<|aR<|aC<|zp 1<|zo h fun p2 h=>zp 1<|zr vD h fun x2_a x2_n x2_c hx2 h=>zp 1<|zi aAx h fun p3 h=>zp 1<|zd tk9 h fun x3 hx3 h=>zp 2<|aD<|zc h (fun h=>?_) fun h=>?_
 exact aC<|zp 1<|zo h fun p4 h=>zp 1<|zr vD h fun x4_a x4_n x4_c hx4 h=>zp 1<|zi aAx h fun p5 h=>zp 1<|zd tk5 h fun x5 hx5 h=>zp 1<|aD<|aN<|bD<|aH<|aH<|bD<|aH<|z1 ⟨_,rfl,h⟩
 exact aJ<|aG<|aW<|zp 3<|aD<|⟨_,IntKind.wrap .i64 (v1+1),ag,h⟩
 exact dE<|aU<|aC<|zp 1<|aD<|aN<|z1 ⟨_,rfl,h⟩
def tC.R(Q:TAccount→World→Prop)(id:Int)(w:World):Prop:=(
 Al w (.cells #[vu 0,vi 0] 40) fun b1 w1=>
 Sb w1 b1 (.cells #[vu 2,vi id] 40 (0,0)) fun w2=>
 Q (⟨2,id⟩:TAccount) w2)
theorem tC.ok{Q:TAccount→World→Prop}{id:Int}{w:World}(h:tC.R Q id w):Cl Pg 163 #[vi id] w (fun v w'=>∃r0,v=vg (TAccount.enc r0)∧Q r0 w'):=by
 refine aI (args:=[vi id]) Tryz.func163 ?_
 unfold tC.R at h
 refine aC<|zq h fun b1 w1 _ _ q1 h=>aD<|aC<|zp 2<|zt j8 q1 h fun w2 ew q h=>?_
 replace q1:=q
 exact aD<|aN<|retc (t:=2) (ty:=40) (v:=vg [vu 2,vi id]) rfl rfl (bT j8 (vs:=[vu 2,vi id]) rfl (dS q1 rfl)) ⟨_,rfl,h⟩
def pH.R(Q:World→Prop)(l:Option Addr)(day:Int)(unit:ByteArray)(n:Int)(from_:TAccount)(to_:TAccount)(why:Int)(lot:Int)(w:World):Prop:=(
 Al w (.cells #[vu from_.Kind,vi from_.Id] 40) fun b1 w1=>
 Al w1 (.cells #[vu to_.Kind,vi to_.Id] 40) fun b2 w2=>
 Dr w2 fun w3=>
 NN l fun p1=>
 dU w3 (Addr.add p1 5) fun x1_a x1_n x1_c=>
 Al w3 (.cells #[vi day,vs unit,vi n,vu from_.Kind,vi from_.Id,vu to_.Kind,vi to_.Id,vu why,vi lot] 42) fun b3 w4=>
 Ap Pg w4 #[22,22] 22 (vl x1_a x1_n x1_c) (vl (some ⟨b3,0,none⟩) 1 1) fun a1_a a1_n a1_c w5=>
 NN l fun p2=>
 St w5 (Addr.add p2 5) ([vl a1_a a1_n a1_c]) fun w6=>
 Q w6)
theorem pH.ok{Q:World→Prop}{l:Option Addr}{day:Int}{unit:ByteArray}{n:Int}{from_:TAccount}{to_:TAccount}{why:Int}{lot:Int}{w:World}(h:pH.R Q l day unit n from_ to_ why lot w):Cl Pg 165 #[vP l,vi day,vs unit,vi n,vg (TAccount.enc from_),vg (TAccount.enc to_),vu why,vi lot] w (fun v w'=>v= .tuple #[]∧Q w'):=by
 refine aI (args:=[vP l,vi day,vs unit,vi n,vg (TAccount.enc from_),vg (TAccount.enc to_),vu why,vi lot]) Tryz.func165 ?_
 unfold pH.R at h
 refine aC<|zq h fun b1 w1 _ _ q1 h=>zq h fun b2 w2 eb ew q2 h=>?_
 have o1:=q1
 replace q1:=fQ ew q1
 have n1_2:b1≠b2:=lR o1 eb
 clear o1
 clear eb ew
 refine aD<|drw iG [[],[],[],[],[],[],[],[],[],[],[],[],[8,9],[8,9],[4,8,9],[4,8,9],[4,8,9],[4,8,9]] [.p 0,.p 1,.p 2,.p 3,.l 4,.p 5,.p 6,.p 7,.l 8,.l 9,.p 10,.p 11,.p 12,.e 13,.e 14,.p 15,.p 16,.e 17] h fun w3 ew h=>?_
 replace q1:=dN ew q1
 replace q2:=dN ew q2
 refine zP 2<|zO h fun p1 h=>zP 1<|zR sT h fun x1_a x1_n x1_c hx1 h=>zP 3<|zM j8 q1<|zM j8 q2<|zP 3<|zV 1 h fun b3 w4 eb ew q3 h=>?_
 replace hx1:=oE ew hx1
 clear eb ew q3
 refine⟨zf sT hx1<|AllOk.nil,?_⟩
 refine zA h ?_
 rintro a1_a a1_n a1_c w5 h
 refine⟨AllOk.nil,?_⟩
 refine zO h fun p2 h=>zP 1<|zU sT h ?_
 rintro w6 h
 refine⟨AllOk.nil,?_⟩
 exact bF<|vG<|uA rfl ⟨rfl,h⟩
def fL.l1(Q:World→Prop)(l:Option Addr):Nat→Int→World→Prop
 | 0,_,_=>False
 | nl1+1,v1,w2=>(
 Ifb (decide (v1≥0))
 (NN l fun p2=>
 LdI .i64 w2 p2 fun x2=>
 Cl Pg 186 #[vP l,vi v1,vi x2] w2 (fun v w3=>v= .tuple #[]∧NN l fun p3=>
 LdI .i64 w3 p3 fun x3=>
 Cl Pg 120 #[vP l,vi x3] w3 (fun v w4=>∃r2,v=vi r2∧(fL.l1 Q l nl1) r2 w4)))
 (Q w2))
def fL.R(Q:World→Prop)(l:Option Addr)(w:World):Prop:=(
 NN l fun p1=>
 LdI .i64 w p1 fun x1=>
 Cl Pg 120 #[vP l,vi x1] w (fun v w1=>∃r1,v=vi r1∧∃k,fL.l1 Q l k r1 w1))
theorem fL.ok{Q:World→Prop}{l:Option Addr}{w:World}(h:fL.R Q l w):Cl Pg 170 #[vP l] w (fun v w'=>v= .tuple #[]∧Q w'):=by
 refine aI (args:=[vP l]) Tryz.func170 ?_
 unfold fL.R at h
 refine aC<|zp 2<|zo h fun p1 h=>zp 1<|zd tk3 h fun x1 hx1 h=>zk h ?_
 rintro _ w1 ⟨r1,rfl,h⟩
 refine zp 1<|aD<|aR ?_
 obtain⟨nl1,h⟩:=h
 refine bS (fun k e w2=>∃(e0:Env) (v1:Int),e=upds e0 [(0,vP l),(2,vi v1)]∧fL.l1 Q l k v1 w2) nl1 ?_ ?_ ?_
 rintro _ _ ⟨_,_,_,h⟩
 exact h
 exact⟨_,r1,ag,h⟩
 clear h nl1
 rintro nl1 _ w2 ⟨e0,v1,rfl,h⟩
 unfold fL.l1 at h
 refine aL<|aC<|zp 2<|aD<|zc h (fun h=>?_) fun h=>?_
 refine aJ<|aR<|aC<|zp 3<|zo h fun p2 h=>zp 1<|zd tk3 h fun x2 hx2 h=>zk h ?_
 rintro _ w3 ⟨rfl,h⟩
 refine aD<|aW<|zp 2<|zo h fun p3 h=>zp 1<|zd tk3 h fun x3 hx3 h=>zk h ?_
 rintro _ w4 ⟨r2,rfl,h⟩
 exact zp 1<|aD<|aG<|⟨_,r2,ag,h⟩
 exact dE<|aU<|vG<|uA rfl ⟨rfl,h⟩
def fM.l1(Q:Int→World→Prop)(l:Option Addr)(day:Int):Nat→Int→Int→World→Prop
 | 0,_,_,_=>False
 | nl1+1,v1,v2,w2=>(
 Ifb (decide (v2≥0))
 (NN l fun p1=>
 dU w2 (Addr.add p1 4) fun x1_a x1_n x1_c=>
 Ix x1_a x1_n v2 fun p2=>
 LdI .i64 w2 (Addr.add (Addr.add p2 (v2.toNat*10)) 4) fun x2=>
 Cl Pg 186 #[vP l,vi v2,vi x2] w2 (fun v w3=>v= .tuple #[]∧Cl Pg 120 #[vP l,vi day] w3 (fun v w4=>∃r2,v=vi r2∧(fM.l1 Q l day nl1) (IntKind.wrap .i64 (v1+1)) r2 w4)))
 (NN l fun p3=>
 St w2 p3 ([vi day]) fun w5=>
 Q v1 w5))
def fM.R(Q:Int→World→Prop)(l:Option Addr)(day:Int)(w:World):Prop:=(
 Cl Pg 120 #[vP l,vi day] w (fun v w1=>∃r1,v=vi r1∧∃k,fM.l1 Q l day k 0 r1 w1))
theorem fM.ok{Q:Int→World→Prop}{l:Option Addr}{day:Int}{w:World}(h:fM.R Q l day w):Cl Pg 185 #[vP l,vi day] w (fun v w'=>∃r0,v=vi r0∧Q r0 w'):=by
 refine aI (args:=[vP l,vi day]) Tryz.func185 ?_
 unfold fM.R at h
 refine aC<|zp 1<|aD<|aC<|zp 1<|aD<|aC<|zp 2<|zk h ?_
 rintro _ w1 ⟨r1,rfl,h⟩
 refine zp 1<|aD<|aL<|aR ?_
 obtain⟨nl1,h⟩:=h
 refine bS (fun k e w2=>∃(e0:Env) (v1:Int) (v2:Int),e=upds e0 [(0,vP l),(1,vi day),(5,vi v1),(6,vi v2)]∧fM.l1 Q l day k v1 v2 w2) nl1 ?_ ?_ ?_
 rintro _ _ ⟨_,_,_,_,h⟩
 exact h
 exact⟨_,0,r1,ag,h⟩
 clear h nl1
 rintro nl1 _ w2 ⟨e0,v1,v2,rfl,h⟩
 unfold fM.l1 at h
 refine aL<|aC<|zp 2<|aD<|zc h (fun h=>?_) fun h=>?_
 refine aJ<|aR<|aC<|zp 3<|zo h fun p1 h=>zp 1<|zr iU h fun x1_a x1_n x1_c hx1 h=>zp 1<|zi dX h fun p2 h=>zp 1<|zd tk3 h fun x2 hx2 h=>zk h ?_
 rintro _ w3 ⟨rfl,h⟩
 refine aD<|aC<|zp 3<|aD<|aW<|zp 2<|zk h ?_
 rintro _ w4 ⟨r2,rfl,h⟩
 exact zp 1<|aD<|aG<|⟨_,IntKind.wrap .i64 (v1+1),r2,ag,h⟩
 refine dE<|aU<|aC<|zp 2<|zo h fun p3 h=>zp 1<|zu tk3 h ?_
 rintro w5 h
 exact aD<|aC<|zp 2<|aD<|aN<|z1 ⟨_,rfl,h⟩
def nK.R(Q:World→Prop)(l:Option Addr)(i:Int)(day:Int)(w:World):Prop:=(
 NN l fun p1=>
 dU w (Addr.add p1 4) fun x1_a x1_n x1_c=>
 Ix x1_a x1_n i fun p2=>
 LdT TLot.enc w (Addr.add p2 (i.toNat*10)) fun x2=>
 Al w (.cells #[vi 0,vi 0,vi 0,vi 0,vi 0,vs (ByteArray.mk #[]),vi 0,vi 0,vu 0,vi 0] 45) fun b1 w1=>
 Sb w1 b1 (.cells #[vi x2.Id,vi x2.Thing,vi x2.Layer,vi x2.Day,vi x2.Due,vs x2.Unit,vi x2.N,vi x2.Left,vu x2.State,vi x2.Bag] 45 (0,0)) fun w2=>
 Dr w2 fun w3=>
 Cl Pg 163 #[vi x2.Thing] w3 (fun v w4=>∃r1,v=vg (TAccount.enc r1)∧Kp b1 w3 w4∧Cl Pg 165 #[vP l,vi day,vs x2.Unit,vi x2.Left,vg (TAccount.enc r1),vg [vu 4,vi 0],vu 3,vi x2.Id] w4 (fun v w5=>v= .tuple #[]∧NN l fun p3=>
 dU w5 (Addr.add p3 4) fun x3_a x3_n x3_c=>
 Ix x3_a x3_n i fun p4=>
 St w5 (Addr.add (Addr.add p4 (i.toNat*10)) 8) ([vu 3]) fun w6=>
 Q w6)))
theorem nK.ok{Q:World→Prop}{l:Option Addr}{i:Int}{day:Int}{w:World}(h:nK.R Q l i day w):Cl Pg 186 #[vP l,vi i,vi day] w (fun v w'=>v= .tuple #[]∧Q w'):=by
 refine aI (args:=[vP l,vi i,vi day]) Tryz.func186 ?_
 unfold nK.R at h
 refine aC<|zp 1<|zo h fun p1 h=>zp 1<|zr iU h fun x1_a x1_n x1_c hx1 h=>zp 1<|zi dX h fun p2 h=>?_
 obtain⟨x2,hx2,h⟩:=h
 refine zn jU hx2<|zq h fun b1 w1 _ _ q1 h=>zt jU q1 h fun w2 ew q h=>?_
 replace q1:=q
 refine aD<|drs iG [[],[],[],[],[],[],[],[],[7],[],[],[],[3,5,7,11]] [.p 0,.p 1,.p 2,.l 3,.p 4,.l 5,.p 6,.l 7,.p 9,.p 10,.l 11,.e 8,.e 12] h fun w3 ew h=>?_
 replace q1:=dN ew q1
 refine zP 3<|zB tk9 q1<|zP 1<|zB tk3 q1<|zP 1<|zB tk3 q1<|zP 2<|zB tk3 q1<|zK h ?_
 rintro _ w4 ⟨r1,rfl,hk0,h⟩
 replace q1:=bG hk0 q1
 refine⟨AllOk.cons (jW (jO rfl rfl (fW tk3 (aV q1 rfl))))<|AllOk.cons (jW (jO rfl rfl (fW tk3 (aV q1 rfl))))<|AllOk.cons (jW (jO rfl rfl (fW tk9 (aV q1 rfl))))<|AllOk.nil,?_⟩
 refine zK h ?_
 rintro _ w5 ⟨rfl,h⟩
 refine⟨AllOk.nil,?_⟩
 refine bF<|aW<|zp 1<|zo h fun p3 h=>zp 1<|zr iU h fun x3_a x3_n x3_c hx3 h=>zp 1<|zi dX h fun p4 h=>zp 1<|zu tk5 h ?_
 rintro w6 h
 exact aD<|vG<|uA rfl ⟨rfl,h⟩
end Go.Proofs.YtcbijkakoepglaaGreat
namespace Go.Proofs.YtcbijkakoepglaaGreat
open Go Go.Wx
structure RUnit where
 name:ByteArray
 kind:Int
structure RVal where
 unit:ByteArray
 day:Int
 grains:Int
def RUnit.enc(x:RUnit):List Value:=[vs x.name,vu x.kind]
def RVal.enc(x:RVal):List Value:=[vs x.unit,vi x.day,vi x.grains]
structure RSt where
 day:Int
 ua:Option Addr
 un:Nat
 uc:Nat
 va:Option Addr
 vn:Nat
 vc:Nat
 ta:Option Addr
 tn:Nat
 tc:Nat
 la:Option Addr
 ln:Nat
 lc:Nat
 ma:Option Addr
 mn:Nat
 mc:Nat
def RSt.enc(s:RSt):List Value:=[vi s.day,vl s.ua s.un s.uc,vl s.va s.vn s.vc,vl s.ta s.tn s.tc,vl s.la s.ln s.lc,vl s.ma s.mn s.mc]
def RSt.own(s:RSt)(k:Nat):Prop:=obk s.ua s.uc=some k∨obk s.va s.vc=some k∨obk s.ta s.tc=some k∨obk s.la s.lc=some k∨obk s.ma s.mc=some k
structure RLed(w:World)(b:Nat)(s:RSt)(us:List RUnit)(vals:List RVal)(ts:List TTerm)(M:MState):Prop where
 blk:At w b (.cells s.enc.toArray 143 (0,0))
 day:s.day=M.day
 units:Own 191 2 RUnit.enc w s.ua s.un s.uc us
 vals:Own 154 3 RVal.enc w s.va s.vn s.vc vals
 terms:Own 156 4 TTerm.enc w s.ta s.tn s.tc ts
 lots:Own 45 10 TLot.enc w s.la s.ln s.lc M.lots
 moves:Own 42 9 TPosting.enc w s.ma s.mn s.mc M.postings
theorem aCJ(x:RUnit):x.enc.length=2:=rfl
theorem aCI(x:RVal):x.enc.length=3:=rfl
theorem aEo(x:TTerm):x.enc.length=4:=rfl
section
variable {w w' : World} {b : Nat} {s : RSt} {us : List RUnit} {vals : List RVal} {ts : List TTerm} {M : MState}
theorem RLed.frm{S:Nat→Prop}(h:RLed w b s us vals ts M)(F:Frm S w w')(hb:¬S b)(hS:∀k,s.own k→¬S k):RLed w' b s us vals ts M:=
 ⟨h.blk.frm F hb,h.day,h.units.frm F fun k hk=>hS k (.inl hk),h.vals.frm F fun k hk=>hS k (.inr (.inl hk)),h.terms.frm F fun k hk=>hS k (.inr (.inr (.inl hk))),h.lots.frm F fun k hk=>hS k (.inr (.inr (.inr (.inl hk)))),h.moves.frm F fun k hk=>hS k (.inr (.inr (.inr (.inr hk))))⟩
theorem RLed.ext(h:RLed w b s us vals ts M)(E:Ext w w'):RLed w' b s us vals ts M:=h.frm E id fun _ _=>id
theorem RLed.cells(h:RLed w b s us vals ts M):Cells w ⟨b,0,none⟩ s.enc:=Cells.of_at h.blk rfl
theorem RLed.lt(h:RLed w b s us vals ts M):∀k,s.own k→k<w.heap.size:=by
 rintro k (hk | hk | hk | hk | hk)
 ·obtain⟨_,hc⟩:=h.units.at k hk;exact hc.lt
 ·obtain⟨_,hc⟩:=h.vals.at k hk;exact hc.lt
 ·obtain⟨_,hc⟩:=h.terms.at k hk;exact hc.lt
 ·obtain⟨_,hc⟩:=h.lots.at k hk;exact hc.lt
 ·obtain⟨_,hc⟩:=h.moves.at k hk;exact hc.lt
theorem RLed.ne(h:RLed w b s us vals ts M):¬s.own b:=by
 rintro(hk | hk | hk | hk | hk)
 ·exact h.units.notP h.blk (by decide) hk
 ·exact h.vals.notP h.blk (by decide) hk
 ·exact h.terms.notP h.blk (by decide) hk
 ·exact h.lots.notP h.blk (by decide) hk
 ·exact h.moves.notP h.blk (by decide) hk
theorem lI{α β:Type}{T sz T5 sz5 n c n5 c5:Nat}{enc:α→List Value}{enc5:β→List Value}{a a5:Option Addr}{xs:List α}{xs5:List β}{w5 w6:World}{cur:Array Value}(ho:Own T sz enc w a n c xs)(h5:Own T5 sz5 enc5 w a5 n5 c5 xs5)(hT:T≠T5)(F5:Frm (fun k=>obk a5 c5=some k) w w5)(hb:At w b (.cells cur 143 (0,0)))(hT':T≠143)(F6:Frm (fun k=>k=b) w5 w6):Own T sz enc w6 a n c xs:=
 (ho.frm F5 fun k hk=>(by obtain⟨_,hc⟩:=ho.at k hk;exact h5.notP hc hT)).frm F6 fun k hk e=>(by obtain⟨_,hc⟩:=ho.at k hk;exact hc.neT hb (fun e=>hT' (Option.some.inj e)) e)
theorem yB{α:Type}{T sz n2 c2 n c:Nat}{enc:α→List Value}{a a2:Option Addr}{xs xs2:List α}{w5 w6:World}{cur:Array Value}(ho:Own T sz enc w a n c xs)(ho2:Own T sz enc w5 a2 n2 c2 xs2)(hb:At w b (.cells cur 143 (0,0)))(hT':T≠143)(hb5:∀k,obk a2 c2=some k→obk a c=some k∨w.heap.size≤k)(F6:Frm (fun k=>k=b) w5 w6):Own T sz enc w6 a2 n2 c2 xs2:=
 ho2.frm F6 fun k hk e=>by
  subst e;rcases hb5 _ hk with hk | hk
  ·exact ho.notP hb (fun e=>hT' e.symm) hk
  ·have:=hb.lt;omega
structure RStep(s s':RSt)(b:Nat)(w w':World):Prop where
 frm:Frm (fun k=>k=b∨s.own k) w w'
 sub:∀k,s'.own k→s.own k∨w.heap.size≤k
theorem RStep.of_ext(E:Ext w w'):RStep s s b w w':=⟨Ext.frm E,fun _=> .inl⟩
theorem RStep.trans{s1 s2:RSt}{w1 w2:World}(h:RStep s s1 b w w1)(h2:RStep s1 s2 b w1 w2):RStep s s2 b w w2:=
 ⟨h.frm.trans h2.frm fun k hk hs=>hs.imp id fun ho=>(h.sub k ho).resolve_right (by omega),fun k hk=>(h2.sub k hk).elim (h.sub k) fun h'=> .inr (Nat.le_trans h.frm.size h')⟩
structure RNew(w0:World)(b:Nat)(s:RSt):Prop where
 b:w0.heap.size≤b
 own:∀k,s.own k→w0.heap.size≤k
theorem RStep.ext{s1:RSt}{w0 w1:World}(h:RStep s s1 b w w1)(hN:RNew w0 b s)(E:Ext w0 w):Ext w0 w1:=Frm.trans E h.frm fun k hk hs=>hs.elim (fun e=>by have:=hN.b;omega) fun ho=>by have:=hN.own k ho;omega
theorem RStep.new{s1:RSt}{w0 w1:World}(h:RStep s s1 b w w1)(hN:RNew w0 b s)(E:Ext w0 w):RNew w0 b s1:=⟨hN.b,fun k hk=>(h.sub k hk).elim (hN.own k) fun h'=>Nat.le_trans E.size h'⟩
theorem aEI{w5 w6:World}(hl:RLed w b s us vals ts M){a2:Option Addr}{n2 c2:Nat}{xs:List TPosting}(ho:Own 42 9 TPosting.enc w5 a2 n2 c2 xs)(F5:Frm (fun k=>obk s.ma s.mc=some k) w w5)(hb5:∀k,obk a2 c2=some k→obk s.ma s.mc=some k∨w.heap.size≤k)
 (hat6:At w6 b (.cells ({s with ma:=a2,mn:=n2,mc:=c2}:RSt).enc.toArray 143 (0,0))) (F6:Frm (fun k=>k=b) w5 w6):
 RLed w6 b {s with ma:=a2,mn:=n2,mc:=c2} us vals ts {M with postings:=xs}∧RStep s {s with ma:=a2,mn:=n2,mc:=c2} b w w6:=by
 refine⟨⟨hat6,hl.day,lI hl.units hl.moves (by decide) F5 hl.blk (by decide) F6,lI hl.vals hl.moves (by decide) F5 hl.blk (by decide) F6,lI hl.terms hl.moves (by decide) F5 hl.blk (by decide) F6,lI hl.lots hl.moves (by decide) F5 hl.blk (by decide) F6,yB hl.moves ho hl.blk (by decide) hb5 F6⟩,(F5.mono fun k _ hk=> .inr (.inr (.inr (.inr (.inr hk))))).trans F6 fun k _ e=> .inl e,?_⟩;rintro k (hk | hk | hk | hk | hk)
 ·exact .inl (.inl hk)
 ·exact .inl (.inr (.inl hk))
 ·exact .inl (.inr (.inr (.inl hk)))
 ·exact .inl (.inr (.inr (.inr (.inl hk))))
 ·exact(hb5 k hk).imp (fun hk=> .inr (.inr (.inr (.inr hk)))) id
theorem aFM{w5 w6:World}(hl:RLed w b s us vals ts M){a2:Option Addr}{n2 c2:Nat}{xs:List TLot}(ho:Own 45 10 TLot.enc w5 a2 n2 c2 xs)(F5:Frm (fun k=>obk s.la s.lc=some k) w w5)(hb5:∀k,obk a2 c2=some k→obk s.la s.lc=some k∨w.heap.size≤k)
 (hat6:At w6 b (.cells ({s with la:=a2,ln:=n2,lc:=c2}:RSt).enc.toArray 143 (0,0))) (F6:Frm (fun k=>k=b) w5 w6):
 RLed w6 b {s with la:=a2,ln:=n2,lc:=c2} us vals ts {M with lots:=xs}∧RStep s {s with la:=a2,ln:=n2,lc:=c2} b w w6:=by
 refine⟨⟨hat6,hl.day,lI hl.units hl.lots (by decide) F5 hl.blk (by decide) F6,lI hl.vals hl.lots (by decide) F5 hl.blk (by decide) F6,lI hl.terms hl.lots (by decide) F5 hl.blk (by decide) F6,yB hl.lots ho hl.blk (by decide) hb5 F6,lI hl.moves hl.lots (by decide) F5 hl.blk (by decide) F6⟩,(F5.mono fun k _ hk=> .inr (.inr (.inr (.inr (.inl hk))))).trans F6 fun k _ e=> .inl e,?_⟩;rintro k (hk | hk | hk | hk | hk)
 ·exact .inl (.inl hk)
 ·exact .inl (.inr (.inl hk))
 ·exact .inl (.inr (.inr (.inl hk)))
 ·exact(hb5 k hk).imp (fun hk=> .inr (.inr (.inr (.inl hk)))) id
 ·exact .inl (.inr (.inr (.inr (.inr hk))))
theorem aE8(hl:RLed w b s us vals ts M){xs:List TLot}(ho:Own 45 10 TLot.enc w' s.la s.ln s.lc xs)(F:Frm (fun k=>obk s.la s.lc=some k) w w'):RLed w' b s us vals ts {M with lots:=xs}∧RStep s s b w w':=
 ⟨⟨hl.blk.frm F (hl.lots.notP hl.blk (by decide)),hl.day,hl.units.frm F fun k hk=>(by obtain⟨_,hc⟩:=hl.units.at k hk;exact hl.lots.notP hc (by decide)),hl.vals.frm F fun k hk=>(by obtain⟨_,hc⟩:=hl.vals.at k hk;exact hl.lots.notP hc (by decide)),hl.terms.frm F fun k hk=>(by obtain⟨_,hc⟩:=hl.terms.at k hk;exact hl.lots.notP hc (by decide)),ho,hl.moves.frm F fun k hk=>(by obtain⟨_,hc⟩:=hl.moves.at k hk;exact hl.lots.notP hc (by decide))⟩,F.mono fun k _ hk=> .inr (.inr (.inr (.inr (.inl hk)))),fun _=> .inl⟩
theorem pS(h:RLed w b s us vals ts M){i j:Nat}{x:TLot}(x':TLot)(hx:M.lots[i]? =some x){vs:List Value}(hj:j+vs.length≤10)
 (hv:∀r,r<10→(TLot.enc x')[r]? =if j≤r∧r<j+vs.length then vs[r-j]? else(TLot.enc x)[r]?) {a0:Addr} (ha:s.la=some a0) {K:World→Prop}
 (hk:∀w',RLed w' b s us vals ts (M.setLot i x')→RStep s s b w w'→K w'):St w ((a0.add (i*10)).add j) vs K:=
 aAs iQ h.lots x' hx hj hv ha fun w' ho F=>hk w' (aE8 h ho F).1 (aE8 h ho F).2
theorem aEA{x:TLot}{r:Int}:∀k,k<10→(TLot.enc {x with State:=r})[k]? =if 8≤k∧k<8+[vu r].length then [vu r][k-8]? else(TLot.enc x)[k]?
 | 0,_ | 1,_ | 2,_ | 3,_ | 4,_ | 5,_ | 6,_ | 7,_ | 8,_ | 9,_=>rfl
theorem aFm{x:TLot}{r:Int}:∀k,k<10→(TLot.enc {x with Left:=r})[k]? =if 7≤k∧k<7+[vi r].length then [vi r][k-7]? else(TLot.enc x)[k]?
 | 0,_ | 1,_ | 2,_ | 3,_ | 4,_ | 5,_ | 6,_ | 7,_ | 8,_ | 9,_=>rfl
theorem sW{id:Int}{Q:TAccount→World→Prop}(hQ:∀w',Ext w w'→Q ⟨2,id⟩ w'):Cl Pg 163 #[vi id] w (fun v w'=>∃r,v=vg (TAccount.enc r)∧Q r w'):=
 tC.ok (bW (er w) fun b1 w1 hb1 hat1 E1 _ _=>lW E1 hat1 hb1 fun w2 _ E2 _=>hQ w2 E2)
theorem uN(h:RLed w b s us vals ts M)(hl:M.postings.length≤1000000){day:Int}{name:ByteArray}{n:Int}{f t:TAccount}{why lot:Int}{Q:World→Prop}
 (hQ:∀w' s',RLed w' b s' us vals ts (M.post ⟨day,name,n,f.Kind,f.Id,t.Kind,t.Id,why,lot⟩)→s'.la=s.la∧s'.ln=s.ln∧s'.lc=s.lc→RStep s s' b w w'→Q w'):
 Cl Pg 165 #[vP (some ⟨b,0,none⟩),vi day,vs name,vi n,vg (TAccount.enc f),vg (TAccount.enc t),vu why,vi lot] w (fun v w'=>v= .tuple #[]∧Q w'):=by
 refine pH.ok (from_:=f) (to_:=t) ?_;refine bW (er w) fun b1 w1 _ _ E _ _=>bW E fun b2 w2 _ _ E _ _=>iS E fun w3 E _=>⟨_,rfl,_,_,_,(h.ext E).cells.at 5 rfl,bW E fun b3 w4 hb3 hat E E4 hn4=>?_⟩;have h4:=h.ext E;have hx:=Rd.one (enc:=TPosting.enc) (sz:=9) ⟨day,name,n,f.Kind,f.Id,t.Kind,t.Id,why,lot⟩ hat;have hl4:=h4.moves;refine jT ap22 m0 (fun x=>iN rfl) hl4 hx (by have:=hl4.1;omega) (by have:=hl4.1;simp only[maxLen];omega) fun a2 c2 w5 ho F5 hb5=>⟨_,rfl,?_⟩
 refine nC (h4.blk.frm F5 (hl4.notP h4.blk (by decide))) (by simp[RSt.enc]) fun w6 hat6 F6=>?_;obtain⟨h6,s6⟩:=aEI h4 ho F5 hb5 hat6 F6;exact hQ _ _ h6 ⟨rfl,rfl,rfl⟩ ((RStep.of_ext E).trans s6)
theorem aBA(h:RLed w b s us vals ts M)(hn:M.postings.length≤1000000)(hI:IdOk M){i:Nat}{x:TLot}(hx:M.lots[i]? =some x){day:Int}{Q:World→Prop}
 (hQ:∀w' s',RLed w' b s' us vals ts (M.forfeit x.Id day)→RStep s s' b w w'→Q w'):
 Cl Pg 186 #[vP (some ⟨b,0,none⟩),vi (i:Nat),vi day] w (fun v w'=>v= .tuple #[]∧Q w'):=by
 have hil:=(List.getElem?_eq_some_iff.1 hx).1;have hid:=hI i x hx;refine nK.ok ⟨_,rfl,_,_,_,h.cells.at 4 rfl,(h.lots.rd iQ).ix (by omega) (by have:=h.lots.1;omega) fun a0 y ha hy hc=>⟨y,hc,bW (er w) fun b1 w1 hb1 hat1 E1 _ _=>lW E1 hat1 hb1 fun w2 hat2 E2 _=>iS E2 fun w3 E3 e3=>sW fun w4 e4=>⟨e4.blk _ (hat2.ext e3).lt id,?_⟩⟩⟩;rw[Int.toNat_natCast,hx]at hy;cases hy;have h4:=h.ext (E3.ext e4)
 refine uN (f:=⟨2,x.Thing⟩) (t:=⟨4,0⟩) h4 hn fun w5 s5 h5 ⟨q1,q2,q3⟩ f5=>⟨_,rfl,_,_,_,h5.cells.at 4 rfl,(h5.lots.rd iQ).ix (by omega) (by rw[q2];have:=h.lots.1;omega) fun a1 y ha1 hy hc1=>?_⟩;rw[Int.toNat_natCast];refine pS h5 {x with State:=3} hx (by decide) aEA ha1 fun w6 h6 f6=>?_;have hm:M.forfeit x.Id day=(M.post ⟨day,x.Unit,x.Left,2,x.Thing,4,0,3,x.Id⟩).setLot i {x with State:=3}:=by
  unfold MState.forfeit;rw[show(x.Id-1).toNat=i by omega,hx]
 exact hQ _ s5 (by rw[hm];exact h6) ((RStep.of_ext (E3.ext e4)).trans (f5.trans f6))
def IsFirst(p:TLot→Bool)(l:List TLot)(r:Int):Prop:=
 (r= -1∧∀x∈l,p x=false)∨∃(i:Nat) (x:TLot),r=i∧l[i]? =some x∧p x=true∧∀(j:Nat) (y:TLot),l[j]? =some y→p y=true→x.Due<y.Due∨x.Due=y.Due∧i≤j
theorem IsFirst.nil(p:TLot→Bool):IsFirst p [] (-1):= .inl ⟨rfl,fun _ h=>by cases h⟩
theorem tT{α:Type}{l:List α}{x y:α}{j:Nat}(h:(l++[x])[j]? =some y):l[j]? =some y∨j=l.length∧y=x:=by
 rw[List.getElem?_append]at h;split at h
 ·exact .inl h
 ·rename_i hj;cases e:j-l.length with
  | zero=>rw[e]at h;simp at h;exact .inr ⟨by omega,h.symm⟩
  | succ k=>rw[e]at h;simp at h
theorem IsFirst.skip{p:TLot→Bool}{l:List TLot}{r:Int}{x:TLot}(h:IsFirst p l r)(hp:p x=false):IsFirst p (l++[x]) r:=by
 rcases h with⟨h1,h2⟩ | ⟨i,y,h1,h2,h3,h4⟩
 ·refine .inl ⟨h1,fun y hy=>?_⟩;rcases List.mem_append.1 hy with hy | hy
  ·exact h2 y hy
  ·rw[List.mem_singleton.1 hy];exact hp
 ·refine .inr ⟨i,y,h1,by rw[List.getElem?_append_left (List.getElem?_eq_some_iff.1 h2).1];exact h2,h3,fun j z hz hpz=>?_⟩;rcases tT hz with hz | ⟨_,rfl⟩
  ·exact h4 j z hz hpz
  ·rw[hp]at hpz;cases hpz
theorem IsFirst.take{p:TLot→Bool}{l:List TLot}{r:Int}{x:TLot}(h:IsFirst p l r)(hp:p x=true)(hr:r<0∨∃(i:Nat) (y:TLot),r=i∧l[i]? =some y∧x.Due<y.Due):IsFirst p (l++[x]) (l.length:Nat):=by
 refine .inr ⟨l.length,x,rfl,by simp,hp,fun j z hz hpz=>?_⟩;rcases tT hz with hz | ⟨hj,rfl⟩
 ·rcases h with⟨h1,h2⟩ | ⟨i,y,h1,h2,h3,h4⟩
  ·rw[h2 z (List.mem_of_getElem? hz)]at hpz;cases hpz
  ·rcases hr with hr | ⟨i',y',e,hy',hd⟩
   ·omega
   ·obtain rfl:i=i':=by omega
    rw[h2]at hy';cases hy';have:=h4 j z hz hpz;left;omega
 ·exact .inr ⟨rfl,by omega⟩
theorem IsFirst.stay{p:TLot→Bool}{l:List TLot}{r:Int}{x y:TLot}{i:Nat}(h:IsFirst p l r)(e:r=i)(hy:l[i]? =some y)(hd:¬x.Due<y.Due):IsFirst p (l++[x]) r:=by
 rcases h with⟨h1,h2⟩ | ⟨i',y',h1,h2,h3,h4⟩
 ·omega
 ·obtain rfl:i'=i:=by omega
  have hyy:y=y':=Option.some.inj (hy.symm.trans h2);subst hyy;refine .inr ⟨i',y,h1,by rw[List.getElem?_append_left (List.getElem?_eq_some_iff.1 h2).1];exact h2,h3,fun j z hz hpz=>?_⟩;rcases tT hz with hz | ⟨hj,rfl⟩
  ·exact h4 j z hz hpz
  ·have:=(List.getElem?_eq_some_iff.1 h2).1;omega
theorem mD{α:Type}{l:List α}{i:Nat}{x:α}(h:l[i]? =some x):l.take (i+1)=l.take i++[x]:=by rw[List.take_succ,h];rfl
theorem nG{i:Nat}(h:i≤1000000):IntKind.wrap .i64 (((i:Nat):Int)+1)=((i+1:Nat):Int):=by rw[bQ (by omega) (by omega)];omega
theorem rR(h:RLed w b s us vals ts M)(hn:M.lots.length≤1000000){day:Int}{Q:Int→World→Prop}(hQ:∀r w',IsFirst (oC day) M.lots r→Ext w w'→Q r w'):
 Cl Pg 120 #[vP (some ⟨b,0,none⟩),vi day] w (fun v w'=>∃r,v=vi r∧Q r w'):=by
 have hl:=h.lots.1;refine bE.ok ⟨s.ln+1,?_⟩;have key:∀m i w' r,i+m=s.ln→Ext w w'→IsFirst (oC day) (M.lots.take i) r→bE.l1 Q (some ⟨b,0,none⟩) day (m+1) r (i:Nat) w':=by
  intro m;induction m with
  | zero=>
   intro i w' r hi E hr;unfold bE.l1;rw[List.take_of_length_le (by omega)]at hr;exact⟨_,rfl,_,_,_,(h.ext E).cells.at 4 rfl,dK (by omega) (hQ r w' hr E)⟩
  | succ m ih=>
   intro i w' r hi E hr;unfold bE.l1;refine⟨_,rfl,_,_,_,(h.ext E).cells.at 4 rfl,dQ (by omega) ⟨_,rfl,_,_,_,(h.ext E).cells.at 4 rfl,((h.ext E).lots.rd iQ).ix (by omega) (by omega) fun a0 x ha hx hc=>⟨x,hc,bW E fun b1 w2 hb1 hat1 E2 e2 _=>lW E2 hat1 hb1 fun w3 _ E3 _=>iS E3 fun w5 E5 _=>?_⟩⟩⟩;rw[Int.toNat_natCast]at hx;have ht:=mD hx;have hln:(M.lots.take i).length=i:=by rw[List.length_take];omega
   have j1f:IsFirst (oC day) (M.lots.take (i+1)) r→bE.j1 Q r (i:Nat) (bE.l1 Q (some ⟨b,0,none⟩) day (m+1)) false w5:=fun hf=>by
    unfold bE.j1;refine jJ ?_;rw[nG (by omega)];exact ih (i+1) w5 r (by omega) E5 hf
   have j1t:IsFirst (oC day) (M.lots.take (i+1)) (i:Nat)→bE.j1 Q r (i:Nat) (bE.l1 Q (some ⟨b,0,none⟩) day (m+1)) true w5:=fun hf=>by
    unfold bE.j1;refine jM ?_;rw[nG (by omega)];exact ih (i+1) w5 _ (by omega) E5 hf
   rw[ht]at j1f j1t;refine ifb ?_;split
   ·rename_i c1;refine ifb ?_;split
    ·rename_i c2;have hp:oC day x=true:=by unfold oC;rw[c1,c2];rfl
     refine ifb ?_;split
     ·rename_i c3;have:=hr.take hp (.inl (of_decide_eq_true c3));rw[hln]at this;exact j1t this
     ·rename_i c3;have c3:¬r<0:=by simpa using c3
      rcases id hr with⟨h1,_⟩ | ⟨k,y,h1,h2,h3,h4⟩
      ·omega
      subst h1;have hk:M.lots[k]? =some y:=by
       rw[List.getElem?_take]at h2;split at h2
       ·exact h2
       ·cases h2
      have hkl:=(List.getElem?_eq_some_iff.1 hk).1;refine⟨_,rfl,_,_,_,(h.ext E5).cells.at 4 rfl,((h.ext E5).lots.rd iQ).ix (by omega) (by omega) fun a1 y' ha1 hy' hc1=>⟨_,hc1.at 4 rfl,?_⟩⟩;rw[Int.toNat_natCast,hk]at hy';cases hy';by_cases hd:x.Due<y.Due
      ·rw[decide_eq_true hd];have:=hr.take hp (.inr ⟨k,y,rfl,h2,hd⟩);rw[hln]at this;exact j1t this
      ·rw[decide_eq_false hd];exact j1f (hr.stay rfl h2 hd)
    ·rename_i c2;exact j1f (hr.skip (by unfold oC;rw[show decide (x.Due≤day)=false by simpa using c2];simp))
   ·rename_i c1;exact j1f (hr.skip (by unfold oC;rw[show(x.State==1)=false by simpa using c1];rfl))
 exact key s.ln 0 w (-1) (by omega) (er w) (by simpa using IsFirst.nil _)
end
theorem uY{p:TLot→Bool}{x':TLot}(hp':p x'=false):∀(l:List TLot) (i:Nat) (x:TLot),l[i]? =some x→p x=true→(x::(l.set i x').filter p).Perm (l.filter p)
 |[],_,_,h,_=>by simp at h
 | y::l,0,x,h,hp=>by
  simp at h;subst h;simp[List.filter_cons,hp,hp']
 | y::l,i+1,x,h,hp=>by
  have ih:=uY hp' l i x (by simpa using h) hp;rw[List.set_cons_succ,List.filter_cons,List.filter_cons];split
  ·exact(List.Perm.swap y x _).trans (ih.cons y)
  ·exact ih
theorem IsFirst.head{p:TLot→Bool}{M:MState}(hI:IdOk M){r:Int}(h:IsFirst p M.lots r):(r= -1∧M.lots.filter p=[])∨∃(i:Nat) (x:TLot),r=i∧M.lots[i]? =some x∧p x=true∧∀x',p x'=false→x'.Id=x.Id→isort fR (M.lots.filter p)=x::isort fR ((M.lots.set i x').filter p):=by
 rcases h with⟨h1,h2⟩ | ⟨i,x,h1,h2,h3,h4⟩
 ·exact .inl ⟨h1,List.filter_eq_nil_iff.2 fun x hx=>by rw[h2 x hx];simp⟩
 ·refine .inr ⟨i,x,h1,h2,h3,fun x' hp' he=>?_⟩;have hp:=uY hp' M.lots i x h2 h3;symm;refine lN swoLot (((dI _).cons x).trans hp) (List.pairwise_cons.2 ⟨fun y hy=>?_,lZ swoLot _⟩) fun y hy z hz h1 h2=>?_
  ·have hy:=hp.mem_iff.1 (List.mem_cons_of_mem x ((dI _).mem_iff.1 hy));obtain⟨hy,hpy⟩:=List.mem_filter.1 hy;obtain⟨j,hj⟩:=List.getElem?_of_mem hy;have:=h4 j y hj hpy;have:=hI i x h2;have:=hI j y hj;rw[qR];omega
  ·rw[qR]at h1 h2;exact hI.inj y (List.mem_filter.1 hy).1 z (List.mem_filter.1 hz).1 (by omega)
theorem tK{M:MState}(hI:IdOk M){day:Int}{r:Int}(h:IsFirst (oC day) M.lots r):(r= -1∧M.due day=[])∨∃(i:Nat) (x:TLot),r=i∧M.lots[i]? =some x∧∀d,M.due day=x::(M.forfeit x.Id d).due day:=by
 rcases h.head hI with⟨h1,h2⟩ | ⟨i,x,h1,h2,h3,h4⟩
 ·exact .inl ⟨h1,by unfold MState.due;rw[h2];rfl⟩
 ·refine .inr ⟨i,x,h1,h2,fun d=>?_⟩;unfold MState.due MState.forfeit;rw[hI i x h2,show((i:Int)+1-1).toNat=i by omega,h2];exact h4 {x with State:=3} rfl rfl
section
variable {w w' : World} {b : Nat} {s : RSt} {us : List RUnit} {vals : List RVal} {ts : List TTerm} {M : MState}
theorem aBE(h:RLed w b s us vals ts M)(hS:Small M)(hI:IdOk M){day:Int}{Q:Int→World→Prop}
 (hQ:∀w' s',RLed w' b s' us vals ts (M.advance day)→RStep s s' b w w'→Q (M.due day).length w'):
 Cl Pg 185 #[vP (some ⟨b,0,none⟩),vi day] w (fun v w'=>∃r,v=vi r∧Q r w'):=by
 have hl:=hS.lots;have hdl:(M.due day).length≤100000:=by rw[M.due_len];exact Nat.le_trans (List.length_filter_le _ _) hl
 refine fM.ok (rR h (by omega) fun r w1 hr E1=>⟨(M.due day).length+1,?_⟩);have key:∀m i w' s' M' r,i+m=(M.due day).length→RLed w' b s' us vals ts M'→RStep s s' b w w'→IsFirst (oC day) M'.lots r→IdOk M'→M'.lots.length=M.lots.length→M'.postings.length=M.postings.length+i→(M'.due day).length=m→M'.forfeits ((M'.due day).map fun x=>(x.Id,x.Due))=M.forfeits ((M.due day).map fun x=>(x.Id,x.Due))→
  fM.l1 Q (some ⟨b,0,none⟩) day (m+1) (i:Nat) r w':=by
  intro m;induction m with
  | zero=>
   intro i w' s' M' r hi h' st hr hI' hlen hpl hm he;unfold fM.l1;have h0:M'.due day=[]:=List.eq_nil_of_length_eq_zero hm;rcases tK hI' hr with⟨h1,_⟩ | ⟨k,x,h1,h2,h3⟩
   ·rw[h0]at he;have he:M'=M.forfeits ((M.due day).map fun x=>(x.Id,x.Due)):=he;refine dK (by omega) ⟨_,rfl,?_⟩;refine nC h'.blk (by simp[RSt.enc]) fun w6 hat6 F6=>?_;have hi:i=(M.due day).length:=by omega
    rw[hi];have ho:∀k,s'.own k→¬k=b:=fun k hk e=>by subst e;exact h'.ne hk
    refine hQ w6 {s' with day:=day} ⟨hat6,rfl,h'.units.frm F6 fun k hk=>ho k (.inl hk),h'.vals.frm F6 fun k hk=>ho k (.inr (.inl hk)),h'.terms.frm F6 fun k hk=>ho k (.inr (.inr (.inl hk))),?_,?_⟩ (st.trans ⟨F6.mono fun k _ e=> .inl e,fun k hk=> .inl hk⟩)
    ·show Own 45 10 TLot.enc w6 s'.la s'.ln s'.lc (M.forfeits ((M.due day).map fun x=>(x.Id,x.Due))).lots;rw[←he];exact h'.lots.frm F6 fun k hk=>ho k (.inr (.inr (.inr (.inl hk))))
    ·show Own 42 9 TPosting.enc w6 s'.ma s'.mn s'.mc (M.forfeits ((M.due day).map fun x=>(x.Id,x.Due))).postings;rw[←he];exact h'.moves.frm F6 fun k hk=>ho k (.inr (.inr (.inr (.inr hk))))
   ·rw[h3 0]at h0;cases h0
  | succ m ih=>
   intro i w' s' M' r hi h' st hr hI' hlen hpl hm he;unfold fM.l1;rcases tK hI' hr with⟨_,h1⟩ | ⟨k,x,h1,h2,h3⟩
   ·rw[h1]at hm;simp at hm
   subst h1;have hk:=(List.getElem?_eq_some_iff.1 h2).1;refine dQ (by omega) ⟨_,rfl,_,_,_,h'.cells.at 4 rfl,(h'.lots.rd iQ).ix (by omega) (by have:=h'.lots.1;omega) fun a0 y ha hy hc=>⟨_,hc.at 4 rfl,?_⟩⟩;rw[Int.toNat_natCast,h2]at hy;cases hy;have hps:=hS.postings;have h3:=h3 x.Due;have hkp:=uS M' x.Id x.Due;have hfp:(M'.forfeit x.Id x.Due).postings.length=M'.postings.length+1:=by
    unfold MState.forfeit;rw[hI' k x h2,show((k:Int)+1-1).toNat=k by omega,h2];simp[MState.setLot,MState.post]
   refine aBA h' (by omega) hI' h2 fun w3 s3 hr3 st3=>rR hr3 (by rw[hkp.lots];omega) fun r4 w4 hr4 e4=>?_;rw[nG (by omega)];refine ih (i+1) w4 s3 _ r4 (by omega) (hr3.ext e4) (st.trans (st3.trans (.of_ext e4))) hr4 (hkp.ids hI') (by rw[hkp.lots,hlen]) (by omega) ?_ ?_
   ·rw[h3]at hm;simpa using hm
   ·rw[←he,h3];rfl
 exact key _ 0 w1 s M r (by omega) (h.ext E1) (.of_ext E1) hr hI rfl rfl rfl rfl
theorem aAz(h:RLed w b s us vals ts M)(hF:M.lots.length≤100000)(hP:M.postings.length≤200000)(hI:IdOk M){Q:World→Prop}
 (hQ:∀w' s',RLed w' b s' us vals ts M.late→RStep s s' b w w'→Q w'):
 Cl Pg 170 #[vP (some ⟨b,0,none⟩)] w (fun v w'=>v= .tuple #[]∧Q w'):=by
 have hdl:(M.due M.day).length≤100000:=by rw[M.due_len];exact Nat.le_trans (List.length_filter_le _ _) hF
 have hc0:∀{w':World} {s':RSt} {M':MState},RLed w' b s' us vals ts M'→w'.cell? ⟨b,0,none⟩=some (vi M'.day):=fun h'=>by
  have:=h'.cells.at 0 rfl;rw[h'.day]at this;exact this
 refine fL.ok ⟨_,rfl,_,hc0 h,rR h (by omega) fun r w1 hr E1=>⟨(M.due M.day).length+1,?_⟩⟩;have key:∀m i w' s' M' r,i+m=(M.due M.day).length→RLed w' b s' us vals ts M'→RStep s s' b w w'→M'.day=M.day→IsFirst (oC M.day) M'.lots r→IdOk M'→M'.lots.length=M.lots.length→M'.postings.length=M.postings.length+i→(M'.due M.day).length=m→M'.forfeits ((M'.due M.day).map fun x=>(x.Id,M.day))=M.late→
  fL.l1 Q (some ⟨b,0,none⟩) (m+1) r w':=by
  intro m;induction m with
  | zero=>
   intro i w' s' M' r hi h' st hd hr hI' hlen hpl hm he;unfold fL.l1;have h0:M'.due M.day=[]:=List.eq_nil_of_length_eq_zero hm;rcases tK hI' hr with⟨h1,_⟩ | ⟨k,x,h1,h2,h3⟩
   ·rw[h0]at he;have he:M'=M.late:=he;refine dK (by omega) (hQ w' s' (by rw[←he];exact h') st)
   ·rw[h3 0]at h0;cases h0
  | succ m ih=>
   intro i w' s' M' r hi h' st hd hr hI' hlen hpl hm he;unfold fL.l1;rcases tK hI' hr with⟨_,h1⟩ | ⟨k,x,h1,h2,h3⟩
   ·rw[h1]at hm;simp at hm
   subst h1;have hk:=(List.getElem?_eq_some_iff.1 h2).1;refine dQ (by omega) ⟨_,rfl,_,hc0 h',?_⟩;rw[hd];have h3:=h3 M.day;have hkp:=uS M' x.Id M.day;have hfp:(M'.forfeit x.Id M.day).postings.length=M'.postings.length+1:=by
    unfold MState.forfeit;rw[hI' k x h2,show((k:Int)+1-1).toNat=k by omega,h2];simp[MState.setLot,MState.post]
   refine aBA h' (by omega) hI' h2 fun w3 s3 hr3 st3=>⟨_,rfl,_,hc0 hr3,?_⟩;rw[hkp.day,hd];refine rR hr3 (by rw[hkp.lots];omega) fun r4 w4 hr4 e4=>?_;refine ih (i+1) w4 s3 _ r4 (by omega) (hr3.ext e4) (st.trans (st3.trans (.of_ext e4))) (by rw[hkp.day,hd]) hr4 (hkp.ids hI') (by rw[hkp.lots,hlen]) (by omega) ?_ ?_
   ·rw[h3]at hm;simpa using hm
   ·rw[←he,h3];rfl
 exact key _ 0 w1 s M r (by omega) (h.ext E1) (.of_ext E1) rfl hr hI rfl rfl rfl rfl
end
end Go.Proofs.YtcbijkakoepglaaGreat
namespace Go.Wx
open Go
def aBJ(n:Nat)(ops:Array Oper)(ds:List Nat):Bool:=
 Nat.beq ops.size ds.length&&(decide ds.Nodup&&(List.range ops.size).all fun j=>match ops[j]? with
  | none=>true
  | some o=>o.guard.isNone&&(decide (o.dst=ds[j]?)&&(iW n o.dst&&o.after.all fun e=> !Region.binds .any e||Nat.blt e.on j)))
theorem aCN{α:Type}{p q:α→Bool}:∀(l:List α),(∀x∈l,p x=true→q x=true)→l.countP p≤l.countP q
 |[],_=>Nat.le_refl _
 | x::l,h=>by
  have ih:=aCN l fun y hy=>h y (List.mem_cons_of_mem _ hy);have hx:=h x List.mem_cons_self;rw[List.countP_cons,List.countP_cons];cases hp:p x with
  | true=>rw[hx hp];simp;exact ih
  | false=>simp;omega
theorem aCM{α:Type}{p q:α→Bool}:∀(l:List α),(∀x∈l,p x=true→q x=true)→∀x∈l,p x=false→q x=true→l.countP p<l.countP q
 |[],_,x,hx,_,_=>by cases hx
 | y::l,h,x,hx,hp,hq=>by
  rw[List.countP_cons,List.countP_cons];have hl:=fun z hz=>h z (List.mem_cons_of_mem _ hz);rcases List.mem_cons.1 hx with rfl | hx
  ·have:=aCN l hl;rw[hp,hq];simp;omega
  ·have:=aCM l hl x hx hp hq;have hy:=h y List.mem_cons_self;cases hp':p y with
   | true=>rw[hy hp'];simp;exact this
   | false=>simp;omega
section
variable {P : Program} {n : Nat} {ops : Array Oper} {ds : List Nat} {I : Nat → Value → World → Prop} {K : Env → World → Prop} {e0 : Env} {w0 : World}
structure Inv(ops:Array Oper)(ds:List Nat)(I:Nat→Value→World→Prop)(e0:Env)(w0:World)(listed:Array Bool)(e:Env)(w:World):Prop where
 size:listed.size=ops.size
 ext:Ext w0 w
 base:∀t,t ∉ ds→e t=e0 t
 inv:∀j d,ds[j]? =some d→listed.getD j false=true→I j (e d) w
theorem aBI(hB:aBJ n ops ds=true):ops.size=ds.length∧ds.Nodup∧∀(j:Nat) (o:Oper),ops[j]? =some o→o.guard=none∧o.dst=ds[j]? ∧iW n o.dst=true∧∀e∈o.after,Region.binds .any e=true→e.on<j:=by
 simp only[aBJ,Bool.and_eq_true,decide_eq_true_eq]at hB;obtain⟨h1,h2,h3⟩:=hB;refine⟨Nat.eq_of_beq_eq_true h1,h2,fun j o ho=>?_⟩;have hj:j<ops.size:=(Array.getElem?_eq_some_iff.1 ho).1;have h4:=List.all_eq_true.1 h3 j (List.mem_range.2 hj);simp only[ho,Bool.and_eq_true,decide_eq_true_eq]at h4;obtain⟨g1,g2,g3,g4⟩:=h4;refine⟨by simpa using g1,g2,g3,fun e he hb=>?_⟩;have g5:=Array.all_eq_true_iff_forall_mem.1 g4 e he;rw[hb]at g5;simpa[Nat.blt_eq]using g5
theorem aE2(hB:aBJ n ops ds=true){listed:Array Bool}(hs:listed.size=ops.size)(hr:Region.ready .any ops listed=[]):∀j,j<ops.size→listed.getD j false=true:=by
 obtain⟨_,_,h3⟩:=aBI hB;intro j;induction j using Nat.strongRecOn with
 | _ j ih=>
  intro hj;obtain⟨_,_,_,g⟩:=h3 j ops[j] (Array.getElem?_eq_getElem hj);cases hl:listed.getD j false with
  | true=>rfl
  | false=>
   have:j∈Region.ready .any ops listed:=mem_ready.2 ⟨by
    have hj':j<listed.size:=by omega
    simp[Array.getD,hj']at hl ⊢;exact hl,ops[j],Array.getElem?_eq_getElem hj,fun e he hb=>ih e.on (g e he hb) (by have:=g e he hb;omega)⟩
   rw[hr]at this;cases this
theorem aFU(hB:aBJ n ops ds=true)(hstab:∀i v w w',I i v w→Ext w w'→I i v w')
 (hstep:∀(j:Nat) (o:Oper),ops[j]? =some o→∀e w,Ext w0 w→(∀t,t ∉ ds→e t=e0 t)→(∀x∈o.after,Region.binds .any x=true→∀d,ds[x.on]? =some d→I x.on (e d) w)→pE P (execOp (evl e) o) w fun v w'=>Ext w w'∧I j v w')
 (hfin:∀e w,Ext w0 w→(∀t,t ∉ ds→e t=e0 t)→(∀j d,ds[j]? =some d→I j (e d) w)→K e w):
 ∀(f:Nat) (listed:Array Bool) (a:Act) (e:Env) (w:World),Rep n a e→Inv ops ds I e0 w0 listed e w→(List.range ops.size).countP (fun j=> !listed.getD j false)≤f→wpAny P .any ops (Qr n K) f listed a w:=by
 obtain⟨h1,h2,h3⟩:=aBI hB;have done:∀listed a e w,Rep n a e→Inv ops ds I e0 w0 listed e w→Region.ready .any ops listed=[]→Qr n K .normal a w:=fun listed a e w ha hi hr=>
  ⟨e,ha,hfin e w hi.ext hi.base fun j d hd=>hi.inv j d hd (aE2 hB hi.size hr j (by have:=(List.getElem?_eq_some_iff.1 hd).1;omega))⟩
 intro f;induction f with
 | zero=>
  intro listed a e w ha hi hf;have hr:Region.ready .any ops listed=[]:=by
   rw[List.eq_nil_iff_forall_not_mem];intro j hj;obtain⟨hj1,o,ho,_⟩:=mem_ready.1 hj;have hjs:j<ops.size:=(Array.getElem?_eq_some_iff.1 ho).1;have:0<(List.range ops.size).countP (fun j=> !listed.getD j false):=List.countP_pos_iff.2 ⟨j,List.mem_range.2 hjs,by
    have hj':j<listed.size:=by have:=hi.size;omega
    simp[Array.getD,hj']at hj1 ⊢;exact hj1⟩
   omega
  exact⟨hr,done listed a e w ha hi hr⟩
 | succ f ih=>
  intro listed a e w ha hi hf;refine⟨fun hr=>done listed a e w ha hi hr,fun j hj=>?_⟩;obtain⟨hj1,o,ho,hall⟩:=mem_ready.1 hj;have hjs:j<ops.size:=(Array.getElem?_eq_some_iff.1 ho).1;have hj':j<listed.size:=by have:=hi.size;omega
  obtain⟨g1,g2,g3,g4⟩:=h3 j o ho;obtain⟨d,hd⟩:∃d,ds[j]? =some d:=⟨_,List.getElem?_eq_getElem (by omega)⟩;rw[hd]at g2;unfold wpOp;simp only[ho,ha.wanted];have hw:bK ops o e=true:=by unfold bK;rw[g1]
  simp only[hw,if_true];refine .inl (aC9 (K:=fun e' w'=>∃v,e'=pute e o.dst v∧Ext w w'∧I j v w') ha g3 ?_ (xK (hstep j o ho e w hi.ext hi.base fun x hx hb d' hd'=>hi.inv x.on d' hd' (hall x hx hb)) fun v w' hv=>⟨v,rfl,hv⟩));rintro a' e' w' hrep ⟨v,rfl,hE,hI⟩;rw[g2]at hrep;have hne:∀i d',ds[i]? =some d'→i≠j→d'≠d:=fun i d' hi' hij e=>by
   subst e;obtain⟨l1,q1⟩:=List.getElem?_eq_some_iff.1 hi';obtain⟨l2,q2⟩:=List.getElem?_eq_some_iff.1 hd;exact hij ((List.getElem_inj h2).1 (q1.trans q2.symm))
  refine ih _ a' _ w' hrep ⟨by rw[Array.size_setIfInBounds];exact hi.size,hi.ext.ext hE,fun t ht=>?_,fun i d' hd' hl=>?_⟩ ?_
  ·show upd e d v t=e0 t;have:t≠d:=fun e=>ht (by rw[e];exact List.mem_of_getElem? hd);unfold upd;rw[aCw this];exact hi.base t ht
  ·show I i (upd e d v d') w';by_cases hij:i=j
   ·subst hij;rw[hd]at hd';cases hd';unfold upd;rw[Nat.beq_refl];exact hI
   ·unfold upd;rw[aCw (hne i d' hd' hij)];rw[getD_set_ne false (fun e=>hij e.symm)]at hl;exact hstab _ _ _ _ (hi.inv i d' hd' hl) hE
  ·have:=aCM (p:=fun k=> !(listed.setIfInBounds j true).getD k false) (q:=fun k=> !listed.getD k false) (List.range ops.size) (fun k _ hk=>by
    by_cases hkj:j=k
    ·subst hkj;simp[Array.getD,hj']at hk
    ·rw[getD_set_ne false hkj]at hk;exact hk) j (List.mem_range.2 hjs) (by simp[Array.getD,hj']) (by
     simp[Array.getD,hj']at hj1 ⊢;exact hj1)
   omega
theorem W_inv{id:Nat}{K':rJ}{e:Env}{w:World}(hm:P.follows .mixedOrders=true)(ds:List Nat)(I:Nat→Value→World→Prop)(hstab:∀i v w w',I i v w→Ext w w'→I i v w')
 (hstep:∀(j:Nat) (o:Oper),ops[j]? =some o→∀e' w',Ext w w'→(∀t,t ∉ ds→e' t=e t)→(∀x∈o.after,Region.binds .any x=true→∀d,ds[x.on]? =some d→I x.on (e' d) w')→pE P (execOp (evl e') o) w' fun v w2=>Ext w' w2∧I j v w2)
 (hfin:∀e' w',Ext w w'→(∀t,t ∉ ds→e' t=e t)→(∀j d,ds[j]? =some d→I j (e' d) w')→K' .normal e' w') (hB:aBJ n ops ds=true:=by kernel_rfl):W P n (.region id ops true) K' e w:=by
 intro a ha;refine wp_mono (wp_region_any hm ?_) (aGd (K:=K' .normal) fun _ _ h=>h);refine aFU (K:=K' .normal) hB hstab hstep hfin ops.size _ a e _ ha ⟨by simp,uD,fun _ _=>rfl,fun j d hd hl=>?_⟩ ?_
 ·rcases Nat.lt_or_ge j ops.size with h | h
  ·simp[Array.getD,h]at hl
  ·simp[Array.getD,h]at hl
 ·exact Nat.le_trans (List.countP_le_length) (by rw[List.length_range];exact Nat.le_refl _)
end
end Go.Wx
namespace Go.Proofs.YtcbijkakoepglaaGreat
open Go Go.Wx
set_option maxRecDepth 100000
def cpSl{α:Type}(T sz:Nat)(enc:α→List Value)(xs:List α)(s0 n:Nat)(v:Value)(w:World):Prop:=∃a c,v=vl a n c∧Own T sz enc w a n c xs∧∀k,obk a c=some k→s0≤k
theorem cpSl.ext{α:Type}{T sz s0 n:Nat}{enc:α→List Value}{xs:List α}{v:Value}{w w':World}(h:cpSl T sz enc xs s0 n v w)(E:Ext w w'):cpSl T sz enc xs s0 n v w':=by
 obtain⟨a,c,h1,h2,h3⟩:=h;exact⟨a,c,h1,h2.ext E,h3⟩
def cpI(s0 b:Nat)(s:RSt)(us:List RUnit)(vals:List RVal)(ts:List TTerm)(M:MState):Nat→Value→World→Prop
 | 0,v,_=>v=vp ⟨b,0,none⟩
 | 1,v,_=>v=vp ⟨b,0,none⟩
 | 2,v,_=>v=vp ⟨b,0,none⟩
 | 3,v,_=>v=vi s.day
 | 4,v,_=>∃a,v=vl a 0 0
 | 5,v,_=>v=vp ⟨b,0,none⟩
 | 6,v,_=>v=vp ⟨b,0,none⟩
 | 7,v,_=>v=vp ⟨b,1,none⟩
 | 8,v,_=>v=vl s.ua s.un s.uc
 | 9,v,w=>cpSl 191 2 RUnit.enc us s0 s.un v w
 | 10,v,_=>∃a,v=vl a 0 0
 | 11,v,_=>v=vp ⟨b,0,none⟩
 | 12,v,_=>v=vp ⟨b,0,none⟩
 | 13,v,_=>v=vp ⟨b,2,none⟩
 | 14,v,_=>v=vl s.va s.vn s.vc
 | 15,v,w=>cpSl 154 3 RVal.enc vals s0 s.vn v w
 | 16,v,_=>∃a,v=vl a 0 0
 | 17,v,_=>v=vp ⟨b,0,none⟩
 | 18,v,_=>v=vp ⟨b,0,none⟩
 | 19,v,_=>v=vp ⟨b,3,none⟩
 | 20,v,_=>v=vl s.ta s.tn s.tc
 | 21,v,w=>cpSl 156 4 TTerm.enc ts s0 s.tn v w
 | 22,v,_=>∃a,v=vl a 0 0
 | 23,v,_=>v=vp ⟨b,0,none⟩
 | 24,v,_=>v=vp ⟨b,0,none⟩
 | 25,v,_=>v=vp ⟨b,4,none⟩
 | 26,v,_=>v=vl s.la s.ln s.lc
 | 27,v,w=>cpSl 45 10 TLot.enc M.lots s0 s.ln v w
 | 28,v,_=>∃a,v=vl a 0 0
 | 29,v,_=>v=vp ⟨b,0,none⟩
 | 30,v,_=>v=vp ⟨b,0,none⟩
 | 31,v,_=>v=vp ⟨b,5,none⟩
 | 32,v,_=>v=vl s.ma s.mn s.mc
 | 33,v,w=>cpSl 42 9 TPosting.enc M.postings s0 s.mn v w
 | 34,v,w=>∃x1 x2 x3 x4 x5,v=vg [vi s.day,x1,x2,x3,x4,x5]∧cpSl 191 2 RUnit.enc us s0 s.un x1 w∧cpSl 154 3 RVal.enc vals s0 s.vn x2 w∧cpSl 156 4 TTerm.enc ts s0 s.tn x3 w∧cpSl 45 10 TLot.enc M.lots s0 s.ln x4 w∧cpSl 42 9 TPosting.enc M.postings s0 s.mn x5 w
 | 35,v,w=>∃b' s',v=vp ⟨b',0,none⟩∧RLed w b' s' us vals ts M∧s0≤b'∧∀k,s'.own k→s0≤k
 | 36,v,w=>∃b' s',v=vp ⟨b',0,none⟩∧RLed w b' s' us vals ts M∧s0≤b'∧∀k,s'.own k→s0≤k
 | _,_,_=>True
theorem aGU{s0 b:Nat}{s:RSt}{us:List RUnit}{vals:List RVal}{ts:List TTerm}{M:MState}:∀(i:Nat) (v:Value) (w w':World),cpI s0 b s us vals ts M i v w→Ext w w'→cpI s0 b s us vals ts M i v w'
 | 9,_,_,_,h,E | 15,_,_,_,h,E | 21,_,_,_,h,E | 27,_,_,_,h,E | 33,_,_,_,h,E=>cpSl.ext h E
 | 34,_,_,_,h,E=>by
  obtain⟨x1,x2,x3,x4,x5,h0,h1,h2,h3,h4,h5⟩:=h;exact⟨x1,x2,x3,x4,x5,h0,h1.ext E,h2.ext E,h3.ext E,h4.ext E,h5.ext E⟩
 | 35,_,_,_,h,E | 36,_,_,_,h,E=>by
  obtain⟨b',s',h0,h1,h2,h3⟩:=h;exact⟨b',s',h0,h1.ext E,h2,h3⟩
 | 0,_,_,_,h,_ | 1,_,_,_,h,_ | 2,_,_,_,h,_ | 3,_,_,_,h,_ | 4,_,_,_,h,_ | 5,_,_,_,h,_ | 6,_,_,_,h,_ | 7,_,_,_,h,_ | 8,_,_,_,h,_ | 10,_,_,_,h,_ | 11,_,_,_,h,_ | 12,_,_,_,h,_ | 13,_,_,_,h,_ | 14,_,_,_,h,_ | 16,_,_,_,h,_ | 17,_,_,_,h,_ | 18,_,_,_,h,_ | 19,_,_,_,h,_ | 20,_,_,_,h,_ | 22,_,_,_,h,_ | 23,_,_,_,h,_ | 24,_,_,_,h,_ | 25,_,_,_,h,_ | 26,_,_,_,h,_ | 28,_,_,_,h,_ | 29,_,_,_,h,_ | 30,_,_,_,h,_ | 31,_,_,_,h,_ | 32,_,_,_,h,_ | (_+37),_,_,_,h,_=>h
theorem at1{e:Env}{t:Nat}{v:Value}(h:e t=v):e=upds e [(t,v)]:=Agree.eq ⟨h,trivial⟩
theorem mN{o:Oper}{e:Env}{t:Nat}{u v:Value}{w:World}{K:Value→World→Prop}(h:e t=u)(hr:(execOp (evl (upds e [(t,u)])) o).run Pg w= .ok (.value v) w)(hK:K v w):pE Pg (execOp (evl e) o) w K:=by
 rw[←at1 h]at hr;exact rO hr hK
theorem wJ{o:Oper}{e:Env}{t x n b i:Nat}{v:Value}{w:World}{K:Value→World→Prop}(ht:tyk Pg t=some (false,n))(ho:o.op= .load t (.tmp x))(hx:e x=vp ⟨b,i,none⟩)(hc:w.cell? ⟨b,i,none⟩=some v)(hK:K v w):pE Pg (execOp (evl e) o) w K:=rO (vV ht ho hx hc) hK
theorem aAt{o:Oper}{e:Env}{T n:Nat}{w:World}{K:Value→World→Prop}(hr:(execOp (evl e) o).run Pg w= .ok (.value (.slice (some ⟨w.heap.size,0,none⟩) n n)) (w.alloc (.cells #[] T)))(hK:K (.slice (some ⟨w.heap.size,0,none⟩) n n) (w.alloc (.cells #[] T))):pE Pg (execOp (evl e) o) w K:=rO hr hK
theorem aAu{α:Type}{T sz by_ t n c s0:Nat}{enc:α→List Value}{xs:List α}{a:Option Addr}{o:Oper}{e:Env}{x y:Nat}{w:World}{K:Value→World→Prop}(hap:apk Pg t=some (T,sz,by_))(he:∀x,(enc x).length=sz)(h1:∀x,∀u∈enc x,u.oneCell'=true)(hby:by_≤100)
 (ho:o.op= .call {callee:= .builtin .append,args:= #[.tmp x,.tmp y],argTypes:= #[t,t]}) (ht:o.type=t) (hx:∃b,e x=vl b 0 0) (hy:e y=vl a n c) (hr:Rd enc sz w a n xs) (hn:n≤1000000) (hs:s0≤w.heap.size)
 (hK:∀v w',Ext w w'→cpSl T sz enc xs s0 n v w'→K v w'):pE Pg (execOp (evl e) o) w K:=by
 obtain⟨b,hx⟩:=hx;have hq:Ap Pg w #[t,t] t (vl b 0 0) (vl a n c) (fun a2 n2 c2 w'=>n2=n∧Ext w w'∧Own T sz enc w' a2 n c2 xs∧∀k,obk a2 c2=some k→s0≤k):=by
  refine jT (c:=0) hap he h1 (xs:=[]) Own.nil' hr ?_ (by simp only[maxLen];omega) fun a2 c2 w2 ho2 F hb2=>⟨by omega,F.mono fun k _ e=>(by cases e),?_,fun k hk=>(hb2 k hk).elim (fun e=>(by cases e)) fun h=>Nat.le_trans hs h⟩
  ·have:((0+n)+(0+n) / 4+192)*by_≤((0+n)+(0+n) / 4+192)*100:=Nat.mul_le_mul_left _ hby
   omega
  ·rw[Nat.zero_add,List.nil_append]at ho2;exact ho2
 obtain⟨a2,n2,c2,w',hap2,rfl,hE,hO,hk⟩:=hq;subst ht;exact rO (yY ho hx hy hap2) (hK _ _ hE ⟨a2,c2,rfl,hO,hk⟩)
theorem aEW{w:World}{b:Nat}{s:RSt}{us:List RUnit}{vals:List RVal}{ts:List TTerm}{M:MState}(h:RLed w b s us vals ts M)(n1:us.length≤1000000)(n2:vals.length≤1000000)(n3:ts.length≤1000000)(n4:M.lots.length≤1000000)(n5:M.postings.length≤1000000){Q:Option Addr→World→Prop}
 (hQ:∀w' b' s',RLed w' b' s' us vals ts M→RNew w b' s'→Ext w w'→Q (some ⟨b',0,none⟩) w'):Cl Pg 119 #[vP (some ⟨b,0,none⟩)] w (fun v w'=>∃r,v=vP r∧Q r w'):=by
 refine aI (args:=[vP (some ⟨b,0,none⟩)]) Tryz.func119 ?_;refine aC ?_;refine ps 1 [(2,vP none)] ?_;refine aD ?_;refine aL ?_;refine W_inv iG [3,4,5,6,7,8,9,10,11,12,13,14,15,16,17,18,19,20,21,22,23,24,25,26,27,28,29,30,31,32,33,34,35,36,37,38,2] (cpI w.heap.size b s us vals ts M) aGU ?_ ?_
 ·intro j o ho e w' E hbase hdep;have hl:=h.ext E;have h0:e 0=vp ⟨b,0,none⟩:=hbase 0 (by decide);have D:∀(k:Nat) (x:Edge) (d:Nat),x∈o.after→x.on=k→Region.binds .any x=true→[3,4,5,6,7,8,9,10,11,12,13,14,15,16,17,18,19,20,21,22,23,24,25,26,27,28,29,30,31,32,33,34,35,36,37,38,2][k]? =some d→cpI w.heap.size b s us vals ts M k (e d) w':=fun k x d hx hk hb hd=>by
   subst hk;exact hdep x hx hb d hd
  match j,ho with
  | 0,ho=>
   cases ho;exact mN (t:=0) (u:=vp ⟨b,0,none⟩) h0 (by kernel_rfl) ⟨er w',rfl⟩
  | 1,ho=>
   cases ho;exact mN (t:=3) (u:=vp ⟨b,0,none⟩) (D 0 ⟨0,.data⟩ 3 (by simp) rfl rfl rfl) (by kernel_rfl) ⟨er w',rfl⟩
  | 2,ho=>
   cases ho;exact mN (t:=4) (u:=vp ⟨b,0,none⟩) (D 1 ⟨1,.data⟩ 4 (by simp) rfl rfl rfl) (by kernel_rfl) ⟨er w',rfl⟩
  | 3,ho=>
   cases ho;exact wJ tk3 rfl (D 2 ⟨2,.data⟩ 5 (by simp) rfl rfl rfl) (hl.cells.at 0 rfl) ⟨er w',rfl⟩
  | 4,ho=>
   cases ho;exact aAt (T:=191) (n:=0) (by kernel_rfl) ⟨nE _,⟨_,rfl⟩⟩
  | 5,ho=>
   cases ho;exact mN (t:=0) (u:=vp ⟨b,0,none⟩) h0 (by kernel_rfl) ⟨er w',rfl⟩
  | 6,ho=>
   cases ho;exact mN (t:=8) (u:=vp ⟨b,0,none⟩) (D 5 ⟨5,.data⟩ 8 (by simp) rfl rfl rfl) (by kernel_rfl) ⟨er w',rfl⟩
  | 7,ho=>
   cases ho;exact mN (t:=9) (u:=vp ⟨b,0,none⟩) (D 6 ⟨6,.data⟩ 9 (by simp) rfl rfl rfl) (by kernel_rfl) ⟨er w',rfl⟩
  | 8,ho=>
   cases ho;exact wJ (show tyk Pg 139=some (false,1) by kernel_rfl) rfl (D 7 ⟨7,.data⟩ 10 (by simp) rfl rfl rfl) (hl.cells.at 1 rfl) ⟨er w',rfl⟩
  | 9,ho=>
   cases ho;exact aAu ap139 aCJ (fun x=>iN rfl) (by decide) rfl rfl (D 4 ⟨4,.data⟩ 7 (by simp) rfl rfl rfl) (D 8 ⟨8,.data⟩ 11 (by simp) rfl rfl rfl) (hl.units.rd aCJ) (by have:=hl.units.1;omega) E.size fun v w2 E2 h2=>⟨E2,h2⟩
  | 10,ho=>
   cases ho;exact aAt (T:=154) (n:=0) (by kernel_rfl) ⟨nE _,⟨_,rfl⟩⟩
  | 11,ho=>
   cases ho;exact mN (t:=0) (u:=vp ⟨b,0,none⟩) h0 (by kernel_rfl) ⟨er w',rfl⟩
  | 12,ho=>
   cases ho;exact mN (t:=14) (u:=vp ⟨b,0,none⟩) (D 11 ⟨11,.data⟩ 14 (by simp) rfl rfl rfl) (by kernel_rfl) ⟨er w',rfl⟩
  | 13,ho=>
   cases ho;exact mN (t:=15) (u:=vp ⟨b,0,none⟩) (D 12 ⟨12,.data⟩ 15 (by simp) rfl rfl rfl) (by kernel_rfl) ⟨er w',rfl⟩
  | 14,ho=>
   cases ho;exact wJ (show tyk Pg 140=some (false,1) by kernel_rfl) rfl (D 13 ⟨13,.data⟩ 16 (by simp) rfl rfl rfl) (hl.cells.at 2 rfl) ⟨er w',rfl⟩
  | 15,ho=>
   cases ho;exact aAu ap140 aCI (fun x=>iN rfl) (by decide) rfl rfl (D 10 ⟨10,.data⟩ 13 (by simp) rfl rfl rfl) (D 14 ⟨14,.data⟩ 17 (by simp) rfl rfl rfl) (hl.vals.rd aCI) (by have:=hl.vals.1;omega) E.size fun v w2 E2 h2=>⟨E2,h2⟩
  | 16,ho=>
   cases ho;exact aAt (T:=156) (n:=0) (by kernel_rfl) ⟨nE _,⟨_,rfl⟩⟩
  | 17,ho=>
   cases ho;exact mN (t:=0) (u:=vp ⟨b,0,none⟩) h0 (by kernel_rfl) ⟨er w',rfl⟩
  | 18,ho=>
   cases ho;exact mN (t:=20) (u:=vp ⟨b,0,none⟩) (D 17 ⟨17,.data⟩ 20 (by simp) rfl rfl rfl) (by kernel_rfl) ⟨er w',rfl⟩
  | 19,ho=>
   cases ho;exact mN (t:=21) (u:=vp ⟨b,0,none⟩) (D 18 ⟨18,.data⟩ 21 (by simp) rfl rfl rfl) (by kernel_rfl) ⟨er w',rfl⟩
  | 20,ho=>
   cases ho;exact wJ (show tyk Pg 141=some (false,1) by kernel_rfl) rfl (D 19 ⟨19,.data⟩ 22 (by simp) rfl rfl rfl) (hl.cells.at 3 rfl) ⟨er w',rfl⟩
  | 21,ho=>
   cases ho;exact aAu ap141 aEo (fun x=>iN rfl) (by decide) rfl rfl (D 16 ⟨16,.data⟩ 19 (by simp) rfl rfl rfl) (D 20 ⟨20,.data⟩ 23 (by simp) rfl rfl rfl) (hl.terms.rd aEo) (by have:=hl.terms.1;omega) E.size fun v w2 E2 h2=>⟨E2,h2⟩
  | 22,ho=>
   cases ho;exact aAt (T:=45) (n:=0) (by kernel_rfl) ⟨nE _,⟨_,rfl⟩⟩
  | 23,ho=>
   cases ho;exact mN (t:=0) (u:=vp ⟨b,0,none⟩) h0 (by kernel_rfl) ⟨er w',rfl⟩
  | 24,ho=>
   cases ho;exact mN (t:=26) (u:=vp ⟨b,0,none⟩) (D 23 ⟨23,.data⟩ 26 (by simp) rfl rfl rfl) (by kernel_rfl) ⟨er w',rfl⟩
  | 25,ho=>
   cases ho;exact mN (t:=27) (u:=vp ⟨b,0,none⟩) (D 24 ⟨24,.data⟩ 27 (by simp) rfl rfl rfl) (by kernel_rfl) ⟨er w',rfl⟩
  | 26,ho=>
   cases ho;exact wJ (show tyk Pg 46=some (false,1) by kernel_rfl) rfl (D 25 ⟨25,.data⟩ 28 (by simp) rfl rfl rfl) (hl.cells.at 4 rfl) ⟨er w',rfl⟩
  | 27,ho=>
   cases ho;exact aAu aBa iQ (fun x=>iN rfl) (by decide) rfl rfl (D 22 ⟨22,.data⟩ 25 (by simp) rfl rfl rfl) (D 26 ⟨26,.data⟩ 29 (by simp) rfl rfl rfl) (hl.lots.rd iQ) (by have:=hl.lots.1;omega) E.size fun v w2 E2 h2=>⟨E2,h2⟩
  | 28,ho=>
   cases ho;exact aAt (T:=42) (n:=0) (by kernel_rfl) ⟨nE _,⟨_,rfl⟩⟩
  | 29,ho=>
   cases ho;exact mN (t:=0) (u:=vp ⟨b,0,none⟩) h0 (by kernel_rfl) ⟨er w',rfl⟩
  | 30,ho=>
   cases ho;exact mN (t:=32) (u:=vp ⟨b,0,none⟩) (D 29 ⟨29,.data⟩ 32 (by simp) rfl rfl rfl) (by kernel_rfl) ⟨er w',rfl⟩
  | 31,ho=>
   cases ho;exact mN (t:=33) (u:=vp ⟨b,0,none⟩) (D 30 ⟨30,.data⟩ 33 (by simp) rfl rfl rfl) (by kernel_rfl) ⟨er w',rfl⟩
  | 32,ho=>
   cases ho;exact wJ (show tyk Pg 22=some (false,1) by kernel_rfl) rfl (D 31 ⟨31,.data⟩ 34 (by simp) rfl rfl rfl) (hl.cells.at 5 rfl) ⟨er w',rfl⟩
  | 33,ho=>
   cases ho;exact aAu ap22 m0 (fun x=>iN rfl) (by decide) rfl rfl (D 28 ⟨28,.data⟩ 31 (by simp) rfl rfl rfl) (D 32 ⟨32,.data⟩ 35 (by simp) rfl rfl rfl) (hl.moves.rd m0) (by have:=hl.moves.1;omega) E.size fun v w2 E2 h2=>⟨E2,h2⟩
  | 34,ho=>
   cases ho;have q0:e 6=vi s.day:=(D 3 ⟨3,.data⟩ 6 (by simp) rfl rfl rfl);obtain⟨a1,c1,q1,o1,k1⟩:=(D 9 ⟨9,.data⟩ 12 (by simp) rfl rfl rfl);obtain⟨a2,c2,q2,o2,k2⟩:=(D 15 ⟨15,.data⟩ 18 (by simp) rfl rfl rfl);obtain⟨a3,c3,q3,o3,k3⟩:=(D 21 ⟨21,.data⟩ 24 (by simp) rfl rfl rfl);obtain⟨a4,c4,q4,o4,k4⟩:=(D 27 ⟨27,.data⟩ 30 (by simp) rfl rfl rfl);obtain⟨a5,c5,q5,o5,k5⟩:=(D 33 ⟨33,.data⟩ 36 (by simp) rfl rfl rfl)
   have he:e=upds e [(6,vi s.day),(12,vl a1 s.un c1),(18,vl a2 s.vn c2),(24,vl a3 s.tn c3),(30,vl a4 s.ln c4),(36,vl a5 s.mn c5)]:=Agree.eq ⟨q0,q1,q2,q3,q4,q5,trivial⟩;rw[he];exact rO (v:=vg [vi s.day,vl a1 s.un c1,vl a2 s.vn c2,vl a3 s.tn c3,vl a4 s.ln c4,vl a5 s.mn c5]) (by kernel_rfl) ⟨er w',_,_,_,_,_,rfl,⟨a1,c1,rfl,o1,k1⟩,⟨a2,c2,rfl,o2,k2⟩,⟨a3,c3,rfl,o3,k3⟩,⟨a4,c4,rfl,o4,k4⟩,⟨a5,c5,rfl,o5,k5⟩⟩
  | 35,ho=>
   cases ho;obtain⟨x1,x2,x3,x4,x5,q0,⟨a1,c1,rfl,o1,k1⟩,⟨a2,c2,rfl,o2,k2⟩,⟨a3,c3,rfl,o3,k3⟩,⟨a4,c4,rfl,o4,k4⟩,⟨a5,c5,rfl,o5,k5⟩⟩:=(D 34 ⟨34,.data⟩ 37 (by simp) rfl rfl rfl);rw[at1 q0];have Ea:Ext w' (w'.alloc (.cells #[vi s.day,vl a1 s.un c1,vl a2 s.vn c2,vl a3 s.tn c3,vl a4 s.ln c4,vl a5 s.mn c5] 143)):=nE _
   refine rO (v:=vp ⟨w'.heap.size,0,none⟩) (w':=w'.alloc (.cells #[vi s.day,vl a1 s.un c1,vl a2 s.vn c2,vl a3 s.tn c3,vl a4 s.ln c4,vl a5 s.mn c5] 143)) (by kernel_rfl) ⟨Ea,w'.heap.size,⟨s.day,a1,s.un,c1,a2,s.vn,c2,a3,s.tn,c3,a4,s.ln,c4,a5,s.mn,c5⟩,rfl,⟨At.new,h.day,o1.ext Ea,o2.ext Ea,o3.ext Ea,o4.ext Ea,o5.ext Ea⟩,E.size,?_⟩;rintro k (hk | hk | hk | hk | hk)
   ·exact k1 k hk
   ·exact k2 k hk
   ·exact k3 k hk
   ·exact k4 k hk
   ·exact k5 k hk
  | 36,ho=>
   cases ho;obtain⟨b',s',q0,q1,q2,q3⟩:=(D 35 ⟨35,.data⟩ 38 (by simp) rfl rfl rfl);exact mN (t:=38) (u:=vp ⟨b',0,none⟩) q0 (by kernel_rfl) ⟨er w',b',s',rfl,q1,q2,q3⟩
  | (j+37),ho=>exact absurd (Array.getElem?_eq_some_iff.1 ho).1 (by simp)
 ·intro e w' E hbase hall;obtain⟨b',s',hv,hl,hb,ho⟩:=hall 36 2 rfl;refine aN ?_;exact ret1 (v:=vp ⟨b',0,none⟩) (t:=2) rfl hv ⟨_,rfl,hQ w' b' s' hl ⟨hb,ho⟩ E⟩
def bA.j3(Q:Option Addr→Nat→Nat→Int→World→Prop)(b1:Nat)(v1:Int)(kl1:Int→World→Prop)(x1:TPosting)(v4:Bool)(w12:World):Prop:=(
 Ifb v4
 (Q none 0 0 62 w12)
 (Dr w12 fun w13=>
 ∃x5,(Instr.lookup 103 (.map (some b1)) (vg [vu x1.To_Kind,vi x1.To_Id,vs x1.Unit]) false).run Pg w13= .ok (vi x5) w13∧
 ∃(x6:Int),∃(x7:Int),∃w14,(Instr.mapEntry 103 (.map (some b1)) (vg [vu x1.To_Kind,vi x1.To_Id,vs x1.Unit])).run Pg w13= .ok (.tuple #[vi x6,vi x7]) w14∧
 (Instr.lookup 103 (.map (some b1)) (vg [vu x1.To_Kind,vi x1.To_Id,vs x1.Unit]) false).run Pg w14= .ok (vi x5) w14∧∃w15,(Instr.entryStore 103 (.map (some b1)) (vi x7) (vi (IntKind.wrap .i64 (x5+x1.N)))).run Pg w14= .ok () w15∧
 kl1 (IntKind.wrap .i64 (v1+1)) w15))
def bA.j2(Q:Option Addr→Nat→Nat→Int→World→Prop)(b1:Nat)(v1:Int)(kl1:Int→World→Prop)(x1:TPosting)(b2:Nat)(v3:Bool)(w6:World):Prop:=(
 Ifb v3
 (Q none 0 0 7 w6)
 (Al w6 (.cells #[vu 0,vi 0,vs (ByteArray.mk #[])] 111) fun b3 w7=>
 Sb w7 b3 (.cells #[vu x1.From_Kind,vi x1.From_Id,vs x1.Unit] 111 (0,0)) fun w8=>
 Dr w8 fun w9=>
 ∃x2,(Instr.lookup 103 (.map (some b1)) (vg [vu x1.From_Kind,vi x1.From_Id,vs x1.Unit]) false).run Pg w9= .ok (vi x2) w9∧
 ∃(x3:Int),∃(x4:Int),∃w10,(Instr.mapEntry 103 (.map (some b1)) (vg [vu x1.From_Kind,vi x1.From_Id,vs x1.Unit])).run Pg w9= .ok (.tuple #[vi x3,vi x4]) w10∧
 Kp b2 w9 w10∧Kp b3 w9 w10∧(Instr.lookup 103 (.map (some b1)) (vg [vu x1.From_Kind,vi x1.From_Id,vs x1.Unit]) false).run Pg w10= .ok (vi x2) w10∧∃w11,(Instr.entryStore 103 (.map (some b1)) (vi x4) (vi (IntKind.wrap .i64 (x2-x1.N)))).run Pg w10= .ok () w11∧
 Kp b2 w10 w11∧Kp b3 w10 w11∧Ifb (x1.From_Kind !=1)
 (Ifb (x1.From_Kind !=6)
 (∃x8,(Instr.lookup 103 (.map (some b1)) (vg [vu x1.From_Kind,vi x1.From_Id,vs x1.Unit]) false).run Pg w11= .ok (vi x8) w11∧
 bA.j3 Q b1 v1 kl1 x1 (decide (x8<0)) w11)
 (bA.j3 Q b1 v1 kl1 x1 false w11))
 (bA.j3 Q b1 v1 kl1 x1 false w11)))
def bA.j1(Q:Option Addr→Nat→Nat→Int→World→Prop)(l_a:Option Addr)(l_n:Nat)(b1:Nat)(v1:Int)(kl1:Int→World→Prop)(x1:TPosting)(b2:Nat)(v2:Bool)(w5:World):Prop:=(
 Ifb v2
 (Q none 0 0 1 w5)
 (Dr w5 fun w16=>
 Ifb (decide (v1>0))
 (Ix l_a l_n (IntKind.wrap .i64 (v1-1)) fun p2=>
 LdI .i64 w16 (Addr.add p2 ((IntKind.wrap .i64 (v1-1)).toNat*9)) fun x9=>
 bA.j2 Q b1 v1 kl1 x1 b2 (decide (x1.Day<x9)) w16)
 (bA.j2 Q b1 v1 kl1 x1 b2 false w16)))
def bA.l1(Q:Option Addr→Nat→Nat→Int→World→Prop)(l_a:Option Addr)(l_n:Nat)(b1:Nat):Nat→Int→World→Prop
 | 0,_,_=>False
 | nl1+1,v1,w2=>(
 Ifb (decide (v1<((l_n:Nat):Int)))
 (Ix l_a l_n v1 fun p1=>
 LdT TPosting.enc w2 (Addr.add p1 (v1.toNat*9)) fun x1=>
 Al w2 (.cells #[vi 0,vs (ByteArray.mk #[]),vi 0,vu 0,vi 0,vu 0,vi 0,vu 0,vi 0] 42) fun b2 w3=>
 Sb w3 b2 (.cells #[vi x1.Day,vs x1.Unit,vi x1.N,vu x1.From_Kind,vi x1.From_Id,vu x1.To_Kind,vi x1.To_Id,vu x1.Why,vi x1.Lot] 42 (0,0)) fun w4=>
 Dr w4 fun w17=>
 Ifb (decide (x1.Day<0))
 (bA.j1 Q l_a l_n b1 v1 (bA.l1 Q l_a l_n b1 nl1) x1 b2 true w17)
 (Ifb (decide (x1.Day>100000))
 (bA.j1 Q l_a l_n b1 v1 (bA.l1 Q l_a l_n b1 nl1) x1 b2 true w17)
 (Cl Pg 66 #[vs x1.Unit] w17 (fun v w18=>∃r1,v=vb r1∧Kp b2 w17 w18∧Ifb (!r1)
 (bA.j1 Q l_a l_n b1 v1 (bA.l1 Q l_a l_n b1 nl1) x1 b2 true w18)
 (Ifb (decide (x1.N<1))
 (bA.j1 Q l_a l_n b1 v1 (bA.l1 Q l_a l_n b1 nl1) x1 b2 true w18)
 (Ifb (decide (x1.N>1000000000))
 (bA.j1 Q l_a l_n b1 v1 (bA.l1 Q l_a l_n b1 nl1) x1 b2 true w18)
 (Ifb (decide (x1.Lot<1))
 (bA.j1 Q l_a l_n b1 v1 (bA.l1 Q l_a l_n b1 nl1) x1 b2 true w18)
 (Ifb (decide (x1.Lot>2000))
 (bA.j1 Q l_a l_n b1 v1 (bA.l1 Q l_a l_n b1 nl1) x1 b2 true w18)
 (Cl Pg 67 #[vg [vu x1.From_Kind,vi x1.From_Id]] w18 (fun v w19=>∃r2,v=vb r2∧Kp b2 w18 w19∧Ifb (!r2)
 (bA.j1 Q l_a l_n b1 v1 (bA.l1 Q l_a l_n b1 nl1) x1 b2 true w19)
 (Cl Pg 67 #[vg [vu x1.To_Kind,vi x1.To_Id]] w19 (fun v w20=>∃r3,v=vb r3∧Kp b2 w19 w20∧Ifb (!r3)
 (bA.j1 Q l_a l_n b1 v1 (bA.l1 Q l_a l_n b1 nl1) x1 b2 true w20)
 (Cl Pg 69 #[vu x1.Why] w20 (fun v w21=>∃r4_a r4_n r4_c,v=vl r4_a r4_n r4_c∧Kp b2 w20 w21∧Cl Pg 68 #[vl r4_a r4_n r4_c,vg [vu x1.From_Kind,vu x1.To_Kind]] w21 (fun v w22=>∃r5,v=vb r5∧Kp b2 w21 w22∧bA.j1 Q l_a l_n b1 v1 (bA.l1 Q l_a l_n b1 nl1) x1 b2 (!r5) w22)))))))))))))))
 (Cl Pg 70 #[.map (some b1)] w2 (fun v w23=>∃r6_a r6_n r6_c,v=vl r6_a r6_n r6_c∧Q r6_a r6_n r6_c 0 w23)))
def bA.R(Q:Option Addr→Nat→Nat→Int→World→Prop)(l_a:Option Addr)(l_n:Nat)(l_c:Nat)(w:World):Prop:=(
 Ifb (decide (((l_n:Nat):Int)>20000))
 (Q none 0 0 2 w)
 (Al w (.map #[] 0) fun b1 w1=>
 ∃k,bA.l1 Q l_a l_n b1 k 0 w1))
theorem bA.ok{Q:Option Addr→Nat→Nat→Int→World→Prop}{l_a:Option Addr}{l_n:Nat}{l_c:Nat}{w:World}(h:bA.R Q l_a l_n l_c w):Cl Pg 19 #[vl l_a l_n l_c] w (fun v w'=>∃r0a r0n r0c r1,v= .tuple #[vl r0a r0n r0c,vi r1]∧Q r0a r0n r0c r1 w'):=by
 refine aI (args:=[vl l_a l_n l_c]) Tryz.func19 ?_
 unfold bA.R at h
 refine aC<|zp 2<|aD<|aL<|aC<|zp 3<|aD<|zc h (fun h=>?_) fun h=>?_
 exact aC<|zp 2<|aD<|aN<|aH<|z2 ⟨_,_,_,_,rfl,h⟩
 refine aJ<|aC<|zw h fun b1 w1 _ _ _ h=>zp 1<|aD<|aL<|aC<|zp 3<|aD<|aR ?_
 obtain⟨nl1,h⟩:=h
 refine bS (fun k e w2=>∃(e0:Env) (v1:Int),e=upds e0 [(0,vl l_a l_n l_c),(4,.map (some b1)),(12,vl l_a l_n l_c),(13,vi (l_n:Nat)),(14,vi v1)]∧bA.l1 Q l_a l_n b1 k v1 w2) nl1 ?_ ?_ ?_
 rintro _ _ ⟨_,_,_,h⟩
 exact h
 exact⟨_,0,ag,h⟩
 clear h nl1
 rintro nl1 _ w2 ⟨e0,v1,rfl,h⟩
 unfold bA.l1 at h
 refine aC<|zp 1<|aD<|aL<|zc h (fun h=>?_) fun h=>?_
 refine aJ<|aL<|aR<|aC<|zp 1<|zi aAw h fun p1 h=>?_
 obtain⟨x1,hx1,h⟩:=h
 refine zn aAV hx1<|zq h fun b2 w3 _ _ q2 h=>zp 1<|zt aAV q2 h fun w4 ew q h=>?_
 replace q2:=q
 refine aD<|aL<|fD (fun e w5=>∃(e0:Env) (v2:Bool),e=upds e0 [(0,vl l_a l_n l_c),(4,.map (some b1)),(5,vi v1),(6,vp ⟨b2,0,none⟩),(12,vl l_a l_n l_c),(13,vi (l_n:Nat)),(14,vi v1),(78,vb v2)]∧w5.heap[b2]? =some (.cells #[vi x1.Day,vs x1.Unit,vi x1.N,vu x1.From_Kind,vi x1.From_Id,vu x1.To_Kind,vi x1.To_Id,vu x1.Why,vi x1.Lot] 42 (0,0))∧bA.j1 Q l_a l_n b1 v1 (bA.l1 Q l_a l_n b1 nl1) x1 b2 v2 w5) ?_ ?_
 refine drw iG [[],[],[1],[1],[1],[1],[1,5],[1,5],[1,5],[1,5],[1,5],[1,5,10],[1,5,10],[1,5,10],[1,5,10],[1,5,10],[1,5,10],[1,5,10,16],[1,5,10,16],[1,5,10,16],[1,5,10,16],[1,5,10,16],[1,5,10,16,21],[1,5,10,16,21],[1,5,10,16,21],[1,5,10,16,21],[1,5,10,16,21],[1,5,10,16,21,26],[1,5,10,16,21,26],[1,5,10,16,21,26],[1,5,10,16,21,26],[1,5,10,16,21,26],[1,5,10,16,21,26,31],[1,5,10,16,21,26,31],[1,5,10,16,21,26,31],[1,5,10,16,21,26,31],[1,5,10,16,21,26,31],[1,5,10,16,21,26,31,36],[1,5,10,16,21,26,31,36],[1,5,10,16,21,26,31,36],[1,5,10,16,21,26,31,36],[1,5,10,16,21,26,31,36],[1,5,10,16,21,26,31,36],[1,5,10,16,21,26,31,36,42],[1,5,10,16,21,26,31,36,42],[1,5,10,16,21,26,31,36,42],[1,5,10,16,21,26,31,36,42],[1,5,10,16,21,26,31,36,42],[1,5,10,16,21,26,31,36,42],[1,5,10,16,21,26,31,36,42,48],[1,5,10,16,21,26,31,36,42],[1,5,10,16,21,26,31,36,42],[1,5,10,16,21,26,31,36,42],[1,5,10,16,21,26,31,36,42],[1,5,10,16,21,26,31,36,42],[1,5,10,16,21,26,31,36,42],[1,5,10,16,21,26,31,36,42,52,55],[1,5,10,16,21,26,31,36,42,48,52,55],[1,5,10,16,21,26,31,36,42,48,52,55],[1,5,10,16,21,26,31,36,42,48,52,55]] [.p 0,.l 1,.p 2,.p 3,.p 4,.l 5,.p 6,.p 7,.p 8,.p 9,.l 10,.e 11,.p 12,.p 13,.p 14,.p 15,.l 16,.p 17,.p 18,.p 19,.p 20,.l 21,.p 22,.p 23,.p 24,.p 25,.l 26,.p 27,.p 28,.p 29,.p 30,.l 31,.p 32,.p 33,.p 34,.p 35,.l 36,.e 37,.p 38,.p 39,.p 40,.p 41,.l 42,.e 43,.p 44,.p 45,.p 46,.p 47,.l 48,.p 50,.p 51,.l 52,.p 53,.p 54,.l 55,.p 56,.e 49,.e 57,.p 58,.p 59] h fun w17 ew h=>?_
 replace q2:=dN ew q2
 refine zP 1<|zB tk3 q2<|zP 2<|zS 22 h (fun h=>?_) fun h=>?_
 exact zP 1<|ze<|zP 4<|ze<|zE<|zP 4<|ze<|zP 4<|ze<|zP 4<|ze<|zP 4<|ze<|zP 4<|ze<|zE<|zP 4<|ze<|zE<|zP 4<|ze<|zP 2<|ze<|zP 2<|ze<|zP 1<|zE<|zE<|zP 2<|bF<|⟨_,true,ag,q2,h⟩
 refine zP 1<|zB tk3 q2<|zP 3<|zS 27 h (fun h=>?_) fun h=>?_
 exact zP 1<|ze<|zE<|zP 4<|ze<|zP 4<|ze<|zP 4<|ze<|zP 4<|ze<|zP 4<|ze<|zE<|zP 4<|ze<|zE<|zP 4<|ze<|zP 2<|ze<|zP 2<|ze<|zP 1<|zE<|zE<|zP 2<|bF<|⟨_,true,ag,q2,h⟩
 refine zP 1<|zB tk9 q2<|zK h ?_
 rintro _ w18 ⟨r1,rfl,hk0,h⟩
 replace q2:=bG hk0 q2
 refine⟨AllOk.nil,?_⟩
 refine zP 3<|zS 33 h (fun h=>?_) fun h=>?_
 exact zP 1<|ze<|zP 4<|ze<|zP 4<|ze<|zP 4<|ze<|zP 4<|ze<|zE<|zP 4<|ze<|zE<|zP 4<|ze<|zP 2<|ze<|zP 2<|ze<|zP 1<|zE<|zE<|zP 2<|bF<|⟨_,true,ag,q2,h⟩
 refine zP 1<|zB tk3 q2<|zP 3<|zS 38 h (fun h=>?_) fun h=>?_
 exact zP 1<|ze<|zP 4<|ze<|zP 4<|ze<|zP 4<|ze<|zE<|zP 4<|ze<|zE<|zP 4<|ze<|zP 2<|ze<|zP 2<|ze<|zP 1<|zE<|zE<|zP 2<|bF<|⟨_,true,ag,q2,h⟩
 refine zP 1<|zB tk3 q2<|zP 3<|zS 43 h (fun h=>?_) fun h=>?_
 exact zP 1<|ze<|zP 4<|ze<|zP 4<|ze<|zE<|zP 4<|ze<|zE<|zP 4<|ze<|zP 2<|ze<|zP 2<|ze<|zP 1<|zE<|zE<|zP 2<|bF<|⟨_,true,ag,q2,h⟩
 refine zP 1<|zB tk3 q2<|zP 3<|zS 48 h (fun h=>?_) fun h=>?_
 exact zP 1<|ze<|zP 4<|ze<|zE<|zP 4<|ze<|zE<|zP 4<|ze<|zP 2<|ze<|zP 2<|ze<|zP 1<|zE<|zE<|zP 2<|bF<|⟨_,true,ag,q2,h⟩
 refine zP 1<|zB tk3 q2<|zP 3<|zS 53 h (fun h=>?_) fun h=>?_
 exact zP 1<|ze<|zE<|zP 4<|ze<|zE<|zP 4<|ze<|zP 2<|ze<|zP 2<|ze<|zP 1<|zE<|zE<|zP 2<|bF<|⟨_,true,ag,q2,h⟩
 refine zP 1<|zM j8 q2<|zK h ?_
 rintro _ w19 ⟨r2,rfl,hk0,h⟩
 replace q2:=bG hk0 q2
 refine⟨AllOk.nil,?_⟩
 refine zP 3<|zS 59 h (fun h=>?_) fun h=>?_
 exact zP 1<|ze<|zE<|zP 4<|ze<|zP 2<|ze<|zP 2<|ze<|zP 1<|zE<|zE<|zP 2<|bF<|⟨_,true,ag,q2,h⟩
 refine zP 1<|zM j8 q2<|zK h ?_
 rintro _ w20 ⟨r3,rfl,hk0,h⟩
 replace q2:=bG hk0 q2
 refine⟨AllOk.nil,?_⟩
 refine zP 3<|zS 65 h (fun h=>?_) fun h=>?_
 exact zP 1<|ze<|zP 2<|ze<|zP 2<|ze<|zP 1<|zE<|zE<|zP 2<|bF<|⟨_,true,ag,q2,h⟩
 refine zP 1<|zB tk5 q2<|zP 2<|zB tk5 q2<|zP 2<|zB tk5 q2<|zP 1<|zK h ?_
 rintro _ w21 ⟨r4_a,r4_n,r4_c,rfl,hk0,h⟩
 replace q2:=bG hk0 q2
 refine⟨AllOk.cons (jW (jO rfl rfl (fW tk5 (aV q2 rfl))))<|AllOk.cons (jW (jO rfl rfl (fW tk5 (aV q2 rfl))))<|AllOk.nil,?_⟩
 refine zK h ?_
 rintro _ w22 ⟨r5,rfl,hk0,h⟩
 replace q2:=bG hk0 q2
 refine⟨AllOk.nil,?_⟩
 exact zP 2<|bF<|⟨_,(!r5),ag,q2,h⟩
 clear h q2
 rintro _ w5 ⟨e0,v2,rfl,q2,h⟩
 unfold bA.j1 at h
 refine zc h (fun h=>?_) fun h=>?_
 exact aC<|zp 2<|aD<|aN<|aH<|bD<|aH<|aH<|bD<|aH<|z2 ⟨_,_,_,_,rfl,h⟩
 refine aJ<|aL<|fD (fun e w6=>∃(e0:Env) (v3:Bool),e=upds e0 [(0,vl l_a l_n l_c),(4,.map (some b1)),(6,vp ⟨b2,0,none⟩),(12,vl l_a l_n l_c),(13,vi (l_n:Nat)),(14,vi v1),(91,vb v3)]∧w6.heap[b2]? =some (.cells #[vi x1.Day,vs x1.Unit,vi x1.N,vu x1.From_Kind,vi x1.From_Id,vu x1.To_Kind,vi x1.To_Id,vu x1.Why,vi x1.Lot] 42 (0,0))∧bA.j2 Q b1 v1 (bA.l1 Q l_a l_n b1 nl1) x1 b2 v3 w6) ?_ ?_
 refine drw iG [[],[],[],[],[],[],[],[],[],[],[],[4,10],[4,10]] [.p 0,.p 1,.p 2,.p 3,.l 4,.p 5,.p 6,.p 7,.p 8,.p 9,.l 10,.p 11,.p 12] h fun w16 ew h=>?_
 replace q2:=dN ew q2
 refine zP 3<|zS 81 h (fun h=>?_) fun h=>?_
 exact zP 1<|zB tk3 q2<|zP 3<|zI aAw h fun p2 h=>zP 1<|zD tk3 h fun x9 hx9 h=>zP 2<|bF<|⟨_,decide (x1.Day<x9),ag,q2,h⟩
 exact zP 1<|ze<|zP 5<|ze<|zP 2<|bF<|⟨_,false,ag,q2,h⟩
 clear h q2
 rintro _ w6 ⟨e0,v3,rfl,q2,h⟩
 unfold bA.j2 at h
 refine zc h (fun h=>?_) fun h=>?_
 exact aC<|zp 2<|aD<|aN<|aH<|bD<|aH<|aH<|bD<|aH<|z2 ⟨_,_,_,_,rfl,h⟩
 refine aJ<|aC<|zp 1<|zm j8 q2<|zp 1<|zb tk9 q2<|zp 1<|zq h fun b3 w7 eb ew q3 h=>?_
 have o2:=q2
 replace q2:=fQ ew q2
 have n2_3:b2≠b3:=lR o2 eb
 clear o2
 clear eb ew
 refine zt aE5 q3 h fun w8 ew q h=>?_
 replace q2:=dC ew n2_3 q2
 replace q3:=q
 refine aD<|drs iG [[],[],[1],[],[],[1,2,4],[1,4],[1,4],[1,2,4]] [.p 0,.l 1,.l 2,.p 3,.l 4,.p 5,.e 6,.p 7,.e 8] h fun w9 ew h=>?_
 replace q2:=dN ew q2
 replace q3:=dN ew q3
 refine zP 1<|zM aE5 q3 ?_
 obtain⟨x2,hlk1,h⟩:=h
 refine zY hlk1<|zP 1<|zB tk3 q2<|zP 1 ?_
 obtain⟨x3,x4,w10,hrun,hk0,hk1,hk2,h⟩:=h
 refine zme hrun ?_
 replace q2:=bG hk0 q2
 replace q3:=bG hk1 q3
 replace hlk1:=hk2
 clear hrun
 refine⟨zh hlk1<|AllOk.nil,?_⟩
 refine zP 1 ?_
 obtain⟨w11,hrun,hk0,hk1,h⟩:=h
 refine zes hrun ?_
 replace q2:=bG hk0 q2
 replace q3:=bG hk1 q3
 clear hrun
 refine⟨AllOk.nil,?_⟩
 refine bF<|aL<|fD (fun e w12=>∃(e0:Env) (v4:Bool),e=upds e0 [(0,vl l_a l_n l_c),(4,.map (some b1)),(6,vp ⟨b2,0,none⟩),(12,vl l_a l_n l_c),(13,vi (l_n:Nat)),(14,vi v1),(120,vb v4)]∧w12.heap[b2]? =some (.cells #[vi x1.Day,vs x1.Unit,vi x1.N,vu x1.From_Kind,vi x1.From_Id,vu x1.To_Kind,vi x1.To_Id,vu x1.Why,vi x1.Lot] 42 (0,0))∧bA.j3 Q b1 v1 (bA.l1 Q l_a l_n b1 nl1) x1 v4 w12) ?_ ?_
 refine aW<|zp 2<|zb tk5 q2<|zp 2<|zs 109 h (fun h=>?_) fun h=>?_
 refine zp 2<|zb tk5 q2<|zp 3<|zs 115 h (fun h=>?_) fun h=>?_
 refine zp 1<|zm aE5 q3 ?_
 obtain⟨x8,hlk3,h⟩:=h
 exact zy hlk3<|zp 2<|aD<|⟨_,decide (x8<0),ag,q2,h⟩
 exact zp 5<|aD<|⟨_,false,ag,q2,h⟩
 exact zp 11<|aD<|⟨_,false,ag,q2,h⟩
 clear h q2 q3 n2_3
 rintro _ w12 ⟨e0,v4,rfl,q2,h⟩
 unfold bA.j3 at h
 refine zc h (fun h=>?_) fun h=>?_
 exact aC<|zp 2<|aD<|aN<|aH<|bD<|aH<|aH<|bD<|aH<|z2 ⟨_,_,_,_,rfl,h⟩
 refine aJ<|drw iG [[],[],[],[],[],[2,4],[2,4],[],[],[2,4,6,8],[2,4,8],[2,4,8],[2,4,6,8]] [.p 0,.p 1,.l 2,.p 3,.l 4,.p 5,.l 6,.p 7,.l 8,.p 9,.e 10,.p 11,.e 12] h fun w13 ew h=>?_
 replace q2:=dN ew q2
 refine zP 2<|zM j8 q2<|zP 1<|zB tk9 q2<|zP 1 ?_
 obtain⟨x5,hlk2,h⟩:=h
 refine zY hlk2<|zP 1<|zB tk3 q2<|zP 1 ?_
 obtain⟨x6,x7,w14,hrun,hk0,h⟩:=h
 refine zme hrun ?_
 replace hlk2:=hk0
 clear hrun
 refine⟨zh hlk2<|AllOk.nil,?_⟩
 refine zP 1 ?_
 obtain⟨w15,hrun,h⟩:=h
 refine zes hrun ?_
 clear hrun
 refine⟨AllOk.nil,?_⟩
 exact bF<|aG<|aW<|zp 2<|aD<|⟨_,IntKind.wrap .i64 (v1+1),ag,h⟩
 refine dE<|aU<|aC<|zp 1<|zk h ?_
 rintro _ w23 ⟨r6_a,r6_n,r6_c,rfl,h⟩
 exact zp 2<|aD<|aN<|z2 ⟨_,_,_,_,rfl,h⟩
def dV.j2(Q:Bool→World→Prop)(a:TAccount)(v2:Bool)(w5:World):Prop:=(
 Ifb v2
 (Q (a.Id==0) w5)
 (Q false w5))
def dV.j1(Q:Bool→World→Prop)(a:TAccount)(v1:Bool)(w2:World):Prop:=(
 Ifb v1
 (Al w2 (.cells #[vi a.Id] 3) fun b2 w3=>
 Cl Pg 87 #[vl (some ⟨b2,0,none⟩) 1 1] w3 (fun v w4=>∃r1,v=vb r1∧Q r1 w4))
 (Ifb (a.Kind==1)
 (dV.j2 Q a (a.Kind==1) w2)
 (Ifb (a.Kind==4)
 (dV.j2 Q a (a.Kind==4) w2)
 (Ifb (a.Kind==5)
 (dV.j2 Q a (a.Kind==5) w2)
 (dV.j2 Q a (a.Kind==6) w2)))))
def dV.R(Q:Bool→World→Prop)(a:TAccount)(w:World):Prop:=(
 Al w (.cells #[vu a.Kind,vi a.Id] 40) fun b1 w1=>
 Ifb (a.Kind==2)
 (dV.j1 Q a (a.Kind==2) w1)
 (Ifb (a.Kind==3)
 (dV.j1 Q a (a.Kind==3) w1)
 (dV.j1 Q a (a.Kind==7) w1)))
theorem dV.ok{Q:Bool→World→Prop}{a:TAccount}{w:World}(h:dV.R Q a w):Cl Pg 67 #[vg (TAccount.enc a)] w (fun v w'=>∃r0,v=vb r0∧Q r0 w'):=by
 refine aI (args:=[vg (TAccount.enc a)]) Tryz.func67 ?_
 unfold dV.R at h
 refine aC<|zq h fun b1 w1 _ _ q1 h=>zp 1<|aD<|aL<|aC<|zp 1<|zb tk5 q1<|aD<|aR<|fD (fun e w2=>∃(e0:Env) (v1:Bool),e=upds e0 [(1,vp ⟨b1,0,none⟩),(4,vu a.Kind),(5,vb v1)]∧w2.heap[b1]? =some (.cells #[vu a.Kind,vi a.Id] 40 (0,0))∧dV.j1 Q a v1 w2) ?_ ?_
 refine aC<|zp 2<|aD<|zc h (fun h=>?_) fun h=>?_
 exact aJ<|⟨_,(a.Kind==2),ag,q1,h⟩
 refine aC<|zp 2<|aD<|zc h (fun h=>?_) fun h=>?_
 exact aJ<|⟨_,(a.Kind==3),ag,q1,h⟩
 exact aW<|zp 2<|aD<|⟨_,(a.Kind==7),ag,q1,h⟩
 clear h q1
 rintro _ w2 ⟨e0,v1,rfl,q1,h⟩
 unfold dV.j1 at h
 refine zc h (fun h=>?_) fun h=>?_
 refine aC<|zp 1<|zb tk3 q1<|zv 1 h fun b2 w3 _ _ _ h=>zk h ?_
 rintro _ w4 ⟨r1,rfl,h⟩
 exact zp 1<|aD<|aN<|bD<|aH<|z1 ⟨_,rfl,h⟩
 refine fD (fun e w5=>∃(e0:Env) (v2:Bool),e=upds e0 [(1,vp ⟨b1,0,none⟩),(13,vb v2)]∧w5.heap[b1]? =some (.cells #[vu a.Kind,vi a.Id] 40 (0,0))∧dV.j2 Q a v2 w5) ?_ ?_
 refine aC<|zp 2<|aD<|zc h (fun h=>?_) fun h=>?_
 exact aJ<|⟨_,(a.Kind==1),ag,q1,h⟩
 refine aC<|zp 2<|aD<|zc h (fun h=>?_) fun h=>?_
 exact aJ<|⟨_,(a.Kind==4),ag,q1,h⟩
 refine aC<|zp 2<|aD<|zc h (fun h=>?_) fun h=>?_
 exact aJ<|⟨_,(a.Kind==5),ag,q1,h⟩
 exact aW<|zp 2<|aD<|⟨_,(a.Kind==6),ag,q1,h⟩
 clear h q1
 rintro _ w5 ⟨e0,v2,rfl,q1,h⟩
 unfold dV.j2 at h
 refine zc h (fun h=>?_) fun h=>?_
 exact aC<|zp 1<|zb tk3 q1<|zp 2<|aD<|aN<|bD<|aH<|z1 ⟨_,rfl,h⟩
 exact aJ<|aG<|aC<|zp 1<|aD<|aN<|z1 ⟨_,rfl,h⟩
def m6.R(Q:Bool→World→Prop)(s_a:Option Addr)(s_n:Nat)(s_c:Nat)(v:A2_2_uint8)(w:World):Prop:=(
 Al w (.cells #[vu v.x0,vu v.x1] 108) fun b1 w1=>
 Cl Pg 125 #[vl s_a s_n s_c,vg [vu v.x0,vu v.x1]] w1 (fun v w2=>∃r1,v=vi r1∧Q (decide (r1≥0)) w2))
theorem m6.ok{Q:Bool→World→Prop}{s_a:Option Addr}{s_n:Nat}{s_c:Nat}{v:A2_2_uint8}{w:World}(h:m6.R Q s_a s_n s_c v w):Cl Pg 68 #[vl s_a s_n s_c,vg (A2_2_uint8.enc v)] w (fun v w'=>∃r0,v=vb r0∧Q r0 w'):=by
 refine aI (args:=[vl s_a s_n s_c,vg (A2_2_uint8.enc v)]) Tryz.func68 ?_
 unfold m6.R at h
 refine aC<|zq h fun b1 w1 _ _ q1 h=>zp 1<|aD<|aC<|zp 1<|zm aFf q1<|zk h ?_
 rintro _ w2 ⟨r1,rfl,h⟩
 exact zp 2<|aD<|aN<|z1 ⟨_,rfl,h⟩
def j7.j1(Q:Option Addr→Nat→Nat→World→Prop)(why:Int)(v1:Bool)(w1:World):Prop:=(
 Ifb v1
 (Al w1 (.cells #[vu 1,vu 2] 108) fun b1 w2=>
 Q (some ⟨b1,0,none⟩) 1 1 w2)
 (Ifb (why==2)
 (Al w1 (.cells #[vu 2,vu 3] 108) fun b2 w3=>
 Q (some ⟨b2,0,none⟩) 1 1 w3)
 (Ifb (why==3)
 (Al w1 (.cells #[vu 2,vu 4] 108) fun b3 w4=>
 Q (some ⟨b3,0,none⟩) 1 1 w4)
 (Ifb (why==4)
 (Al w1 (.cells #[vu 4,vu 3] 108) fun b4 w5=>
 Q (some ⟨b4,0,none⟩) 1 1 w5)
 (Ifb (why==5)
 (Al w1 (.cells #[vu 2,vu 6,vu 6,vu 2] 108) fun b5 w6=>
 Q (some ⟨b5,0,none⟩) 2 2 w6)
 (Ifb (why==6)
 (Al w1 (.cells #[vu 2,vu 5] 108) fun b6 w7=>
 Q (some ⟨b6,0,none⟩) 1 1 w7)
 (Ifb (why==7)
 (Al w1 (.cells #[vu 5,vu 2] 108) fun b7 w8=>
 Q (some ⟨b7,0,none⟩) 1 1 w8)
 (Ifb (why==8)
 (Al w1 (.cells #[vu 2,vu 7] 108) fun b8 w9=>
 Q (some ⟨b8,0,none⟩) 1 1 w9)
 (Ifb (why==9)
 (Al w1 (.cells #[vu 7,vu 1] 108) fun b9 w10=>
 Q (some ⟨b9,0,none⟩) 1 1 w10)
 (Q none 0 0 w1))))))))))
def j7.R(Q:Option Addr→Nat→Nat→World→Prop)(why:Int)(w:World):Prop:=(
 Ifb (why==1)
 (j7.j1 Q why (why==1) w)
 (j7.j1 Q why (why==10) w))
theorem j7.ok{Q:Option Addr→Nat→Nat→World→Prop}{why:Int}{w:World}(h:j7.R Q why w):Cl Pg 69 #[vu why] w (fun v w'=>∃r0a r0n r0c,v=vl r0a r0n r0c∧Q r0a r0n r0c w'):=by
 refine aI (args:=[vu why]) Tryz.func69 ?_
 unfold j7.R at h
 refine aC<|zp 1<|aD<|aL<|aC<|zp 1<|aD<|aR<|fD (fun e w1=>∃(e0:Env) (v1:Bool),e=upds e0 [(3,vu why),(4,vb v1)]∧j7.j1 Q why v1 w1) ?_ ?_
 refine aC<|zp 2<|aD<|zc h (fun h=>?_) fun h=>?_
 exact aJ<|⟨_,(why==1),ag,h⟩
 exact aW<|zp 2<|aD<|⟨_,(why==10),ag,h⟩
 clear h
 rintro _ w1 ⟨e0,v1,rfl,h⟩
 unfold j7.j1 at h
 refine zc h (fun h=>?_) fun h=>?_
 exact aC<|zp 1<|zv 1 h fun b1 w2 _ _ _ h=>zp 1<|aD<|aN<|bD<|aH<|z1 ⟨_,_,_,rfl,h⟩
 refine aC<|zp 2<|aD<|zc h (fun h=>?_) fun h=>?_
 exact aC<|zp 1<|zv 1 h fun b2 w3 _ _ _ h=>zp 1<|aD<|aN<|bD<|aH<|z1 ⟨_,_,_,rfl,h⟩
 refine aC<|zp 2<|aD<|zc h (fun h=>?_) fun h=>?_
 exact aC<|zp 1<|zv 1 h fun b3 w4 _ _ _ h=>zp 1<|aD<|aN<|bD<|aH<|z1 ⟨_,_,_,rfl,h⟩
 refine aC<|zp 2<|aD<|zc h (fun h=>?_) fun h=>?_
 exact aC<|zp 1<|zv 1 h fun b4 w5 _ _ _ h=>zp 1<|aD<|aN<|bD<|aH<|z1 ⟨_,_,_,rfl,h⟩
 refine aC<|zp 2<|aD<|zc h (fun h=>?_) fun h=>?_
 exact aC<|zp 2<|zv 2 h fun b5 w6 _ _ _ h=>zp 1<|aD<|aN<|bD<|aH<|z1 ⟨_,_,_,rfl,h⟩
 refine aC<|zp 2<|aD<|zc h (fun h=>?_) fun h=>?_
 exact aC<|zp 1<|zv 1 h fun b6 w7 _ _ _ h=>zp 1<|aD<|aN<|bD<|aH<|z1 ⟨_,_,_,rfl,h⟩
 refine aC<|zp 2<|aD<|zc h (fun h=>?_) fun h=>?_
 exact aC<|zp 1<|zv 1 h fun b7 w8 _ _ _ h=>zp 1<|aD<|aN<|bD<|aH<|z1 ⟨_,_,_,rfl,h⟩
 refine aC<|zp 2<|aD<|zc h (fun h=>?_) fun h=>?_
 exact aC<|zp 1<|zv 1 h fun b8 w9 _ _ _ h=>zp 1<|aD<|aN<|bD<|aH<|z1 ⟨_,_,_,rfl,h⟩
 refine aC<|zp 2<|aD<|zc h (fun h=>?_) fun h=>?_
 exact aC<|zp 1<|zv 1 h fun b9 w10 _ _ _ h=>zp 1<|aD<|aN<|bD<|aH<|z1 ⟨_,_,_,rfl,h⟩
 exact aJ<|aG<|aC<|zp 1<|aD<|aN<|z1 ⟨_,_,_,rfl,h⟩
end Go.Proofs.YtcbijkakoepglaaGreat
namespace Go.Proofs.YtcbijkakoepglaaGreat
open Go Go.Wx
theorem eqI108{d:Nat}{w:World}{a0 a1 b0 b1:Int}:(Op.equalIn (d+2) 108 (.agg (List.toArray [vu a0,vu a1])) (.agg (List.toArray [vu b0,vu b1]))).run Pg w= .ok ((a0==b0)&&((a1==b1)&&true)) w:=by
 have h0:∀a b,(Op.equalIn (d+1) 5 (vu a) (vu b)).run Pg w= .ok (a==b) w:=fun a b=>run_equalIn_int w d 5 .u8 .u8 _ _ (by kernel_rfl);have hp:∀x y,(part 5 (List.toArray [vu x,vu y]) 0).run Pg w= .ok (vu x) w:=fun x y=>by kernel_rfl
 have hq:∀x y,(part 5 (List.toArray [vu x,vu y]) 1).run Pg w= .ok (vu y) w:=fun x y=>by kernel_rfl
 rw[Op.equalIn];simp only[run_bind,run_underlying (show Pg.underlying 108=some (.array 2 5) by kernel_rfl),(sF (w:=w) tk5).2];simp only[Std.Legacy.Range.forIn_eq_forIn_range',Std.Legacy.Range.size,List.range'_succ,List.range'_zero,List.forIn_cons,List.forIn_nil,run_bind,Nat.zero_mul,Nat.one_mul,Nat.zero_add,hp,hq,h0,iE];cases h1:a0==b0<;>cases h2:a1==b1<;>simp[run_bind,iE,h0,hp,hq,h1,h2]
end Go.Proofs.YtcbijkakoepglaaGreat
namespace Go.Proofs.YtcbijkakoepglaaGreat
open Go Go.Wx
set_option maxRecDepth 100000
def iA.l1(Q:Int→World→Prop)(s_a:Option Addr)(s_n:Nat)(v:A2_2_uint8):Nat→Int→World→Prop
 | 0,_,_=>False
 | nl1+1,v1,w2=>(
 Ifb (decide (v1<((s_n:Nat):Int)))
 (Dr w2 fun w3=>
 Ix s_a s_n v1 fun p1=>
 LdT A2_2_uint8.enc w3 (Addr.add p1 (v1.toNat*2)) fun x1=>
 Ifb ((v.x0==x1.x0)&&((v.x1==x1.x1)&&true))
 (Q v1 w3)
 ((iA.l1 Q s_a s_n v nl1) (IntKind.wrap .i64 (v1+1)) w3))
 (Q (-1) w2))
def iA.R(Q:Int→World→Prop)(s_a:Option Addr)(s_n:Nat)(s_c:Nat)(v:A2_2_uint8)(w:World):Prop:=(
 Al w (.cells #[vu v.x0,vu v.x1] 108) fun b1 w1=>
 ∃k,iA.l1 Q s_a s_n v k 0 w1)
theorem iA.ok{Q:Int→World→Prop}{s_a:Option Addr}{s_n:Nat}{s_c:Nat}{v:A2_2_uint8}{w:World}(h:iA.R Q s_a s_n s_c v w):Cl Pg 125 #[vl s_a s_n s_c,vg (A2_2_uint8.enc v)] w (fun v w'=>∃r0,v=vi r0∧Q r0 w'):=by
 refine aI (args:=[vl s_a s_n s_c,vg (A2_2_uint8.enc v)]) Tryz.func125 ?_
 unfold iA.R at h
 refine aC<|zq h fun b1 w1 _ _ q1 h=>zp 1<|aD<|aL<|aC<|zp 3<|aD<|aR ?_
 obtain⟨nl1,h⟩:=h
 refine bS (fun k e w2=>∃(e0:Env) (v1:Int),e=upds e0 [(0,vl s_a s_n s_c),(3,vp ⟨b1,0,none⟩),(7,vi (s_n:Nat)),(8,vi v1)]∧w2.heap[b1]? =some (.cells #[vu v.x0,vu v.x1] 108 (0,0))∧iA.l1 Q s_a s_n v k v1 w2) nl1 ?_ ?_ ?_
 rintro _ _ ⟨_,_,_,_,h⟩
 exact h
 exact⟨_,0,ag,q1,h⟩
 clear h nl1 q1
 rintro nl1 _ w2 ⟨e0,v1,rfl,q1,h⟩
 unfold iA.l1 at h
 refine aC<|zp 1<|aD<|aL<|zc h (fun h=>?_) fun h=>?_
 refine aJ<|aL<|aR<|aC<|zp 2<|aD<|drs iG [[],[],[],[],[],[0,4]] [.l 0,.p 1,.p 2,.p 3,.l 4,.p 5] h fun w3 ew h=>?_
 replace q1:=dN ew q1
 refine zM aFf q1<|zP 2<|zI slk107 h fun p1 h=>?_
 obtain⟨x1,hx1,h⟩:=h
 refine zN aFf hx1<|aCR rfl rfl rfl (v:=vb ((v.x0==x1.x0)&&((v.x1==x1.x1)&&true))) (rE (by kernel_rfl) (fun w=>eqI108 (d:=9998)) rfl rfl rfl)<|bF<|zc h (fun h=>?_) fun h=>?_
 exact aC<|zp 2<|aD<|aN<|bD<|aH<|aH<|bD<|aH<|z1 ⟨_,rfl,h⟩
 exact aJ<|aG<|aW<|zp 2<|aD<|⟨_,IntKind.wrap .i64 (v1+1),ag,q1,h⟩
 exact dE<|aU<|aC<|zp 1<|aD<|aN<|z1 ⟨_,rfl,h⟩
end Go.Proofs.YtcbijkakoepglaaGreat
namespace Go.Proofs.YtcbijkakoepglaaGreat
open Go Go.Wx
def qD(k i:Int):Bool:=if k=2∨k=3∨k=7 then jI i else if k=1∨k=4∨k=5∨k=6 then i==0 else false
def aAf(why:Int):List A2_2_uint8:=
 if why=1∨why=10 then [⟨1,2⟩]else if why=2 then [⟨2,3⟩]else if why=3 then [⟨2,4⟩]else if why=4 then [⟨4,3⟩]else if why=5 then [⟨2,6⟩,⟨6,2⟩]else if why=6 then [⟨2,5⟩]else if why=7 then [⟨5,2⟩]else
  if why=8 then [⟨2,7⟩]else if why=9 then [⟨7,1⟩]else []
def aAg(why k k2:Int):Bool:=(aAf why).any fun x=>(k==x.x0)&&((k2==x.x1)&&true)
def oQ(p:TPosting):Bool:=decide (0≤p.Day∧p.Day≤100000)&&named p.Unit&&decide (1≤p.N∧p.N≤1000000000)&&decide (1≤p.Lot∧p.Lot≤2000)&&qD p.From_Kind p.From_Id&&qD p.To_Kind p.To_Id&&aAg p.Why p.From_Kind p.To_Kind
def lateP:Option Int→TPosting→Bool
 | some d,p=>decide (p.Day<d)
 | none,_=>false
def qK:List (Tplace × Int)→Option Int→List TPosting→Int × List (Tplace × Int)
 | m,_,[]=>(0,m)
 | m,q,p::ps=>if !oQ p then(1,m)else if lateP q p then(7,m)else
  if p.From_Kind≠1∧p.From_Kind≠6∧jX (rL m (j6 p) p.N) (j6 p)<0 then(62,m)else qK (sU (rL m (j6 p) p.N) (pTo p) p.N) (some p.Day) ps
def vC(l:List TPosting):Int × List TTrialLine:=
 if 20000<l.length then(2,[])else if(qK [] none l).1≠0 then((qK [] none l).1,[])else(0,tS (qK [] none l).2)
theorem aAT:∀(l:List TPosting) (m:List (Tplace × Int)) (q:Option Int),(qK m q l).2.length≤m.length+2*l.length
 |[],m,q=>by simp[qK]
 | p::l,m,q=>by
  unfold qK;split
  ·simp
  split
  ·simp
  split
  ·simp
  have h:=aAT l (sU (rL m (j6 p) p.N) (pTo p) p.N) (some p.Day);have h1:=uB (pTo p) (wr (jX (rL m (j6 p) p.N) (pTo p)+p.N)) (rL m (j6 p) p.N);have h2:=uB (j6 p) (wr (jX m (j6 p)-p.N)) m;simp only[sU,rL,List.length_cons]at h h1 h2 ⊢;omega
theorem aE9{w:World}{a:TAccount}{Q:Bool→World→Prop}(hQ:∀w',Ext w w'→Q (qD a.Kind a.Id) w'):Cl Pg 67 #[vg [vu a.Kind,vi a.Id]] w (fun v w'=>∃r,v=vb r∧Q r w'):=by
 refine dV.ok (bW (er w) fun b1 w1 _ _ E _ _=>?_);have ids:(a.Kind=2∨a.Kind=3∨a.Kind=7)→dV.j1 Q a true w1:=fun h=>by
  unfold dV.j1;refine jM (bW E fun b2 w2 _ h2 E _ _=>aCn (qX [a.Id] h2) (by simp[maxLen]) fun w3 E3=>?_);have:=hQ w3 (E.ext E3);unfold qD at this;rw[if_pos h]at this;simpa using this
 have nul:¬(a.Kind=2∨a.Kind=3∨a.Kind=7)→(a.Kind=1∨a.Kind=4∨a.Kind=5∨a.Kind=6)→dV.j2 Q a true w1:=fun h1 h2=>by
  unfold dV.j2;have:=hQ w1 E;unfold qD at this;rw[if_neg h1,if_pos h2]at this;exact jM this
 have rest:¬(a.Kind=2∨a.Kind=3∨a.Kind=7)→dV.j1 Q a false w1:=fun h=>by
  unfold dV.j1;refine jJ (ifb ?_);split
  ·rename_i e;rw[e];exact nul h (.inl (by simpa using e))
  rename_i c1;refine ifb ?_;split
  ·rename_i e;rw[e];exact nul h (.inr (.inl (by simpa using e)))
  rename_i c4;refine ifb ?_;split
  ·rename_i e;rw[e];exact nul h (.inr (.inr (.inl (by simpa using e))))
  rename_i c5;cases c6:a.Kind==6 with
  | true=>exact nul h (.inr (.inr (.inr (by simpa using c6))))
  | false=>
   unfold dV.j2;have:=hQ w1 E;unfold qD at this;rw[if_neg h,if_neg (by simp at c1 c4 c5 c6;omega)]at this;exact jJ this
 refine ifb ?_;split
 ·rename_i e;rw[e];exact ids (.inl (by simpa using e))
 rename_i c2;refine ifb ?_;split
 ·rename_i e;rw[e];exact ids (.inr (.inl (by simpa using e)))
 rename_i c3;cases c7:a.Kind==7 with
 | true=>exact ids (.inr (.inr (by simpa using c7)))
 | false=>exact rest (by simp at c2 c3 c7;omega)
theorem sK{α:Type}{enc:α→List Value}{sz:Nat}(he:∀x,(enc x).length=sz){w:World}{b:Nat}{c:Array Value}{T:TypeId}{fr:Nat × Nat}(xs:List α)(h:At w b (.cells c T fr))(hc:c=(xs.flatMap enc).toArray):Rd enc sz w (some ⟨b,0,none⟩) xs.length xs:=by
 subst hc;refine⟨rfl,fun h=>(by cases h),fun a0 ha i x hx=>?_⟩;cases ha;rw[mC];refine Cells.of_at h ?_;rw[he,Nat.zero_add];exact aBX he xs i x hx
theorem ways_c{w:World}{why:Int}{Q:Option Addr→Nat→Nat→World→Prop}(hQ:∀a n c w',Rd A2_2_uint8.enc 2 w' a n (aAf why)→n≤2→Ext w w'→Q a n c w'):Cl Pg 69 #[vu why] w (fun v w'=>∃a n c,v=vl a n c∧Q a n c w'):=by
 have he:∀x:A2_2_uint8,x.enc.length=2:=fun _=>rfl;refine j7.ok ?_;have one:(why=1∨why=10)→j7.j1 Q why true w:=fun h=>by
  unfold j7.j1;refine jM (al fun b w' _ hat E=>hQ _ _ _ _ ?_ (by omega) E);have:aAf why=[⟨1,2⟩]:=by unfold aAf;rw[if_pos h]
  rw[this];exact sK he [⟨1,2⟩] hat rfl
 have rest:¬(why=1∨why=10)→j7.j1 Q why false w:=fun h=>by
  unfold j7.j1;have hw:aAf why=if why=2 then [⟨2,3⟩]else if why=3 then [⟨2,4⟩]else if why=4 then [⟨4,3⟩]else if why=5 then [⟨2,6⟩,⟨6,2⟩]else if why=6 then [⟨2,5⟩]else if why=7 then [⟨5,2⟩]else if why=8 then [⟨2,7⟩]else if why=9 then [⟨7,1⟩]else []:=by unfold aAf;rw[if_neg h]
  refine jJ (ifb ?_);split
  ·rename_i e;have e:why=2:=by simpa using e
   refine al fun b w' _ hat E=>hQ _ _ _ _ ?_ (by omega) E;rw[hw,if_pos e];exact sK he [⟨2,3⟩] hat rfl
  rename_i c2;have c2:¬why=2:=by simpa using c2
  rw[if_neg c2]at hw;refine ifb ?_;split
  ·rename_i e;have e:why=3:=by simpa using e
   refine al fun b w' _ hat E=>hQ _ _ _ _ ?_ (by omega) E;rw[hw,if_pos e];exact sK he [⟨2,4⟩] hat rfl
  rename_i c3;have c3:¬why=3:=by simpa using c3
  rw[if_neg c3]at hw;refine ifb ?_;split
  ·rename_i e;have e:why=4:=by simpa using e
   refine al fun b w' _ hat E=>hQ _ _ _ _ ?_ (by omega) E;rw[hw,if_pos e];exact sK he [⟨4,3⟩] hat rfl
  rename_i c4;have c4:¬why=4:=by simpa using c4
  rw[if_neg c4]at hw;refine ifb ?_;split
  ·rename_i e;have e:why=5:=by simpa using e
   refine al fun b w' _ hat E=>hQ _ _ _ _ ?_ (by omega) E;rw[hw,if_pos e];exact sK he [⟨2,6⟩,⟨6,2⟩] hat rfl
  rename_i c5;have c5:¬why=5:=by simpa using c5
  rw[if_neg c5]at hw;refine ifb ?_;split
  ·rename_i e;have e:why=6:=by simpa using e
   refine al fun b w' _ hat E=>hQ _ _ _ _ ?_ (by omega) E;rw[hw,if_pos e];exact sK he [⟨2,5⟩] hat rfl
  rename_i c6;have c6:¬why=6:=by simpa using c6
  rw[if_neg c6]at hw;refine ifb ?_;split
  ·rename_i e;have e:why=7:=by simpa using e
   refine al fun b w' _ hat E=>hQ _ _ _ _ ?_ (by omega) E;rw[hw,if_pos e];exact sK he [⟨5,2⟩] hat rfl
  rename_i c7;have c7:¬why=7:=by simpa using c7
  rw[if_neg c7]at hw;refine ifb ?_;split
  ·rename_i e;have e:why=8:=by simpa using e
   refine al fun b w' _ hat E=>hQ _ _ _ _ ?_ (by omega) E;rw[hw,if_pos e];exact sK he [⟨2,7⟩] hat rfl
  rename_i c8;have c8:¬why=8:=by simpa using c8
  rw[if_neg c8]at hw;refine ifb ?_;split
  ·rename_i e;have e:why=9:=by simpa using e
   refine al fun b w' _ hat E=>hQ _ _ _ _ ?_ (by omega) E;rw[hw,if_pos e];exact sK he [⟨7,1⟩] hat rfl
  rename_i c9;have c9:¬why=9:=by simpa using c9
  rw[if_neg c9]at hw;refine hQ _ _ _ _ ?_ (by omega) (er w);rw[hw];exact Rd.nil
 refine ifb ?_;split
 ·rename_i e;rw[e];exact one (.inl (by simpa using e))
 rename_i c1;cases c10:why==10 with
 | true=>exact one (.inr (by simpa using c10))
 | false=>exact rest (by simp at c1 c10;omega)
theorem aEX{w:World}{a:Option Addr}{n c:Nat}{xs:List A2_2_uint8}(hr:Rd A2_2_uint8.enc 2 w a n xs)(hn:n≤2){v:A2_2_uint8}{Q:Bool→World→Prop}(hQ:∀w',Ext w w'→Q (xs.any fun x=>(v.x0==x.x0)&&((v.x1==x.x1)&&true)) w'):
 Cl Pg 68 #[vl a n c,vg [vu v.x0,vu v.x1]] w (fun u w'=>∃r,u=vb r∧Q r w'):=by
 refine m6.ok (bW (er w) fun b1 w1 _ _ E _ _=>iA.ok (bW E fun b2 w2 _ _ E _ _=>⟨n+1,?_⟩));have key:∀m i w',i+m=n→Ext w w'→(∀w',Ext w w'→Q ((xs.drop i).any fun x=>(v.x0==x.x0)&&((v.x1==x.x1)&&true)) w')→iA.l1 (fun r1 w2=>Q (decide (r1≥(0:Int))) w2) a n v (m+1) (i:Nat) w':=by
  intro m;induction m with
  | zero=>
   intro i w' hi E hQ;unfold iA.l1;rw[List.drop_of_length_le (by have:=hr.1;omega)]at hQ;exact dK (by omega) (by simpa using hQ w' E)
  | succ m ih=>
   intro i w' hi E hQ;unfold iA.l1;refine dQ (by omega) (iS E fun w3 E3 _=>(hr.ext E3).ix (by omega) (by omega) fun a0 x ha hx hc=>⟨x,hc,ifb ?_⟩);simp only[Int.toNat_natCast]at hx;obtain⟨hl,hx'⟩:=List.getElem?_eq_some_iff.1 hx;rw[List.drop_eq_getElem_cons hl,hx']at hQ;simp only[List.any_cons]at hQ;split
   ·rename_i h;have:=hQ w3 E3;rw[h]at this;simpa using this
   ·rename_i h;rw[fO (n:=n) (by omega) (by omega) (by simp only[maxLen];omega)];exact ih (i+1) w3 (by omega) E3 fun w' E'=>by
     have:=hQ w' E';rw[show((v.x0==x.x0)&&((v.x1==x.x1)&&true))=false by simpa using h,Bool.false_or]at this;exact this
 exact key n 0 w2 (by omega) E (by simpa using hQ)
theorem audit_c{w:World}{a:Option Addr}{n c:Nat}{ps:List TPosting}(hr:Rd TPosting.enc 9 w a n ps){Q:Option Addr→Nat→Nat→Int→World→Prop}
 (hQ:∀a2 n2 c2 w',Own 49 4 TTrialLine.enc w' a2 n2 c2 (vC ps).2→(∀k,obk a2 c2=some k→w.heap.size≤k)→Ext w w'→Q a2 n2 c2 (vC ps).1 w'):Cl Pg 19 #[vl a n c] w (fun v w'=>∃a2 n2 c2 r,v= .tuple #[vl a2 n2 c2,vi r]∧Q a2 n2 c2 r w'):=by
 have hl:=hr.1;refine bA.ok (ifb ?_);split
 ·rename_i hlong;have hQ:=hQ none 0 0 w;unfold vC at hQ;rw[if_pos (by have:=of_decide_eq_true hlong;omega)]at hQ;exact hQ Own.nil (fun _ h=>by cases h) (er w)
 rename_i hlong;have hlong:n≤20000:=by simp at hlong;omega
 refine bW (er w) fun b1 w1 hb1 hat E _ _=>⟨n+1,?_⟩;have bad:∀{r:Int} {w'},r≠0→(qK [] none ps).1=r→Ext w w'→Q none 0 0 r w':=fun{r w'} h0 e E'=>by
  have hQ:=hQ none 0 0 w';unfold vC at hQ;rw[if_neg (by omega),if_pos (by rw[e];exact h0)]at hQ;rw[e]at hQ;exact hQ Own.nil (fun _ h=>by cases h) E'
 have key:∀m i w' M q,i+m=n→Ext w w'→MapIs j4 w' b1 M→(q=if i=0 then none else(ps[i-1]?).map (·.Day))→qK M q (ps.drop i)=qK [] none ps→bA.l1 Q a n b1 (m+1) (i:Nat) w':=by
  intro m;induction m with
  | zero=>
   intro i w' M q hi E' hM hq hb;unfold bA.l1;rw[List.drop_of_length_le (by omega)]at hb;simp only[qK]at hb;refine dK (by omega) (aEh hM ?_ fun a2 n2 c2 w2 ho hk E2=>?_)
   ·have:=aAT ps [] none;rw[←hb]at this;simp only[List.length_nil]at this;omega
   ·have hQ:=hQ a2 n2 c2 w2;unfold vC at hQ;rw[if_neg (by omega),←hb,if_neg (by simp)]at hQ;exact hQ ho (fun k h=>Nat.le_trans E'.size (hk k h)) (Ext.trans E' E2)
  | succ m ih=>
   intro i w' M q hi E' hM hq hb;unfold bA.l1;refine dQ (by omega) ((hr.ext E').ix (by omega) (by omega) fun a0 x ha hx hc=>⟨x,hc,bW E' fun b2 w3 hb2 hat2 E3 e3 _=>lW E3 hat2 hb2 fun w4 hat4 E4 f4=>iS E4 fun w5 E5 e5=>?_⟩);simp only[Int.toNat_natCast]at hx;obtain⟨hxl,hx'⟩:=List.getElem?_eq_some_iff.1 hx;rw[List.drop_eq_getElem_cons hxl,hx']at hb;simp only[qK]at hb;have hM5:MapIs j4 w5 b1 M:=((hM.ext e3).frm f4 fun e=>xP (hM.ext e3) hat2 e.symm).ext e5;have hat5:=hat4.ext e5
   have nok:oQ x=false→∀w',Ext w w'→bA.j1 Q a n b1 (i:Nat) (bA.l1 Q a n b1 (m+1)) x b2 true w':=fun hf w' E'=>by
    rw[hf]at hb;simp only[Bool.not_false,if_true]at hb;unfold bA.j1;exact jM (bad (by decide) (by rw[←hb]) E')
   have ok:oQ x=true→∀w6,Ext w5 w6→bA.j1 Q a n b1 (i:Nat) (bA.l1 Q a n b1 (m+1)) x b2 false w6:=fun hf w6 e6=>by
    rw[hf]at hb;simp only[Bool.not_true,Bool.false_eq_true,if_false]at hb;have E6:=E5.ext e6;have hM6:=hM5.ext e6;have hat6:=hat5.ext e6;unfold bA.j1;refine jJ (iS E6 fun w7 E7 e7=>?_);have hM7:=hM6.ext e7;have hat7:=hat6.ext e7;have j2:∀v,v=lateP q x→bA.j2 Q b1 (i:Nat) (bA.l1 Q a n b1 (m+1)) x b2 v w7:=by
     intro v hv;subst hv;unfold bA.j2;refine ifb ?_;split
     ·rename_i hl;rw[if_pos hl]at hb;exact bad (by decide) (by rw[←hb]) E7
     rename_i hl;rw[if_neg hl]at hb;refine bW E7 fun b3 w8 hb3 hat8 E8 e8 _=>lW E8 hat8 hb3 fun w9 hat9 E9 f9=>iS E9 fun w10 E10 e10=>?_;have nb23:¬b2=b3:=fun e=>by
      subst e;have h1:=hat7.ext e8;exact absurd rfl (h1.neT hat8 (by simp[tyO]))
     have hM10:MapIs j4 w10 b1 M:=((hM7.ext e8).frm f9 fun e=>xP (hM7.ext e8) hat8 e.symm).ext e10;have hat10:=((hat7.ext e8).frm f9 nb23).ext e10;have hat10b:=hat9.ext e10;refine⟨_,pO pW hM10 (j6 x),?_⟩;obtain⟨x3,x4,w11,r11,F11,r11',w12,r12,F12,h12,F1012⟩:=aCi (K:=fun w'=>MapIs j4 w' b1 (rL M (j6 x) x.N)∧Frm (fun k=>k=b1) w10 w') hM10 (j6 x) (wr (jX M (j6 x)-x.N)) fun w' h F=>⟨h,F⟩;have n2:=xP hM10 hat10;have n3:=xP hM10 hat10b
     have E12:Ext w w12:=Frm.trans E10 F1012 fun k hk e=>by omega
     refine⟨x3,x4,w11,r11,F11.blk _ hat10.lt n2,F11.blk _ hat10b.lt n3,r11',w12,r12,F12.blk _ (Nat.lt_of_lt_of_le hat10.lt F11.size) n2,F12.blk _ (Nat.lt_of_lt_of_le hat10b.lt F11.size) n3,?_⟩;have j3n:¬(x.From_Kind≠1∧x.From_Kind≠6∧jX (rL M (j6 x) x.N) (j6 x)<0)→bA.j3 Q b1 (i:Nat) (bA.l1 Q a n b1 (m+1)) x false w12:=fun hc=>by
      rw[if_neg hc]at hb;unfold bA.j3;refine jJ (iS E12 fun w13 E13 e13=>⟨_,pO pW (h12.ext e13) (pTo x),?_⟩);obtain⟨y3,y4,w14,s14,G14,s14',w15,s15,G15,h15,F1315⟩:=aCi (K:=fun w'=>MapIs j4 w' b1 (sU (rL M (j6 x) x.N) (pTo x) x.N)∧Frm (fun k=>k=b1) w13 w') (h12.ext e13) (pTo x) (wr (jX (rL M (j6 x) x.N) (pTo x)+x.N)) fun w' h F=>⟨h,F⟩;refine⟨y3,y4,w14,s14,s14',w15,s15,?_⟩;rw[fO (n:=n) (by omega) (by omega) (by simp only[maxLen];omega)]
      exact ih (i+1) w15 _ (some x.Day) (by omega) (Frm.trans E13 F1315 fun k hk e=>by omega) h15 (by rw[if_neg (by omega),Nat.add_sub_cancel,hx];rfl) hb
     refine ifb ?_;split
     case isFalse hk=>exact j3n fun h=>hk (by simpa using h.1)
     rename_i hk1;refine ifb ?_;split
     case isFalse hk=>exact j3n fun h=>hk (by simpa using h.2.1)
     rename_i hk6;refine⟨_,pO pW h12 (j6 x),?_⟩;cases hneg:decide (jX (rL M (j6 x) x.N) (j6 x)<0)with
     | false=>exact j3n fun h=>absurd h.2.2 (of_decide_eq_false hneg)
     | true=>
      rw[if_pos ⟨by simpa using hk1,by simpa using hk6,of_decide_eq_true hneg⟩]at hb;unfold bA.j3;exact jM (bad (by decide) (by rw[←hb]) E12)
    refine ifb ?_;split
    ·rename_i h3';have h3':0<i:=by have:=of_decide_eq_true h3';omega
     have hw:IntKind.wrap .i64 (((i:Nat):Int)-1)=((i-1:Nat):Int):=by rw[bQ (by omega) (by omega)];omega
     rw[hw];refine(hr.ext E7).ix (by omega) (by omega) fun a1 y ha1' hy hcy=>⟨_,(by have:=hcy.at 0 rfl;rwa[rI,Nat.add_zero]at this),j2 _ ?_⟩;simp only[Int.toNat_natCast]at hy;rw[if_neg (by omega),hy]at hq;subst hq;rfl
    ·rename_i h3';have h3':i=0:=by simp at h3';omega
     rw[if_pos h3']at hq;subst hq;exact j2 _ rfl
   refine ifb ?_;split
   ·rename_i h;exact nok (by unfold oQ;rw[decide_eq_false (fun h'=>by have:=of_decide_eq_true h;omega)];simp) _ E5
   rename_i d1;refine ifb ?_;split
   ·rename_i h;exact nok (by unfold oQ;rw[decide_eq_false (fun h'=>by have:=of_decide_eq_true h;omega)];simp) _ E5
   rename_i d2;have p1:decide (0≤x.Day∧x.Day≤100000)=true:=by simp at d1 d2 ⊢;omega
   refine aEf fun w6 e6=>⟨e6.blk _ hat5.lt id,?_⟩;have E6:=E5.ext e6;have hat6:=hat5.ext e6;refine ifb ?_;split
   ·rename_i h;exact nok (by unfold oQ;rw[show named x.Unit=false by simpa using h];simp) _ E6
   rename_i d3;have p2:named x.Unit=true:=by simpa using d3
   refine ifb ?_;split
   ·rename_i h;exact nok (by unfold oQ;rw[show decide (1≤x.N∧x.N≤1000000000)=false from decide_eq_false (fun h'=>by have:=of_decide_eq_true h;omega)];simp) _ E6
   rename_i d4;refine ifb ?_;split
   ·rename_i h;exact nok (by unfold oQ;rw[show decide (1≤x.N∧x.N≤1000000000)=false from decide_eq_false (fun h'=>by have:=of_decide_eq_true h;omega)];simp) _ E6
   rename_i d5;have p3:decide (1≤x.N∧x.N≤1000000000)=true:=by simp at d4 d5 ⊢;omega
   refine ifb ?_;split
   ·rename_i h;exact nok (by unfold oQ;rw[show decide (1≤x.Lot∧x.Lot≤2000)=false from decide_eq_false (fun h'=>by have:=of_decide_eq_true h;omega)];simp) _ E6
   rename_i d6;refine ifb ?_;split
   ·rename_i h;exact nok (by unfold oQ;rw[show decide (1≤x.Lot∧x.Lot≤2000)=false from decide_eq_false (fun h'=>by have:=of_decide_eq_true h;omega)];simp) _ E6
   rename_i d7;have p4:decide (1≤x.Lot∧x.Lot≤2000)=true:=by simp at d6 d7 ⊢;omega
   refine aE9 (a:=⟨x.From_Kind,x.From_Id⟩) fun w7 e7=>⟨e7.blk _ hat6.lt id,?_⟩;have E7:=E6.ext e7;have hat7:=hat6.ext e7;refine ifb ?_;split
   ·rename_i h;exact nok (by unfold oQ;rw[show qD x.From_Kind x.From_Id=false by simpa using h];simp) _ E7
   rename_i d8;have p5:qD x.From_Kind x.From_Id=true:=by simpa using d8
   refine aE9 (a:=⟨x.To_Kind,x.To_Id⟩) fun w8 e8=>⟨e8.blk _ hat7.lt id,?_⟩;have E8:=E7.ext e8;have hat8:=hat7.ext e8;refine ifb ?_;split
   ·rename_i h;exact nok (by unfold oQ;rw[show qD x.To_Kind x.To_Id=false by simpa using h];simp) _ E8
   rename_i d9;have p6:qD x.To_Kind x.To_Id=true:=by simpa using d9
   refine ways_c fun a4 n4 c4 w9 r9 hn4 e9=>⟨e9.blk _ hat8.lt id,aEX (v:=⟨x.From_Kind,x.To_Kind⟩) r9 hn4 fun w10 e10=>⟨e10.blk _ (hat8.ext e9).lt id,?_⟩⟩;show bA.j1 Q a n b1 (i:Nat) (bA.l1 Q a n b1 (m+1)) x b2 (!aAg x.Why x.From_Kind x.To_Kind) w10;cases hway:aAg x.Why x.From_Kind x.To_Kind with
   | false=>exact nok (by unfold oQ;rw[hway];simp) _ ((E8.ext e9).ext e10)
   | true=>exact ok (by unfold oQ;rw[p1,p2,p3,p4,p5,p6,hway];rfl) _ ((((e6.trans e7).trans e8).trans e9).trans e10)
 exact key n 0 w1 [] none (by omega) E (MapIs.new hat) (by simp) (by simp)
end Go.Proofs.YtcbijkakoepglaaGreat
namespace Go.Proofs.YtcbijkakoepglaaGreat
open Go Go.Wx
def pJ(p:Tplace)(y:TTrialLine):Bool:=((y.Account_Kind==p.account_Kind)&&((y.Account_Id==p.account_Id)&&true))&&dF y.Unit p.unit
def jH(y:TTrialLine):Tplace:=⟨y.Account_Kind,y.Account_Id,y.Unit⟩
theorem pX{p:Tplace}{y:TTrialLine}:pJ p y=true↔jH y=p:=by
 unfold pJ jH;cases p;simp[iX,and_assoc]
def jC(x:TTrialLine):List TTrialLine→List TTrialLine
 |[]=>[x]
 | y::ys=>if pJ (jH x) y then{x with N:=wr (x.N+y.N)}::ys else if iZ x y then x::y::ys else y::jC x ys
def yG(p:Tplace):List TTrialLine→Int
 |[]=>0
 | y::ys=>if pJ p y then y.N else yG p ys
theorem sL{x y z:TTrialLine}(h:jH x=jH y):iZ x z=iZ y z∧iZ z x=iZ z y:=by
 unfold jH at h;simp only[Tplace.mk.injEq]at h;obtain⟨h1,h2,h3⟩:=h;constructor<;>(rw[Bool.eq_iff_iff,pN,pN,h1,h2,h3])
theorem aBN{x y:TTrialLine}(h1:iZ x y=false)(h2:iZ y x=false):jH x=jH y:=by
 rw[qY]at h1 h2;have e1:x.Account_Kind=y.Account_Kind:=by
  apply Classical.byContradiction;intro hne;by_cases h3:x.Account_Kind<y.Account_Kind
  ·exact h1 (.inl h3)
  ·exact h2 (.inl (by omega))
 have e2:x.Account_Id=y.Account_Id:=by
  apply Classical.byContradiction;intro hne;by_cases h3:x.Account_Id<y.Account_Id
  ·exact h1 (.inr ⟨e1,.inl h3⟩)
  ·exact h2 (.inr ⟨e1.symm,.inl (by omega)⟩)
 have e3:x.Unit=y.Unit:=by
  refine nX ?_ ?_
  ·cases h:iO x.Unit y.Unit with
   | false=>rfl
   | true=>exact(h1 (.inr ⟨e1,.inr ⟨e2,h⟩⟩)).elim
  ·cases h:iO y.Unit x.Unit with
   | false=>rfl
   | true=>exact(h2 (.inr ⟨e1.symm,.inr ⟨e2.symm,h⟩⟩)).elim
 unfold jH;rw[e1,e2,e3]
def Str(l:List TTrialLine):Prop:=l.Pairwise fun x y=>iZ x y=true
theorem Str.asc{l:List TTrialLine}(h:Str l):Asc iZ l:=h.imp fun h=>swoLine.asymmA h
theorem Str.keys{l:List TTrialLine}(h:Str l):l.Pairwise fun x y=>jH x≠jH y:=h.imp fun{x y} h e=>by
 have:=(sL (z:=y) e).1;rw[h,swoLine.irrefl]at this;cases this
theorem pC{m:List (Tplace × Int)}(h:m.Pairwise fun x y=>x.1≠y.1):Str (isort iZ (m.map mO)):=by
 have hn:((isort iZ (m.map mO)).map jH).Nodup:=by
  have hp:((isort iZ (m.map mO)).map jH).Perm (m.map (·.1)):=by
   have:=((dI (lt:=iZ) (m.map mO)).map jH);rw[List.map_map]at this;exact this
  exact hp.nodup_iff.2 (List.pairwise_map.2 h)
 have hk:=List.pairwise_map.1 hn;refine(lZ swoLine _).imp₂ (fun{x y} h1 h2=>?_) hk;cases h3:iZ x y with
 | true=>rfl
 | false=>exact absurd (aBN h3 h1) h2
theorem wD{x:TTrialLine}:∀{l:List TTrialLine},Str l→∀z,z∈jC x l↔(z∈l∧jH z≠jH x)∨z={x with N:=if l.any (pJ (jH x))then wr (x.N+yG (jH x) l)else x.N}
 |[],_,z=>by simp[jC]
 | y::ys,h,z=>by
  obtain⟨h1,h2⟩:=List.pairwise_cons.1 h;unfold jC;by_cases hk:pJ (jH x) y=true
  ·have hk':=pX.1 hk;rw[if_pos hk];have hg:yG (jH x) (y::ys)=y.N:=by unfold yG;rw[if_pos hk]
   have ha:(y::ys).any (pJ (jH x))=true:=by rw[List.any_cons,hk];rfl
   rw[hg,ha,if_pos rfl];constructor
   ·intro hz;rcases List.mem_cons.1 hz with rfl | hz
    ·exact .inr rfl
    ·refine .inl ⟨List.mem_cons_of_mem _ hz,fun e=>?_⟩;have:=(sL (z:=y) (hk'.trans e.symm).symm).2;have h3:=h1 z hz;rw[this,swoLine.irrefl]at h3;cases h3
   ·rintro(⟨hz,hne⟩ | rfl)
    ·rcases List.mem_cons.1 hz with rfl | hz
     ·exact absurd hk' hne
     ·exact List.mem_cons_of_mem _ hz
    ·exact List.mem_cons_self
  ·rw[if_neg hk];have hk':jH y≠jH x:=fun e=>hk (pX.2 e);have hg:yG (jH x) (y::ys)=yG (jH x) ys:=by rw[yG,if_neg hk]
   have ha:(y::ys).any (pJ (jH x))=ys.any (pJ (jH x)):=by rw[List.any_cons,show pJ (jH x) y=false by simpa using hk];rfl
   rw[hg,ha];by_cases hl:iZ x y=true
   ·rw[if_pos hl];have hno:∀z∈y::ys,jH z≠jH x:=fun z hz e=>by
     have h3:iZ x z=true:=by
      rcases List.mem_cons.1 hz with rfl | hz
      ·exact hl
      ·exact swoLine.trans _ _ _ hl (h1 z hz)
     have:=(sL (z:=z) e.symm).1;rw[h3,swoLine.irrefl]at this;cases this
    have hany:ys.any (pJ (jH x))=false:=by
     rw[List.any_eq_false];exact fun z hz e=>hno z (List.mem_cons_of_mem _ hz) (pX.1 e)
    rw[hany,if_neg (by simp)];constructor
    ·intro hz;rcases List.mem_cons.1 hz with rfl | hz
     ·exact .inr rfl
     ·exact .inl ⟨hz,hno z hz⟩
    ·rintro(⟨hz,_⟩ | rfl)
     ·exact List.mem_cons_of_mem _ hz
     ·exact List.mem_cons_self
   ·rw[if_neg hl,List.mem_cons,wD h2 z,List.mem_cons];constructor
    ·rintro(rfl | ⟨hz,hne⟩ | hz)
     ·exact .inl ⟨.inl rfl,hk'⟩
     ·exact .inl ⟨.inr hz,hne⟩
     ·exact .inr hz
    ·rintro(⟨rfl | hz,hne⟩ | hz)
     ·exact .inl rfl
     ·exact .inr (.inl ⟨hz,hne⟩)
     ·exact .inr (.inr hz)
theorem aAU{x:TTrialLine}:∀{l:List TTrialLine},Str l→Str (jC x l)
 |[],_=>by simp[jC,Str]
 | y::ys,h=>by
  obtain⟨h1,h2⟩:=List.pairwise_cons.1 h;unfold jC;split
  ·rename_i hk;have hk':=pX.1 hk;refine List.pairwise_cons.2 ⟨fun z hz=>?_,h2⟩;rw[←(sL (x:=y) (y:={x with N:=wr (x.N+y.N)}) (z:=z) hk').1];exact h1 z hz
  rename_i hk;have hk':jH y≠jH x:=fun e=>hk (pX.2 e);split
  ·rename_i hl;refine List.pairwise_cons.2 ⟨fun z hz=>?_,h⟩;rcases List.mem_cons.1 hz with rfl | hz
   ·exact hl
   ·exact swoLine.trans _ _ _ hl (h1 z hz)
  ·rename_i hl;have hyx:iZ y x=true:=by
    cases h3:iZ y x with
    | true=>rfl
    | false=>exact absurd (aBN h3 (by simpa using hl)) hk'
   refine List.pairwise_cons.2 ⟨fun z hz=>?_,aAU h2⟩;rcases (wD h2 z).1 hz with⟨hz,_⟩ | rfl
   ·exact h1 z hz
   ·rw[(sL (x:={x with N:=if ys.any (pJ (jH x))then wr (x.N+yG (jH x) ys)else x.N}) (y:=x) (z:=y) rfl).2];exact hyx
theorem vL{p:Tplace}{u:Int}:∀{m:List (Tplace × Int)},(m.Pairwise fun x y=>x.1≠y.1)→∀z,z∈pA m p u↔(z∈m∧z.1≠p)∨z=(p,u)
 |[],_,z=>by simp[pA]
 | (q,v)::m,h,z=>by
  obtain⟨h1,h2⟩:=List.pairwise_cons.1 h;unfold pA;split
  ·rename_i e;subst e;rw[List.mem_cons,List.mem_cons];constructor
   ·rintro(rfl | hz)
    ·exact .inr rfl
    ·exact .inl ⟨.inr hz,fun e=>h1 z hz e.symm⟩
   ·rintro(⟨rfl | hz,hne⟩ | rfl)
    ·exact absurd rfl hne
    ·exact .inr hz
    ·exact .inl rfl
  ·rename_i e;rw[List.mem_cons,vL h2 z,List.mem_cons];constructor
   ·rintro(rfl | ⟨hz,hne⟩ | hz)
    ·exact .inl ⟨.inl rfl,fun e'=>e e'.symm⟩
    ·exact .inl ⟨.inr hz,hne⟩
    ·exact .inr hz
   ·rintro(⟨rfl | hz,hne⟩ | hz)
    ·exact .inl rfl
    ·exact .inr (.inl ⟨hz,hne⟩)
    ·exact .inr (.inr hz)
theorem uP{p:Tplace}{u:Int}:∀{m:List (Tplace × Int)},(m.Pairwise fun x y=>x.1≠y.1)→(pA m p u).Pairwise fun x y=>x.1≠y.1
 |[],_=>by simp[pA]
 | (q,v)::m,h=>by
  obtain⟨h1,h2⟩:=List.pairwise_cons.1 h;unfold pA;split
  ·exact List.pairwise_cons.2 ⟨h1,h2⟩
  ·rename_i e;refine List.pairwise_cons.2 ⟨fun z hz=>?_,uP h2⟩;rcases (vL h2 z).1 hz with⟨hz,_⟩ | rfl
   ·exact h1 z hz
   ·exact fun e'=>e e'.symm
theorem aFW{p:Tplace}{v:Int}{l:List TTrialLine}(h:l.Pairwise fun x y=>jH x≠jH y)(hm:(⟨p.account_Kind,p.account_Id,p.unit,v⟩:TTrialLine)∈l):yG p l=v:=by
 induction l with
 | nil=>cases hm
 | cons y ys ih=>
  obtain⟨h1,h2⟩:=List.pairwise_cons.1 h;unfold yG;rcases List.mem_cons.1 hm with rfl | hm
  ·rw[if_pos (show pJ p ⟨p.account_Kind,p.account_Id,p.unit,v⟩=true from pX.2 rfl)]
  ·rw[if_neg (show ¬pJ p y=true from fun e=>h1 _ hm (pX.1 e))];exact ih h2 hm
theorem aFX{p:Tplace}{l:List TTrialLine}(h:l.any (pJ p)=false):yG p l=0:=by
 induction l with
 | nil=>rfl
 | cons y ys ih=>
  simp only[List.any_cons,Bool.or_eq_false_iff]at h;unfold yG;rw[if_neg (by rw[h.1];simp)];exact ih h.2
theorem vR{p:Tplace}:∀(m:List (Tplace × Int)),((∃y∈m,y.1=p)→(p,jX m p)∈m)∧((∀y∈m,y.1≠p)→jX m p=0)
 |[]=>⟨fun⟨y,h,_⟩=>(by cases h),fun _=>rfl⟩
 | (q,v)::m=>by
  have ih:=vR (p:=p) m;unfold jX;by_cases e:p=q
  ·subst e;rw[if_pos rfl];exact⟨fun _=>List.mem_cons_self,fun h=>absurd rfl (h _ List.mem_cons_self)⟩
  ·rw[if_neg e];refine⟨fun⟨y,hy,he⟩=>List.mem_cons_of_mem _ (ih.1 ?_),fun h=>ih.2 fun y hy=>h y (List.mem_cons_of_mem _ hy)⟩;rcases List.mem_cons.1 hy with rfl | hy
   ·exact absurd he.symm e
   ·exact⟨y,hy,he⟩
def jF(m:List (Tplace × Int)):List TTrialLine:=isort iZ (m.map mO)
theorem rP{m:List (Tplace × Int)}{z:TTrialLine}:z∈jF m↔∃y∈m,mO y=z:=by
 unfold jF;rw[(dI _).mem_iff,List.mem_map]
theorem xL{m:List (Tplace × Int)}{p:Tplace}:(jF m).any (pJ p)=true↔∃y∈m,y.1=p:=by
 rw[List.any_eq_true];constructor
 ·rintro⟨z,hz,hk⟩;obtain⟨y,hy,rfl⟩:=rP.1 hz;exact⟨y,hy,pX.1 hk⟩
 ·rintro⟨y,hy,rfl⟩;exact⟨mO y,rP.2 ⟨y,hy,rfl⟩,pX.2 rfl⟩
theorem aD1{m:List (Tplace × Int)}(h:m.Pairwise fun x y=>x.1≠y.1)(p:Tplace):yG p (jF m)=jX m p:=by
 cases ha:(jF m).any (pJ p)with
 | true=>
  have h1:=(vR m).1 (xL.1 ha);exact aFW (pC h).keys (rP.2 ⟨_,h1,rfl⟩)
 | false=>
  rw[aFX ha,(vR m).2];intro y hy e;have:=(xL (m:=m) (p:=p)).2 ⟨y,hy,e⟩;rw[ha]at this;cases this
theorem yN{m:List (Tplace × Int)}(h:m.Pairwise fun x y=>x.1≠y.1)(p:Tplace)(v:Int)(hv:wr v=v):jC ⟨p.account_Kind,p.account_Id,p.unit,v⟩ (jF m)=jF (pA m p (wr (v+jX m p))):=by
 have hs:Str (jF m):=pC h;have hs':Str (jC ⟨p.account_Kind,p.account_Id,p.unit,v⟩ (jF m)):=aAU hs;have hp':Str (jF (pA m p (wr (v+jX m p)))):=pC (uP (p:=p) (u:=wr (v+jX m p)) h);have nod:∀{l:List TTrialLine},Str l→l.Nodup:=fun h=>h.keys.imp fun h e=>h (by rw[e]);have hval:(if(jF m).any (pJ p)then wr (v+yG p (jF m))else v)=wr (v+jX m p):=by
  rw[aD1 h];split
  ·rfl
  ·rename_i ha;rw[(vR m).2,Int.add_zero,hv];intro y hy e;exact ha (xL.2 ⟨y,hy,e⟩)
 have hperm:(jC ⟨p.account_Kind,p.account_Id,p.unit,v⟩ (jF m)).Perm (jF (pA m p (wr (v+jX m p)))):=by
  refine(List.perm_ext_iff_of_nodup (nod hs') (nod hp')).2 fun z=>?_;have hl:=wD (x:=⟨p.account_Kind,p.account_Id,p.unit,v⟩) hs z;have hr:= @rP (pA m p (wr (v+jX m p))) z;constructor
  ·intro hz;refine hr.2 ?_;rcases hl.1 hz with⟨hz,hne⟩ | hz
   ·obtain⟨y,hy,rfl⟩:=rP.1 hz;exact⟨y,(vL h y).2 (.inl ⟨hy,hne⟩),rfl⟩
   ·refine⟨(p,wr (v+jX m p)),(vL h _).2 (.inr rfl),?_⟩;rw[hz,←hval];rfl
  ·intro hz;refine hl.2 ?_;obtain⟨y,hy,rfl⟩:=hr.1 hz;rcases (vL h y).1 hy with⟨hy,hne⟩ | rfl
   ·exact .inl ⟨rP.2 ⟨y,hy,rfl⟩,hne⟩
   ·refine .inr ?_;rw[←hval];rfl
 exact hperm.eq_of_pairwise (le:=fun x y=>iZ x y=true) (fun a b _ _ h1 h2=>by rw[swoLine.asymmA h1]at h2;cases h2) hs' hp'
theorem aC0{m:List (Tplace × Int)}(h:m.Pairwise fun x y=>x.1≠y.1):(jF m).filter (fun y=>y.N !=0)=tS m:=by
 have hs:Str ((jF m).filter (fun y=>y.N !=0)):=(pC h).filter _;have hl:Str (tS m):=pC (h.filter _);refine List.Perm.eq_of_pairwise (le:=fun x y=>iZ x y=true) (fun a b _ _ h1 h2=>by rw[swoLine.asymmA h1]at h2;cases h2) hs hl ?_;have h1:((jF m).filter (fun y=>y.N !=0)).Perm ((m.map mO).filter (fun y=>y.N !=0)):=(dI _).filter _;refine h1.trans ?_;rw[List.filter_map];exact(dI _).symm
end Go.Proofs.YtcbijkakoepglaaGreat
namespace Go.Proofs.YtcbijkakoepglaaGreat
open Go Go.Wx
set_option maxRecDepth 100000
def dG.j2(Q:Option Addr→Nat→Nat→World→Prop)(l_a:Option Addr)(l_n:Nat)(b1:Nat)(b2:Nat)(y1:TTrialLine)(v3:Int)(kl1:TTrialLine→Option Addr→Nat→Nat→Bool→Int→World→Prop)(v5_a:Option Addr)(v5_n:Nat)(v5_c:Nat)(v6:Bool)(w12:World):Prop:=(
 Ix l_a l_n v3 fun p3=>
 LdT TTrialLine.enc w12 (Addr.add p3 (v3.toNat*4)) fun x3=>
 Al w12 (.cells #[vu x3.Account_Kind,vi x3.Account_Id,vs x3.Unit,vi x3.N] 49) fun b4 w13=>
 Ap Pg w13 #[24,24] 24 (vl v5_a v5_n v5_c) (vl (some ⟨b4,0,none⟩) 1 1) fun a2_a a2_n a2_c w14=>
 Kp b1 w13 w14∧Kp b2 w13 w14∧kl1 y1 a2_a a2_n a2_c v6 (IntKind.wrap .i64 (v3+1)) w14)
def dG.j1(Q:Option Addr→Nat→Nat→World→Prop)(l_a:Option Addr)(l_n:Nat)(b1:Nat)(b2:Nat)(y1:TTrialLine)(v1_a:Option Addr)(v1_n:Nat)(v1_c:Nat)(v2:Bool)(v3:Int)(kl1:TTrialLine→Option Addr→Nat→Nat→Bool→Int→World→Prop)(r1:Bool)(v4:Bool)(w7:World):Prop:=(
 Ifb v4
 (Dr w7 fun w8=>
 Ix l_a l_n v3 fun p2=>
 LdI .i64 w8 (Addr.add (Addr.add p2 (v3.toNat*4)) 3) fun x2=>
 Sb w8 b2 (.cells #[vu y1.Account_Kind,vi y1.Account_Id,vs y1.Unit,vi (IntKind.wrap .i64 (y1.N+x2))] 49 (0,0)) fun w9=>
 Al w9 (.cells #[vu y1.Account_Kind,vi y1.Account_Id,vs y1.Unit,vi (IntKind.wrap .i64 (y1.N+x2))] 49) fun b3 w10=>
 Ap Pg w10 #[24,24] 24 (vl v1_a v1_n v1_c) (vl (some ⟨b3,0,none⟩) 1 1) fun a1_a a1_n a1_c w11=>
 Kp b1 w10 w11∧Kp b2 w10 w11∧kl1 (⟨y1.Account_Kind,y1.Account_Id,y1.Unit,IntKind.wrap .i64 (y1.N+x2)⟩:TTrialLine) a1_a a1_n a1_c true (IntKind.wrap .i64 (v3+1)) w11)
 (Ifb ((!v2)&&r1)
 (Al w7 (.cells #[vu y1.Account_Kind,vi y1.Account_Id,vs y1.Unit,vi y1.N] 49) fun b5 w15=>
 Ap Pg w15 #[24,24] 24 (vl v1_a v1_n v1_c) (vl (some ⟨b5,0,none⟩) 1 1) fun a3_a a3_n a3_c w16=>
 Kp b1 w15 w16∧Kp b2 w15 w16∧dG.j2 Q l_a l_n b1 b2 y1 v3 kl1 a3_a a3_n a3_c true w16)
 (dG.j2 Q l_a l_n b1 b2 y1 v3 kl1 v1_a v1_n v1_c v2 w7)))
def dG.l1(Q:Option Addr→Nat→Nat→World→Prop)(l_a:Option Addr)(l_n:Nat)(a:TAccount)(unit:ByteArray)(b1:Nat)(b2:Nat):Nat→TTrialLine→Option Addr→Nat→Nat→Bool→Int→World→Prop
 | 0,_,_,_,_,_,_,_=>False
 | nl1+1,y1,v1_a,v1_n,v1_c,v2,v3,w4=>(
 Ifb (decide (v3<((l_n:Nat):Int)))
 (Dr w4 fun w5=>
 Ix l_a l_n v3 fun p1=>
 LdT TTrialLine.enc w5 (Addr.add p1 (v3.toNat*4)) fun x1=>
 Cl Pg 136 #[vg (TTrialLine.enc y1),vg (TTrialLine.enc x1)] w5 (fun v w6=>∃r1,v=vb r1∧Kp b1 w5 w6∧Kp b2 w5 w6∧Dr w6 fun w17=>
 Ifb (!v2)
 (Ix l_a l_n v3 fun p4=>
 LdT TAccount.enc w17 (Addr.add p4 (v3.toNat*4)) fun x4=>
 Ifb ((x4.Kind==a.Kind)&&((x4.Id==a.Id)&&true))
 (Ix l_a l_n v3 fun p5=>
 LdS w17 (Addr.add (Addr.add p5 (v3.toNat*4)) 2) fun x5=>
 dG.j1 Q l_a l_n b1 b2 y1 v1_a v1_n v1_c v2 v3 (dG.l1 Q l_a l_n a unit b1 b2 nl1) r1 (dF x5 unit) w17)
 (dG.j1 Q l_a l_n b1 b2 y1 v1_a v1_n v1_c v2 v3 (dG.l1 Q l_a l_n a unit b1 b2 nl1) r1 false w17))
 (dG.j1 Q l_a l_n b1 b2 y1 v1_a v1_n v1_c v2 v3 (dG.l1 Q l_a l_n a unit b1 b2 nl1) r1 false w17)))
 (Ifb (!v2)
 (Al w4 (.cells #[vu y1.Account_Kind,vi y1.Account_Id,vs y1.Unit,vi y1.N] 49) fun b6 w18=>
 Ap Pg w18 #[24,24] 24 (vl v1_a v1_n v1_c) (vl (some ⟨b6,0,none⟩) 1 1) fun a4_a a4_n a4_c w19=>
 Q a4_a a4_n a4_c w19)
 (Q v1_a v1_n v1_c w4)))
def dG.R(Q:Option Addr→Nat→Nat→World→Prop)(l_a:Option Addr)(l_n:Nat)(l_c:Nat)(a:TAccount)(unit:ByteArray)(n:Int)(w:World):Prop:=(
 Al w (.cells #[vu a.Kind,vi a.Id] 40) fun b1 w1=>
 Al w1 (.cells #[vu 0,vi 0,vs (ByteArray.mk #[]),vi 0] 49) fun b2 w2=>
 Sb w2 b2 (.cells #[vu a.Kind,vi a.Id,vs unit,vi n] 49 (0,0)) fun w3=>
 ∃k,dG.l1 Q l_a l_n a unit b1 b2 k (⟨a.Kind,a.Id,unit,n⟩:TTrialLine) none 0 0 false 0 w3)
theorem dG.ok{Q:Option Addr→Nat→Nat→World→Prop}{l_a:Option Addr}{l_n:Nat}{l_c:Nat}{a:TAccount}{unit:ByteArray}{n:Int}{w:World}(h:dG.R Q l_a l_n l_c a unit n w):Cl Pg 72 #[vl l_a l_n l_c,vg (TAccount.enc a),vs unit,vi n] w (fun v w'=>∃r0a r0n r0c,v=vl r0a r0n r0c∧Q r0a r0n r0c w'):=by
 refine aI (args:=[vl l_a l_n l_c,vg (TAccount.enc a),vs unit,vi n]) Tryz.func72 ?_
 unfold dG.R at h
 refine aC<|zq h fun b1 w1 _ _ q1 h=>zp 1<|aD<|aC<|zm j8 q1<|zp 3<|zq h fun b2 w2 eb ew q2 h=>?_
 have o1:=q1
 replace q1:=fQ ew q1
 have n1_2:b1≠b2:=lR o1 eb
 clear o1
 clear eb ew
 refine zt xW q2 h fun w3 ew q h=>?_
 replace q1:=dC ew n1_2 q1
 replace q2:=q
 refine aD<|aC<|zp 1<|aD<|aC<|zp 1<|aD<|aL<|aC<|zp 1<|aD<|aR ?_
 obtain⟨nl1,h⟩:=h
 refine bS (fun k e w4=>∃(e0:Env) (y1:TTrialLine) (v1_a:Option Addr) (v1_n:Nat) (v1_c:Nat) (v2:Bool) (v3:Int),e=upds e0 [(0,vl l_a l_n l_c),(2,vs unit),(5,vp ⟨b1,0,none⟩),(9,vp ⟨b2,0,none⟩),(10,vl v1_a v1_n v1_c),(11,vb v2),(12,vi v3)]∧w4.heap[b1]? =some (.cells #[vu a.Kind,vi a.Id] 40 (0,0))∧w4.heap[b2]? =some (.cells #[vu y1.Account_Kind,vi y1.Account_Id,vs y1.Unit,vi y1.N] 49 (0,0))∧b1≠b2∧dG.l1 Q l_a l_n a unit b1 b2 k y1 v1_a v1_n v1_c v2 v3 w4) nl1 ?_ ?_ ?_
 rintro _ _ ⟨_,_,_,_,_,_,_,_,_,_,_,h⟩
 exact h
 exact⟨_,(⟨a.Kind,a.Id,unit,n⟩:TTrialLine),none,0,0,false,0,ag,q1,q2,n1_2,h⟩
 clear h nl1 q1 q2 n1_2
 rintro nl1 _ w4 ⟨e0,y1,v1_a,v1_n,v1_c,v2,v3,rfl,q1,q2,n1_2,h⟩
 unfold dG.l1 at h
 refine aL<|aC<|zp 4<|aD<|zc h (fun h=>?_) fun h=>?_
 refine aJ<|aL<|aR<|drs iG [[],[],[],[],[],[0,4],[0,4]] [.l 0,.p 1,.p 2,.p 3,.l 4,.e 5,.p 6] h fun w5 ew h=>?_
 replace q1:=dN ew q1
 replace q2:=dN ew q2
 refine zM xW q2<|zP 2<|zI xC h fun p1 h=>?_
 obtain⟨x1,hx1,h⟩:=h
 refine zN xW hx1<|zK h ?_
 rintro _ w6 ⟨r1,rfl,hk0,hk1,h⟩
 replace q1:=bG hk0 q1
 replace q2:=bG hk1 q2
 refine⟨AllOk.nil,?_⟩
 refine zP 1<|bF<|aL<|fD (fun e w7=>∃(e0:Env) (v4:Bool),e=upds e0 [(0,vl l_a l_n l_c),(2,vs unit),(5,vp ⟨b1,0,none⟩),(9,vp ⟨b2,0,none⟩),(10,vl v1_a v1_n v1_c),(11,vb v2),(12,vi v3),(13,vb r1),(49,vb v4)]∧w7.heap[b1]? =some (.cells #[vu a.Kind,vi a.Id] 40 (0,0))∧w7.heap[b2]? =some (.cells #[vu y1.Account_Kind,vi y1.Account_Id,vs y1.Unit,vi y1.N] 49 (0,0))∧b1≠b2∧dG.j1 Q l_a l_n b1 b2 y1 v1_a v1_n v1_c v2 v3 (dG.l1 Q l_a l_n a unit b1 b2 nl1) r1 v4 w7) ?_ ?_
 refine drw iG [[],[],[],[],[],[],[],[],[],[7,8],[7,8],[7,8],[7,8],[7,8],[7,8],[7,8],[7,8],[7,8],[7,8,16],[7,8,16]] [.p 0,.p 1,.p 2,.p 3,.p 4,.p 5,.p 6,.l 7,.l 8,.p 9,.p 10,.p 11,.p 12,.p 13,.p 14,.p 15,.l 16,.p 17,.p 18,.p 19] h fun w17 ew h=>?_
 replace q1:=dN ew q1
 replace q2:=dN ew q2
 refine zP 3<|zS 32 h (fun h=>?_) fun h=>?_
 refine zP 2<|zI xC h fun p4 h=>zP 1 ?_
 obtain⟨x4,hx4,h⟩:=h
 refine zN j8 hx4<|zM j8 q1<|aCR rfl rfl rfl (v:=vb ((x4.Kind==a.Kind)&&((x4.Id==a.Id)&&true))) (rE (by kernel_rfl) (fun w=>tL (d:=9998)) rfl rfl rfl)<|zP 2<|zS 41 h (fun h=>?_) fun h=>?_
 exact zP 2<|zI xC h fun p5 h=>zP 1<|zD tk9 h fun x5 hx5 h=>zP 3<|bF<|⟨_,dF x5 unit,ag,q1,q2,n1_2,h⟩
 exact zP 4<|ze<|zP 3<|bF<|⟨_,false,ag,q1,q2,n1_2,h⟩
 exact zP 4<|ze<|ze<|zP 7<|ze<|zP 3<|bF<|⟨_,false,ag,q1,q2,n1_2,h⟩
 clear h q1 q2 n1_2
 rintro _ w7 ⟨e0,v4,rfl,q1,q2,n1_2,h⟩
 unfold dG.j1 at h
 refine zc h (fun h=>?_) fun h=>?_
 refine drs iG [[],[],[],[],[],[],[],[1,6],[1,6],[1,6]] [.p 0,.l 1,.p 2,.p 3,.p 4,.p 5,.l 6,.p 7,.p 8,.e 9] h fun w8 ew h=>?_
 replace q1:=dN ew q1
 replace q2:=dN ew q2
 refine zP 1<|zB tk3 q2<|zP 2<|zI xC h fun p2 h=>zP 1<|zD tk3 h fun x2 hx2 h=>zP 2<|zT tk3 q2 h fun w9 ew q h=>?_
 replace q1:=dC ew n1_2 q1
 replace q2:=q
 refine⟨AllOk.nil,?_⟩
 refine bF<|aC<|zp 1<|zm xW q2<|zv 1 h fun b3 w10 eb ew q3 h=>?_
 replace q1:=fQ ew q1
 replace q2:=fQ ew q2
 clear eb ew q3
 refine za h ?_
 rintro a1_a a1_n a1_c w11 ⟨hk0,hk1,h⟩
 replace q1:=bG hk0 q1
 replace q2:=bG hk1 q2
 exact zp 1<|aD<|aC<|zp 1<|aD<|dE<|aU<|aW<|zp 3<|aD<|⟨_,(⟨y1.Account_Kind,y1.Account_Id,y1.Unit,IntKind.wrap .i64 (y1.N+x2)⟩:TTrialLine),a1_a,a1_n,a1_c,true,IntKind.wrap .i64 (v3+1),ag,q1,q2,n1_2,h⟩
 refine aJ<|fD (fun e w12=>∃(e0:Env) (v5_a:Option Addr) (v5_n:Nat) (v5_c:Nat) (v6:Bool),e=upds e0 [(0,vl l_a l_n l_c),(2,vs unit),(5,vp ⟨b1,0,none⟩),(9,vp ⟨b2,0,none⟩),(10,vl v5_a v5_n v5_c),(11,vb v6),(12,vi v3)]∧w12.heap[b1]? =some (.cells #[vu a.Kind,vi a.Id] 40 (0,0))∧w12.heap[b2]? =some (.cells #[vu y1.Account_Kind,vi y1.Account_Id,vs y1.Unit,vi y1.N] 49 (0,0))∧b1≠b2∧dG.j2 Q l_a l_n b1 b2 y1 v3 (dG.l1 Q l_a l_n a unit b1 b2 nl1) v5_a v5_n v5_c v6 w12) ?_ ?_
 refine aC<|zp 3<|jV (fun e w_=>∃(e0:Env),e=upds e0 [(0,vl l_a l_n l_c),(2,vs unit),(5,vp ⟨b1,0,none⟩),(9,vp ⟨b2,0,none⟩),(10,vl v1_a v1_n v1_c),(11,vb v2),(12,vi v3),(67,vb ((!v2)&&r1))]∧w7=w_) ?_ ?_
 clear h
 refine dO 65 (b:=(!v2)) rfl (fun hb0=>?_) (fun hb0=>?_)
 refine zp 2 ?_
 rw[hb0]
 exact aD ⟨_,ag,rfl⟩
 refine zp 2 ?_
 rw[hb0]
 exact aD ⟨_,ag,rfl⟩
 rintro _ _ ⟨e0,rfl,rfl⟩
 refine zc h (fun h=>?_) fun h=>?_
 refine aC<|zp 1<|zm xW q2<|zv 1 h fun b5 w15 eb ew q5 h=>?_
 replace q1:=fQ ew q1
 replace q2:=fQ ew q2
 clear eb ew q5
 refine za h ?_
 rintro a3_a a3_n a3_c w16 ⟨hk0,hk1,h⟩
 replace q1:=bG hk0 q1
 replace q2:=bG hk1 q2
 exact zp 1<|aD<|aW<|zp 1<|aD<|⟨_,a3_a,a3_n,a3_c,true,ag,q1,q2,n1_2,h⟩
 exact aJ<|⟨_,v1_a,v1_n,v1_c,v2,ag,q1,q2,n1_2,h⟩
 clear h q1 q2 n1_2
 rintro _ w12 ⟨e0,v5_a,v5_n,v5_c,v6,rfl,q1,q2,n1_2,h⟩
 unfold dG.j2 at h
 refine aW<|zp 3<|zi xC h fun p3 h=>?_
 obtain⟨x3,hx3,h⟩:=h
 refine zn xW hx3<|zv 1 h fun b4 w13 eb ew q4 h=>?_
 replace q1:=fQ ew q1
 replace q2:=fQ ew q2
 clear eb ew q4
 refine za h ?_
 rintro a2_a a2_n a2_c w14 ⟨hk0,hk1,h⟩
 replace q1:=bG hk0 q1
 replace q2:=bG hk1 q2
 exact zp 1<|aD<|aG<|aW<|zp 3<|aD<|⟨_,y1,a2_a,a2_n,a2_c,v6,IntKind.wrap .i64 (v3+1),ag,q1,q2,n1_2,h⟩
 refine dE<|aU<|aL<|aC<|zp 2<|aD<|zc h (fun h=>?_) fun h=>?_
 refine aW<|zp 1<|zm xW q2<|zv 1 h fun b6 w18 _ _ _ h=>za h ?_
 rintro a4_a a4_n a4_c w19 h
 exact zp 1<|aD<|aC<|zp 2<|aD<|aN<|z1 ⟨_,_,_,rfl,h⟩
 exact aJ<|aC<|zp 2<|aD<|aN<|z1 ⟨_,_,_,rfl,h⟩
def lH.l1(Q:Option Addr→Nat→Nat→World→Prop)(l_a:Option Addr)(l_n:Nat):Nat→Option Addr→Nat→Nat→Int→World→Prop
 | 0,_,_,_,_,_=>False
 | nl1+1,v1_a,v1_n,v1_c,v2,w1=>(
 Ifb (decide (v2<((l_n:Nat):Int)))
 (Ix l_a l_n v2 fun p1=>
 LdI .i64 w1 (Addr.add (Addr.add p1 (v2.toNat*4)) 3) fun x1=>
 Ifb (x1 !=0)
 (Ix l_a l_n v2 fun p2=>
 LdT TTrialLine.enc w1 (Addr.add p2 (v2.toNat*4)) fun x2=>
 Al w1 (.cells #[vu x2.Account_Kind,vi x2.Account_Id,vs x2.Unit,vi x2.N] 49) fun b1 w2=>
 Ap Pg w2 #[24,24] 24 (vl v1_a v1_n v1_c) (vl (some ⟨b1,0,none⟩) 1 1) fun a1_a a1_n a1_c w3=>
 (lH.l1 Q l_a l_n nl1) a1_a a1_n a1_c (IntKind.wrap .i64 (v2+1)) w3)
 ((lH.l1 Q l_a l_n nl1) v1_a v1_n v1_c (IntKind.wrap .i64 (v2+1)) w1))
 (Q v1_a v1_n v1_c w1))
def lH.R(Q:Option Addr→Nat→Nat→World→Prop)(l_a:Option Addr)(l_n:Nat)(l_c:Nat)(w:World):Prop:=(
 ∃k,lH.l1 Q l_a l_n k none 0 0 0 w)
theorem lH.ok{Q:Option Addr→Nat→Nat→World→Prop}{l_a:Option Addr}{l_n:Nat}{l_c:Nat}{w:World}(h:lH.R Q l_a l_n l_c w):Cl Pg 74 #[vl l_a l_n l_c] w (fun v w'=>∃r0a r0n r0c,v=vl r0a r0n r0c∧Q r0a r0n r0c w'):=by
 refine aI (args:=[vl l_a l_n l_c]) Tryz.func74 ?_
 unfold lH.R at h
 refine aC<|zp 1<|aD<|aC<|zp 1<|aD<|aL<|aC<|zp 1<|aD<|aR ?_
 obtain⟨nl1,h⟩:=h
 refine bS (fun k e w1=>∃(e0:Env) (v1_a:Option Addr) (v1_n:Nat) (v1_c:Nat) (v2:Int),e=upds e0 [(0,vl l_a l_n l_c),(3,vl v1_a v1_n v1_c),(4,vi v2)]∧lH.l1 Q l_a l_n k v1_a v1_n v1_c v2 w1) nl1 ?_ ?_ ?_
 rintro _ _ ⟨_,_,_,_,_,_,h⟩
 exact h
 exact⟨_,none,0,0,0,ag,h⟩
 clear h nl1
 rintro nl1 _ w1 ⟨e0,v1_a,v1_n,v1_c,v2,rfl,h⟩
 unfold lH.l1 at h
 refine aL<|aC<|zp 4<|aD<|zc h (fun h=>?_) fun h=>?_
 refine aJ<|aL<|aR<|aC<|zp 2<|zi xC h fun p1 h=>zp 1<|zd tk3 h fun x1 hx1 h=>zp 1<|aD<|zc h (fun h=>?_) fun h=>?_
 refine aW<|zp 3<|zi xC h fun p2 h=>?_
 obtain⟨x2,hx2,h⟩:=h
 refine zn xW hx2<|zv 1 h fun b1 w2 _ _ _ h=>za h ?_
 rintro a1_a a1_n a1_c w3 h
 exact zp 1<|aD<|aG<|aW<|zp 3<|aD<|⟨_,a1_a,a1_n,a1_c,IntKind.wrap .i64 (v2+1),ag,h⟩
 exact aJ<|aG<|aW<|zp 3<|aD<|⟨_,v1_a,v1_n,v1_c,IntKind.wrap .i64 (v2+1),ag,h⟩
 exact dE<|aU<|aC<|zp 2<|aD<|aN<|z1 ⟨_,_,_,rfl,h⟩
def qW.R(Q:Bool→World→Prop)(n:Int)(low:Int)(high:Int)(w:World):Prop:=(
 Q ((decide (n≥low))&&(decide (n≤high))) w)
theorem qW.ok{Q:Bool→World→Prop}{n:Int}{low:Int}{high:Int}{w:World}(h:qW.R Q n low high w):Cl Pg 132 #[vi n,vi low,vi high] w (fun v w'=>∃r0,v=vb r0∧Q r0 w'):=by
 refine aI (args:=[vi n,vi low,vi high]) Tryz.func132 ?_
 unfold qW.R at h
 refine aC<|zp 1<|aD<|aC<|zp 4<|jV (fun e w_=>∃(e0:Env),e=upds e0 [(6,vb ((decide (n≥low))&&(decide (n≤high))))]∧w=w_) ?_ ?_
 clear h
 refine dO 10 (b:=decide (n≥low)) rfl (fun hb0=>?_) (fun hb0=>?_)
 refine zp 5 ?_
 rw[hb0]
 exact aD ⟨_,ag,rfl⟩
 refine zp 5 ?_
 rw[hb0]
 exact aD ⟨_,ag,rfl⟩
 rintro _ _ ⟨e0,rfl,rfl⟩
 exact aN<|z1 ⟨_,rfl,h⟩
def fP.l1(Q:Bool→World→Prop)(s:ByteArray):Nat→Int→World→Prop
 | 0,_,_=>False
 | nl1+1,v2,w2=>(
 Ifb (decide (v2<((s.size:Nat):Int)))
 (IxS s v2 fun x1=>
 Ifb (!(((((decide (x1≥97))&&(decide (x1≤122)))||((decide (x1≥48))&&(decide (x1≤57))))||(x1==32))||(x1==45)))
 (Q false w2)
 ((fP.l1 Q s nl1) (IntKind.wrap .i64 (v2+1)) w2))
 (Q true w2))
def fP.j1(Q:Bool→World→Prop)(s:ByteArray)(v1:Bool)(w1:World):Prop:=(
 Ifb v1
 (Q false w1)
 (∃k,fP.l1 Q s k 0 w1))
def fP.R(Q:Bool→World→Prop)(s:ByteArray)(w:World):Prop:=(
 Ifb (decide (((s.size:Nat):Int)<1))
 (fP.j1 Q s true w)
 (Ifb (decide (((s.size:Nat):Int)>24))
 (fP.j1 Q s true w)
 (IxS s (0:Int) fun x2=>
 Ifb (x2==32)
 (fP.j1 Q s true w)
 (IxS s (IntKind.wrap .i64 (((s.size:Nat):Int)-1)) fun x3=>
 fP.j1 Q s (x3==32) w))))
theorem fP.ok{Q:Bool→World→Prop}{s:ByteArray}{w:World}(h:fP.R Q s w):Cl Pg 133 #[vs s] w (fun v w'=>∃r0,v=vb r0∧Q r0 w'):=by
 refine aI (args:=[vs s]) Tryz.func133 ?_
 unfold fP.R at h
 refine aC<|zp 1<|aD<|aL<|fD (fun e w1=>∃(e0:Env) (v1:Bool),e=upds e0 [(0,vs s),(25,vb v1)]∧fP.j1 Q s v1 w1) ?_ ?_
 refine aW<|zp 4<|zs 8 h (fun h=>?_) fun h=>?_
 exact zp 17<|aD<|⟨_,true,ag,h⟩
 refine zp 5<|zs 13 h (fun h=>?_) fun h=>?_
 exact zp 12<|aD<|⟨_,true,ag,h⟩
 refine zp 1<|zj h fun x2 h=>zp 3<|zs 18 h (fun h=>?_) fun h=>?_
 exact zp 7<|aD<|⟨_,true,ag,h⟩
 exact zp 4<|zj h fun x3 h=>zp 2<|aD<|⟨_,(x3==32),ag,h⟩
 clear h
 rintro _ w1 ⟨e0,v1,rfl,h⟩
 unfold fP.j1 at h
 refine zc h (fun h=>?_) fun h=>?_
 exact aC<|zp 1<|aD<|aN<|aH<|z1 ⟨_,rfl,h⟩
 refine aJ<|aL<|aC<|zp 1<|aD<|aR ?_
 obtain⟨nl1,h⟩:=h
 refine bS (fun k e w2=>∃(e0:Env) (v2:Int),e=upds e0 [(0,vs s),(3,vi v2)]∧fP.l1 Q s k v2 w2) nl1 ?_ ?_ ?_
 rintro _ _ ⟨_,_,_,h⟩
 exact h
 exact⟨_,0,ag,h⟩
 clear h nl1
 rintro nl1 _ w2 ⟨e0,v2,rfl,h⟩
 unfold fP.l1 at h
 refine aL<|aC<|zp 4<|aD<|zc h (fun h=>?_) fun h=>?_
 refine aJ<|aL<|aR<|aC<|zp 2<|zj h fun x1 h=>zp 1<|aD<|aC<|zp 3<|jV (fun e w_=>∃(e0:Env),e=upds e0 [(0,vs s),(3,vi v2),(57,vb (!(((((decide (x1≥97))&&(decide (x1≤122)))||((decide (x1≥48))&&(decide (x1≤57))))||(x1==32))||(x1==45))))]∧w2=w_) ?_ ?_
 clear h
 refine dO 37 (b:=decide (x1≥97)) rfl (fun hb0=>?_) (fun hb0=>?_)
 refine zp 4<|dO 41 (b:=decide (x1≤122)) rfl (fun hb1=>?_) (fun hb1=>?_)
 refine zp 16 ?_
 rw[hb0,hb1]
 exact aD ⟨_,ag,rfl⟩
 refine zp 3<|dO 44 (b:=decide (x1≥48)) rfl (fun hb2=>?_) (fun hb2=>?_)
 refine zp 5<|dO 49 (b:=decide (x1≤57)) rfl (fun hb3=>?_) (fun hb3=>?_)
 refine zp 8 ?_
 rw[hb0,hb1,hb2,hb3]
 exact aD ⟨_,ag,rfl⟩
 refine zp 4<|dO 53 (b:=(x1==32)) rfl (fun hb4=>?_) (fun hb4=>?_)
 refine zp 4 ?_
 rw[hb0,hb1,hb2,hb3,hb4]
 exact aD ⟨_,ag,rfl⟩
 refine zp 4 ?_
 rw[hb0,hb1,hb2,hb3,hb4]
 exact aD ⟨_,ag,rfl⟩
 refine zp 9<|dO 53 (b:=(x1==32)) rfl (fun hb3=>?_) (fun hb3=>?_)
 refine zp 4 ?_
 rw[hb0,hb1,hb2,hb3]
 exact aD ⟨_,ag,rfl⟩
 refine zp 4 ?_
 rw[hb0,hb1,hb2,hb3]
 exact aD ⟨_,ag,rfl⟩
 refine zp 7<|dO 44 (b:=decide (x1≥48)) rfl (fun hb1=>?_) (fun hb1=>?_)
 refine zp 5<|dO 49 (b:=decide (x1≤57)) rfl (fun hb2=>?_) (fun hb2=>?_)
 refine zp 8 ?_
 rw[hb0,hb1,hb2]
 exact aD ⟨_,ag,rfl⟩
 refine zp 4<|dO 53 (b:=(x1==32)) rfl (fun hb3=>?_) (fun hb3=>?_)
 refine zp 4 ?_
 rw[hb0,hb1,hb2,hb3]
 exact aD ⟨_,ag,rfl⟩
 refine zp 4 ?_
 rw[hb0,hb1,hb2,hb3]
 exact aD ⟨_,ag,rfl⟩
 refine zp 9<|dO 53 (b:=(x1==32)) rfl (fun hb2=>?_) (fun hb2=>?_)
 refine zp 4 ?_
 rw[hb0,hb1,hb2]
 exact aD ⟨_,ag,rfl⟩
 refine zp 4 ?_
 rw[hb0,hb1,hb2]
 exact aD ⟨_,ag,rfl⟩
 rintro _ _ ⟨e0,rfl,rfl⟩
 refine zc h (fun h=>?_) fun h=>?_
 exact aC<|zp 1<|aD<|aN<|bD<|aH<|aH<|bD<|aH<|z1 ⟨_,rfl,h⟩
 exact aJ<|aG<|aW<|zp 3<|aD<|⟨_,IntKind.wrap .i64 (v2+1),ag,h⟩
 exact dE<|aU<|aC<|zp 1<|aD<|aN<|z1 ⟨_,rfl,h⟩
def qF.R(Q:Bool→World→Prop)(a:TTrialLine)(b:TTrialLine)(w:World):Prop:=(
 Al w (.cells #[vu a.Account_Kind,vi a.Account_Id,vs a.Unit,vi a.N] 49) fun b1 w1=>
 Al w1 (.cells #[vu b.Account_Kind,vi b.Account_Id,vs b.Unit,vi b.N] 49) fun b2 w2=>
 Ifb (a.Account_Kind !=b.Account_Kind)
 (Q (decide (a.Account_Kind<b.Account_Kind)) w2)
 (Ifb (a.Account_Id !=b.Account_Id)
 (Q (decide (a.Account_Id<b.Account_Id)) w2)
 (Q (iO a.Unit b.Unit) w2)))
theorem qF.ok{Q:Bool→World→Prop}{a:TTrialLine}{b:TTrialLine}{w:World}(h:qF.R Q a b w):Cl Pg 136 #[vg (TTrialLine.enc a),vg (TTrialLine.enc b)] w (fun v w'=>∃r0,v=vb r0∧Q r0 w'):=by
 refine aI (args:=[vg (TTrialLine.enc a),vg (TTrialLine.enc b)]) Tryz.func136 ?_
 unfold qF.R at h
 refine aC<|zq h fun b1 w1 _ _ q1 h=>zq h fun b2 w2 eb ew q2 h=>?_
 have o1:=q1
 replace q1:=fQ ew q1
 have n1_2:b1≠b2:=lR o1 eb
 clear o1
 clear eb ew
 refine zp 1<|aD<|aL<|aC<|zp 2<|zb tk5 q1<|zp 2<|zb tk5 q2<|zp 1<|aD<|zc h (fun h=>?_) fun h=>?_
 exact aC<|zp 2<|zb tk5 q1<|zp 2<|zb tk5 q2<|zp 2<|aD<|aN<|aH<|z1 ⟨_,rfl,h⟩
 refine aJ<|aL<|aC<|zp 2<|zb tk3 q1<|zp 2<|zb tk3 q2<|zp 1<|aD<|zc h (fun h=>?_) fun h=>?_
 exact aC<|zp 2<|zb tk3 q1<|zp 2<|zb tk3 q2<|zp 2<|aD<|aN<|aH<|z1 ⟨_,rfl,h⟩
 exact aJ<|aC<|zp 1<|zb tk9 q1<|zp 1<|zb tk9 q2<|zp 2<|aD<|aN<|z1 ⟨_,rfl,h⟩
end Go.Proofs.YtcbijkakoepglaaGreat
namespace Go.Proofs.YtcbijkakoepglaaGreat
open Go Go.Wx
section
variable {w : World}
theorem lG{n lo hi:Int}{Q:Bool→World→Prop}(hQ:Q (decide (lo≤n∧n≤hi)) w):Cl Pg 132 #[vi n,vi lo,vi hi] w (fun v w'=>∃r,v=vb r∧Q r w'):=by
 refine qW.ok ?_;unfold qW.R;have:((decide (n≥lo))&&(decide (n≤hi)))=decide (lo≤n∧n≤hi):=by rw[Bool.eq_iff_iff];simp
 rw[this];exact hQ
theorem aGF{s:ByteArray}{Q:Bool→World→Prop}(hQ:Q (named s) w):Cl Pg 133 #[vs s] w (fun v w'=>∃r,v=vb r∧Q r w'):=by
 refine fP.ok (ifb ?_);have jt:named s=false→fP.j1 Q s true w:=fun h=>by
  unfold fP.j1;refine jM ?_;rw[←h];exact hQ
 split
 ·rename_i h;have h':=of_decide_eq_true h;exact jt (by unfold named;rw[if_pos (by omega)])
 rename_i h;have h1:¬s.size<1:=by simp only[decide_eq_true_eq]at h;omega
 refine ifb ?_;split
 ·rename_i h;have h':=of_decide_eq_true h;exact jt (by unfold named;rw[if_neg h1,if_pos (by omega)])
 rename_i h;have h2:¬s.size>24:=by simp only[decide_eq_true_eq]at h;omega
 have hd:s.size=s.data.size:=rfl;have g0:s.data[0]?.map (·.toNat)=some (s[0]'(by omega)).toNat:=by
  rw[Array.getElem?_eq_getElem (by omega)];rfl
 have g1:s.data[s.size-1]?.map (·.toNat)=some (s[s.size-1]'(by omega)).toNat:=by
  rw[Array.getElem?_eq_getElem (by omega)];rfl
 refine⟨by omega,by omega,ifb ?_⟩;split
 ·rename_i h;refine jt ?_;unfold named;rw[if_neg h1,if_neg h2,g0,if_pos];have h':((s[0]'(by omega)).toNat:Int)=32:=eq_of_beq h;simp;omega
 rename_i h3;have hw:IntKind.wrap .i64 (((s.size:Nat):Int)-1)=((s.size-1:Nat):Int):=by rw[bQ (by omega) (by omega)];omega
 rw[hw];refine⟨by omega,by omega,?_⟩;simp only[Int.toNat_natCast];unfold fP.j1;refine ifb ?_;split
 ·rename_i h;have:named s=false:=by
   unfold named;rw[if_neg h1,if_neg h2,g0,if_neg,g1,if_pos]
   ·have:=eq_of_beq h;simp;omega
   ·have h3':¬((s[0]'(by omega)).toNat:Int)=32:=by simpa using h3
    simp;omega
  rw[←this];exact hQ
 rename_i h4;have hn:named s=qG s:=by
  unfold named;rw[if_neg h1,if_neg h2,g0,if_neg,g1,if_neg]
  ·have h4':¬((s[s.size-1]'(by omega)).toNat:Int)=32:=by simpa using h4
   simp;omega
  ·have h3':¬((s[0]'(by omega)).toNat:Int)=32:=by simpa using h3
   simp;omega
 rw[hn]at hQ;refine⟨s.size+1,?_⟩;have hsz:s.size=s.data.toList.length:=by show s.data.size=_;rw[Array.length_toList]
 have key:∀m i,i+m=s.size→(∀b∈s.data.toList.take i,aB9 b.toNat=false)→fP.l1 Q s (m+1) (i:Nat) w:=by
  intro m;induction m with
  | zero=>
   intro i hi hb;unfold fP.l1;refine dK (by omega) ?_;rw[List.take_of_length_le (by omega)]at hb;have:qG s=true:=by
    unfold qG;rw[List.all_eq_true];intro x hx;rw[hb x hx];rfl
   rw[←this];exact hQ
  | succ m ih=>
   intro i hi hb;unfold fP.l1;have hlt:i<s.size:=by omega
   have hget:s.data.toList[i]? =some (s[i]'hlt):=by
    rw[List.getElem?_eq_getElem (by omega)];simp[ByteArray.getElem_eq_getElem_data]
   refine dQ (by omega) ⟨by omega,by omega,?_⟩;simp only[Int.toNat_natCast];have hbad:(!(((((decide (((s[i]'hlt).toNat:Int)≥(97:Int)))&&(decide (((s[i]'hlt).toNat:Int)≤(122:Int))))||((decide (((s[i]'hlt).toNat:Int)≥(48:Int)))&&(decide (((s[i]'hlt).toNat:Int)≤(57:Int)))))||(((s[i]'hlt).toNat:Int)==(32:Int)))||(((s[i]'hlt).toNat:Int)==(45:Int))))=aB9 ((s[i]'hlt).toNat:Nat):=by
    unfold aB9;rw[Bool.eq_iff_iff];simp
   rw[hbad];refine ifb ?_;split
   ·rename_i hb';have:qG s=false:=by
     unfold qG;rw[List.all_eq_false];exact⟨_,List.mem_of_getElem? hget,by simpa using hb'⟩
    rw[←this];exact hQ
   ·rename_i hb';rw[fO (n:=s.size) (by omega) (by omega) (by simp only[maxLen];omega)];refine ih (i+1) (by omega) fun b hbm=>?_;rw[List.take_succ,hget]at hbm;rcases List.mem_append.1 hbm with h | h
    ·exact hb b h
    ·simp at h;subst h;simpa using hb'
 exact key s.size 0 (by omega) (fun b hb=>by simp at hb)
theorem aDS{x y:TTrialLine}{Q:Bool→World→Prop}(hQ:∀w',Ext w w'→Q (iZ x y) w'):Cl Pg 136 #[vg x.enc,vg y.enc] w (fun v w'=>∃r,v=vb r∧Q r w'):=by
 refine qF.ok (bW (er w) fun b1 w1 _ _ E _ _=>bW E fun b2 w2 _ _ E _ _=>ifb ?_);have hQ:=hQ w2 E;have key:∀{p:Prop} [Decidable p],(iZ x y=true↔p)→Q (decide p) w2:=fun{p} _ h=>by
  have:iZ x y=decide p:=by rw[Bool.eq_iff_iff,h];simp
  rw[←this];exact hQ
 split
 ·rename_i h;have h:x.Account_Kind≠y.Account_Kind:=by simpa using h
  refine key ?_;rw[pN];exact⟨fun h'=>h'.resolve_right fun h2=>h h2.1,.inl⟩
 rename_i h;have h:x.Account_Kind=y.Account_Kind:=by simpa using h
 refine ifb ?_;split
 ·rename_i h2;have h2:x.Account_Id≠y.Account_Id:=by simpa using h2
  refine key ?_;rw[pN];constructor
  ·rintro(h' | ⟨_,h' | ⟨h',_⟩⟩)
   ·omega
   ·exact h'
   ·exact absurd h' h2
  ·exact fun h'=> .inr ⟨h,.inl h'⟩
 ·rename_i h2;have h2:x.Account_Id=y.Account_Id:=by simpa using h2
  have:iZ x y=iO x.Unit y.Unit:=by
   rw[Bool.eq_iff_iff,pN];constructor
   ·rintro(h' | ⟨_,h' | ⟨_,h'⟩⟩)
    ·omega
    ·omega
    ·exact h'
   ·exact fun h'=> .inr ⟨h,.inr ⟨h2,h'⟩⟩
  rw[←this];exact hQ
end
end Go.Proofs.YtcbijkakoepglaaGreat
namespace Go.Proofs.YtcbijkakoepglaaGreat
open Go Go.Wx
set_option maxRecDepth 100000
def dD.j1(Q:Int→World→Prop)(l:Option Addr)(v1:Int)(v2:Int)(kl1:Int→Int→World→Prop)(v3:Bool)(w2:World):Prop:=(
 Ifb v3
 (NN l fun p2=>
 dU w2 (Addr.add p2 2) fun x2_a x2_n x2_c=>
 Ix x2_a x2_n v2 fun p3=>
 LdI .i64 w2 (Addr.add (Addr.add p3 (v2.toNat*3)) 2) fun x3=>
 kl1 x3 (IntKind.wrap .i64 (v2+1)) w2)
 (kl1 v1 (IntKind.wrap .i64 (v2+1)) w2))
def dD.l1(Q:Int→World→Prop)(l:Option Addr)(unit:ByteArray)(day:Int):Nat→Int→Int→World→Prop
 | 0,_,_,_=>False
 | nl1+1,v1,v2,w1=>(
 NN l fun p1=>
 dU w1 (Addr.add p1 2) fun x1_a x1_n x1_c=>
 Ifb (decide (v2<((x1_n:Nat):Int)))
 (NN l fun p4=>
 dU w1 (Addr.add p4 2) fun x4_a x4_n x4_c=>
 Ix x4_a x4_n v2 fun p5=>
 LdS w1 (Addr.add p5 (v2.toNat*3)) fun x5=>
 Ifb (dF x5 unit)
 (NN l fun p6=>
 dU w1 (Addr.add p6 2) fun x6_a x6_n x6_c=>
 Ix x6_a x6_n v2 fun p7=>
 LdI .i64 w1 (Addr.add (Addr.add p7 (v2.toNat*3)) 1) fun x7=>
 dD.j1 Q l v1 v2 (dD.l1 Q l unit day nl1) (decide (x7≤day)) w1)
 (dD.j1 Q l v1 v2 (dD.l1 Q l unit day nl1) false w1))
 (Q v1 w1))
def dD.R(Q:Int→World→Prop)(l:Option Addr)(unit:ByteArray)(day:Int)(w:World):Prop:=(
 ∃k,dD.l1 Q l unit day k 0 0 w)
theorem dD.ok{Q:Int→World→Prop}{l:Option Addr}{unit:ByteArray}{day:Int}{w:World}(h:dD.R Q l unit day w):Cl Pg 54 #[vP l,vs unit,vi day] w (fun v w'=>∃r0,v=vi r0∧Q r0 w'):=by
 refine aI (args:=[vP l,vs unit,vi day]) Tryz.func54 ?_
 unfold dD.R at h
 refine aC<|zp 1<|aD<|aC<|zp 1<|aD<|aL<|aC<|zp 1<|aD<|aR ?_
 obtain⟨nl1,h⟩:=h
 refine bS (fun k e w1=>∃(e0:Env) (v1:Int) (v2:Int),e=upds e0 [(0,vP l),(1,vs unit),(2,vi day),(7,vi v1),(8,vi v2)]∧dD.l1 Q l unit day k v1 v2 w1) nl1 ?_ ?_ ?_
 rintro _ _ ⟨_,_,_,_,h⟩
 exact h
 exact⟨_,0,0,ag,h⟩
 clear h nl1
 rintro nl1 _ w1 ⟨e0,v1,v2,rfl,h⟩
 unfold dD.l1 at h
 refine aL<|aC<|zp 2<|zo h fun p1 h=>zp 1<|zr aAC h fun x1_a x1_n x1_c hx1 h=>zp 2<|aD<|zc h (fun h=>?_) fun h=>?_
 refine aJ<|aL<|aR<|fD (fun e w2=>∃(e0:Env) (v3:Bool),e=upds e0 [(0,vP l),(1,vs unit),(2,vi day),(7,vi v1),(8,vi v2),(39,vb v3)]∧dD.j1 Q l v1 v2 (dD.l1 Q l unit day nl1) v3 w2) ?_ ?_
 refine aW<|zp 1<|zo h fun p4 h=>zp 1<|zr aAC h fun x4_a x4_n x4_c hx4 h=>zp 1<|zi aDy h fun p5 h=>zp 1<|zd tk9 h fun x5 hx5 h=>zp 3<|zs 28 h (fun h=>?_) fun h=>?_
 exact zp 1<|zo h fun p6 h=>zp 1<|zr aAC h fun x6_a x6_n x6_c hx6 h=>zp 1<|zi aDy h fun p7 h=>zp 1<|zd tk3 h fun x7 hx7 h=>zp 3<|aD<|⟨_,decide (x7≤day),ag,h⟩
 exact zp 11<|aD<|⟨_,false,ag,h⟩
 clear h
 rintro _ w2 ⟨e0,v3,rfl,h⟩
 unfold dD.j1 at h
 refine zc h (fun h=>?_) fun h=>?_
 exact aW<|zp 1<|zo h fun p2 h=>zp 1<|zr aAC h fun x2_a x2_n x2_c hx2 h=>zp 1<|zi aDy h fun p3 h=>zp 1<|zd tk3 h fun x3 hx3 h=>zp 1<|aD<|aG<|aW<|zp 3<|aD<|⟨_,x3,IntKind.wrap .i64 (v2+1),ag,h⟩
 exact aJ<|aG<|aW<|zp 3<|aD<|⟨_,v1,IntKind.wrap .i64 (v2+1),ag,h⟩
 exact dE<|aU<|aC<|zp 2<|aD<|aN<|z1 ⟨_,rfl,h⟩
def fX.l1(Q:Int→World→Prop)(l:Option Addr)(unit:ByteArray)(n:Int)(day:Int)(b1:Nat):Nat→TTerm→Int→World→Prop
 | 0,_,_,_=>False
 | nl1+1,y1,v1,w3=>(
 NN l fun p1=>
 dU w3 (Addr.add p1 3) fun x1_a x1_n x1_c=>
 Ifb (decide (v1<((x1_n:Nat):Int)))
 (NN l fun p2=>
 dU w3 (Addr.add p2 3) fun x2_a x2_n x2_c=>
 Ix x2_a x2_n v1 fun p3=>
 LdT TTerm.enc w3 (Addr.add p3 (v1.toNat*4)) fun x3=>
 Al w3 (.cells #[vs (ByteArray.mk #[]),vi 0,vi 0,vi 0] 156) fun b2 w4=>
 Sb w4 b2 (.cells #[vs x3.Unit,vi x3.Day,vi x3.Least,vi x3.Days] 156 (0,0)) fun w5=>
 Ifb ((((dF x3.Unit unit)&&(decide (x3.Day≤day)))&&(decide (x3.Least≤n)))&&(decide (x3.Least≥y1.Least)))
 (Sb w5 b1 (.cells #[vs x3.Unit,vi x3.Day,vi x3.Least,vi x3.Days] 156 (0,0)) fun w6=>
 (fX.l1 Q l unit n day b1 nl1) x3 (IntKind.wrap .i64 (v1+1)) w6)
 ((fX.l1 Q l unit n day b1 nl1) y1 (IntKind.wrap .i64 (v1+1)) w5))
 (Q y1.Days w3))
def fX.R(Q:Int→World→Prop)(l:Option Addr)(unit:ByteArray)(n:Int)(day:Int)(w:World):Prop:=(
 Al w (.cells #[vs (ByteArray.mk #[]),vi 0,vi 0,vi 0] 156) fun b1 w1=>
 Sb w1 b1 (.cells #[vs (ByteArray.mk #[]),vi 0,vi 0,vi 0] 156 (0,0)) fun w2=>
 ∃k,fX.l1 Q l unit n day b1 k (⟨(ByteArray.mk #[]),0,0,0⟩:TTerm) 0 w2)
theorem fX.ok{Q:Int→World→Prop}{l:Option Addr}{unit:ByteArray}{n:Int}{day:Int}{w:World}(h:fX.R Q l unit n day w):Cl Pg 56 #[vP l,vs unit,vi n,vi day] w (fun v w'=>∃r0,v=vi r0∧Q r0 w'):=by
 refine aI (args:=[vP l,vs unit,vi n,vi day]) Tryz.func56 ?_
 unfold fX.R at h
 refine aC<|zp 1<|aD<|aC<|zp 1<|zq h fun b1 w1 _ _ q1 h=>zt aCz q1 h fun w2 ew q h=>?_
 replace q1:=q
 refine aD<|aL<|aC<|zp 1<|aD<|aR ?_
 obtain⟨nl1,h⟩:=h
 refine bS (fun k e w3=>∃(e0:Env) (y1:TTerm) (v1:Int),e=upds e0 [(0,vP l),(1,vs unit),(2,vi n),(3,vi day),(9,vp ⟨b1,0,none⟩),(10,vi v1)]∧w3.heap[b1]? =some (.cells #[vs y1.Unit,vi y1.Day,vi y1.Least,vi y1.Days] 156 (0,0))∧fX.l1 Q l unit n day b1 k y1 v1 w3) nl1 ?_ ?_ ?_
 rintro _ _ ⟨_,_,_,_,_,h⟩
 exact h
 exact⟨_,(⟨(ByteArray.mk #[]),0,0,0⟩:TTerm),0,ag,q1,h⟩
 clear h nl1 q1
 rintro nl1 _ w3 ⟨e0,y1,v1,rfl,q1,h⟩
 unfold fX.l1 at h
 refine aL<|aC<|zp 2<|zo h fun p1 h=>zp 1<|zr aAi h fun x1_a x1_n x1_c hx1 h=>zp 2<|aD<|zc h (fun h=>?_) fun h=>?_
 refine aJ<|aL<|aR<|aC<|zp 1<|zo h fun p2 h=>zp 1<|zr aAi h fun x2_a x2_n x2_c hx2 h=>zp 1<|zi slk141 h fun p3 h=>?_
 obtain⟨x3,hx3,h⟩:=h
 refine zn aCz hx3<|zq h fun b2 w4 eb ew q2 h=>?_
 have o1:=q1
 replace q1:=fQ ew q1
 have n1_2:b1≠b2:=lR o1 eb
 clear o1
 clear eb ew
 refine zt aCz q2 h fun w5 ew q h=>?_
 replace q1:=dC ew n1_2 q1
 replace q2:=q
 refine aD<|aC<|zp 1<|zb tk9 q2<|zp 3<|jV (fun e w_=>∃(e0:Env),e=upds e0 [(0,vP l),(1,vs unit),(2,vi n),(3,vi day),(9,vp ⟨b1,0,none⟩),(10,vi v1),(11,vp ⟨b2,0,none⟩),(51,vb ((((dF x3.Unit unit)&&(decide (x3.Day≤day)))&&(decide (x3.Least≤n)))&&(decide (x3.Least≥y1.Least))))]∧w5=w_) ?_ ?_
 clear h
 refine dO 33 (b:=dF x3.Unit unit) rfl (fun hb0=>?_) (fun hb0=>?_)
 refine zp 1<|zb tk3 q2<|zp 4<|dO 39 (b:=decide (x3.Day≤day)) rfl (fun hb1=>?_) (fun hb1=>?_)
 refine zp 1<|zb tk3 q2<|zp 4<|dO 45 (b:=decide (x3.Least≤n)) rfl (fun hb2=>?_) (fun hb2=>?_)
 refine zp 1<|zb tk3 q2<|zp 1<|zb tk3 q1<|zp 2 ?_
 rw[hb0,hb1,hb2]
 exact aD ⟨_,ag,rfl⟩
 refine zp 6 ?_
 rw[hb0,hb1,hb2]
 exact aD ⟨_,ag,rfl⟩
 refine zp 12 ?_
 rw[hb0,hb1]
 exact aD ⟨_,ag,rfl⟩
 refine zp 18 ?_
 rw[hb0]
 exact aD ⟨_,ag,rfl⟩
 rintro _ _ ⟨e0,rfl,rfl⟩
 refine zc h (fun h=>?_) fun h=>?_
 refine aW<|zm aCz q2<|zt aCz q1 h fun w6 ew q h=>?_
 replace q1:=q
 exact aD<|aG<|aW<|zp 3<|aD<|⟨_,x3,IntKind.wrap .i64 (v1+1),ag,q1,h⟩
 exact aJ<|aG<|aW<|zp 3<|aD<|⟨_,y1,IntKind.wrap .i64 (v1+1),ag,q1,h⟩
 exact dE<|aU<|aC<|zp 1<|zb tk3 q1<|zp 1<|aD<|aN<|z1 ⟨_,rfl,h⟩
def oX.R(Q:Int→World→Prop)(l:Option Addr)(day:Int)(w:World):Prop:=(
 Cl Pg 132 #[vi day,vi 0,vi 100000] w (fun v w1=>∃r1,v=vb r1∧Ifb (!r1)
 (Q 1 w1)
 (NN l fun p1=>
 LdI .i64 w1 p1 fun x1=>
 Ifb (decide (day<x1))
 (Q 7 w1)
 (Q 0 w1))))
theorem oX.ok{Q:Int→World→Prop}{l:Option Addr}{day:Int}{w:World}(h:oX.R Q l day w):Cl Pg 157 #[vP l,vi day] w (fun v w'=>∃r0,v=vi r0∧Q r0 w'):=by
 refine aI (args:=[vP l,vi day]) Tryz.func157 ?_
 unfold oX.R at h
 refine aC<|zp 1<|aD<|aC<|zp 1<|zk h ?_
 rintro _ w1 ⟨r1,rfl,h⟩
 refine zp 1<|aD<|aL<|aC<|zp 2<|aD<|zc h (fun h=>?_) fun h=>?_
 exact aC<|zp 1<|aD<|aN<|aH<|z1 ⟨_,rfl,h⟩
 refine aJ<|aL<|aC<|zp 2<|zo h fun p1 h=>zp 1<|zd tk3 h fun x1 hx1 h=>zp 1<|aD<|zc h (fun h=>?_) fun h=>?_
 exact aC<|zp 1<|aD<|aN<|aH<|z1 ⟨_,rfl,h⟩
 exact aJ<|aC<|zp 1<|aD<|aN<|z1 ⟨_,rfl,h⟩
def oF.R(Q:Int→World→Prop)(l:Option Addr)(c:Option Addr)(w:World):Prop:=(
 NN c fun p1=>
 dU w (Addr.add p1 5) fun x1_a x1_n x1_c=>
 Ifb (decide (((x1_n:Nat):Int)>20000))
 (Q 2 w)
 (NN c fun p2=>
 LdI .i64 w p2 fun x2=>
 NN l fun p3=>
 St w p3 ([vi x2]) fun w1=>
 NN c fun p4=>
 dU w1 (Addr.add p4 1) fun x3_a x3_n x3_c=>
 NN l fun p5=>
 St w1 (Addr.add p5 1) ([vl x3_a x3_n x3_c]) fun w2=>
 NN c fun p6=>
 dU w2 (Addr.add p6 2) fun x4_a x4_n x4_c=>
 NN l fun p7=>
 St w2 (Addr.add p7 2) ([vl x4_a x4_n x4_c]) fun w3=>
 NN c fun p8=>
 dU w3 (Addr.add p8 3) fun x5_a x5_n x5_c=>
 NN l fun p9=>
 St w3 (Addr.add p9 3) ([vl x5_a x5_n x5_c]) fun w4=>
 NN c fun p10=>
 dU w4 (Addr.add p10 4) fun x6_a x6_n x6_c=>
 NN l fun p11=>
 St w4 (Addr.add p11 4) ([vl x6_a x6_n x6_c]) fun w5=>
 NN c fun p12=>
 dU w5 (Addr.add p12 5) fun x7_a x7_n x7_c=>
 NN l fun p13=>
 St w5 (Addr.add p13 5) ([vl x7_a x7_n x7_c]) fun w6=>
 Q 0 w6))
theorem oF.ok{Q:Int→World→Prop}{l:Option Addr}{c:Option Addr}{w:World}(h:oF.R Q l c w):Cl Pg 160 #[vP l,vP c] w (fun v w'=>∃r0,v=vi r0∧Q r0 w'):=by
 refine aI (args:=[vP l,vP c]) Tryz.func160 ?_
 unfold oF.R at h
 refine aC<|zp 1<|aD<|aL<|aC<|zp 1<|zo h fun p1 h=>zp 1<|zr sT h fun x1_a x1_n x1_c hx1 h=>zp 2<|aD<|zc h (fun h=>?_) fun h=>?_
 exact aC<|zp 1<|aD<|aN<|aH<|z1 ⟨_,rfl,h⟩
 refine aJ<|aC<|zp 2<|zo h fun p2 h=>zp 1<|zd tk3 h fun x2 hx2 h=>zo h fun p3 h=>zp 1<|zu tk3 h ?_
 rintro w1 h
 refine aD<|aC<|zp 2<|zo h fun p4 h=>zp 1<|zr vD h fun x3_a x3_n x3_c hx3 h=>zo h fun p5 h=>zp 1<|zu vD h ?_
 rintro w2 h
 refine aD<|aC<|zp 2<|zo h fun p6 h=>zp 1<|zr aAC h fun x4_a x4_n x4_c hx4 h=>zo h fun p7 h=>zp 1<|zu aAC h ?_
 rintro w3 h
 refine aD<|aC<|zp 2<|zo h fun p8 h=>zp 1<|zr aAi h fun x5_a x5_n x5_c hx5 h=>zo h fun p9 h=>zp 1<|zu aAi h ?_
 rintro w4 h
 refine aD<|aC<|zp 2<|zo h fun p10 h=>zp 1<|zr iU h fun x6_a x6_n x6_c hx6 h=>zo h fun p11 h=>zp 1<|zu iU h ?_
 rintro w5 h
 refine aD<|aC<|zp 2<|zo h fun p12 h=>zp 1<|zr sT h fun x7_a x7_n x7_c hx7 h=>zo h fun p13 h=>zp 1<|zu sT h ?_
 rintro w6 h
 exact aD<|aC<|zp 1<|aD<|aN<|z1 ⟨_,rfl,h⟩
def pT.R(Q:Int→World→Prop)(l:Option Addr)(x:TLot)(from_:TAccount)(why:Int)(w:World):Prop:=(
 Al w (.cells #[vi x.Id,vi x.Thing,vi x.Layer,vi x.Day,vi x.Due,vs x.Unit,vi x.N,vi x.Left,vu x.State,vi x.Bag] 45) fun b1 w1=>
 Al w1 (.cells #[vu from_.Kind,vi from_.Id] 40) fun b2 w2=>
 NN l fun p1=>
 dU w2 (Addr.add p1 4) fun x1_a x1_n x1_c=>
 Sb w2 b1 (.cells #[vi (IntKind.wrap .i64 (((x1_n:Nat):Int)+1)),vi x.Thing,vi x.Layer,vi x.Day,vi x.Due,vs x.Unit,vi x.N,vi x.Left,vu x.State,vi x.Bag] 45 (0,0)) fun w3=>
 NN l fun p2=>
 LdI .i64 w3 p2 fun x2=>
 Sb w3 b1 (.cells #[vi (IntKind.wrap .i64 (((x1_n:Nat):Int)+1)),vi x.Thing,vi x.Layer,vi x2,vi x.Due,vs x.Unit,vi x.N,vi x.Left,vu x.State,vi x.Bag] 45 (0,0)) fun w4=>
 Sb w4 b1 (.cells #[vi (IntKind.wrap .i64 (((x1_n:Nat):Int)+1)),vi x.Thing,vi x.Layer,vi x2,vi x.Due,vs x.Unit,vi x.N,vi x.N,vu x.State,vi x.Bag] 45 (0,0)) fun w5=>
 Sb w5 b1 (.cells #[vi (IntKind.wrap .i64 (((x1_n:Nat):Int)+1)),vi x.Thing,vi x.Layer,vi x2,vi x.Due,vs x.Unit,vi x.N,vi x.N,vu 1,vi x.Bag] 45 (0,0)) fun w6=>
 Dr w6 fun w7=>
 NN l fun p3=>
 dU w7 (Addr.add p3 4) fun x3_a x3_n x3_c=>
 Al w7 (.cells #[vi (IntKind.wrap .i64 (((x1_n:Nat):Int)+1)),vi x.Thing,vi x.Layer,vi x2,vi x.Due,vs x.Unit,vi x.N,vi x.N,vu 1,vi x.Bag] 45) fun b3 w8=>
 Ap Pg w8 #[46,46] 46 (vl x3_a x3_n x3_c) (vl (some ⟨b3,0,none⟩) 1 1) fun a1_a a1_n a1_c w9=>
 Kp b1 w8 w9∧Kp b2 w8 w9∧NN l fun p4=>
 St w9 (Addr.add p4 4) ([vl a1_a a1_n a1_c]) fun w10=>
 Kp b1 w9 w10∧Kp b2 w9 w10∧Dr w10 fun w11=>
 NN l fun p5=>
 LdI .i64 w11 p5 fun x4=>
 Cl Pg 163 #[vi x.Thing] w11 (fun v w12=>∃r1,v=vg (TAccount.enc r1)∧Kp b1 w11 w12∧Kp b2 w11 w12∧w12.cell? p5=some (vi x4)∧Cl Pg 165 #[vP l,vi x4,vs x.Unit,vi x.N,vg [vu from_.Kind,vi from_.Id],vg (TAccount.enc r1),vu why,vi (IntKind.wrap .i64 (((x1_n:Nat):Int)+1))] w12 (fun v w13=>v= .tuple #[]∧Kp b1 w12 w13∧Q (IntKind.wrap .i64 (((x1_n:Nat):Int)+1)) w13)))
theorem pT.ok{Q:Int→World→Prop}{l:Option Addr}{x:TLot}{from_:TAccount}{why:Int}{w:World}(h:pT.R Q l x from_ why w):Cl Pg 161 #[vP l,vg (TLot.enc x),vg (TAccount.enc from_),vu why] w (fun v w'=>∃r0,v=vi r0∧Q r0 w'):=by
 refine aI (args:=[vP l,vg (TLot.enc x),vg (TAccount.enc from_),vu why]) Tryz.func161 ?_
 unfold pT.R at h
 refine aC<|zq h fun b1 w1 _ _ q1 h=>zq h fun b2 w2 eb ew q2 h=>?_
 have o1:=q1
 replace q1:=fQ ew q1
 have n1_2:b1≠b2:=lR o1 eb
 clear o1
 clear eb ew
 refine zp 1<|aD<|aC<|zp 1<|zo h fun p1 h=>zp 1<|zr iU h fun x1_a x1_n x1_c hx1 h=>zp 3<|zt tk3 q1 h fun w3 ew q h=>?_
 replace q2:=dC ew n1_2.symm q2
 replace q1:=q
 refine aD<|aC<|zp 1<|zo h fun p2 h=>zp 1<|zd tk3 h fun x2 hx2 h=>zp 1<|zt tk3 q1 h fun w4 ew q h=>?_
 replace q2:=dC ew n1_2.symm q2
 replace q1:=q
 refine aD<|aC<|zp 1<|zb tk3 q1<|zp 1<|zt tk3 q1 h fun w5 ew q h=>?_
 replace q2:=dC ew n1_2.symm q2
 replace q1:=q
 refine aD<|aC<|zp 1<|zt tk5 q1 h fun w6 ew q h=>?_
 replace q2:=dC ew n1_2.symm q2
 replace q1:=q
 refine aD<|drs iG [[],[],[],[],[],[],[5],[4,5],[4,5],[4,5],[4,5]] [.p 0,.p 1,.p 2,.p 3,.l 4,.l 5,.e 6,.e 7,.p 8,.p 9,.e 10] h fun w7 ew h=>?_
 replace q1:=dN ew q1
 replace q2:=dN ew q2
 refine zP 2<|zO h fun p3 h=>zP 1<|zR iU h fun x3_a x3_n x3_c hx3 h=>zM jU q1<|zV 1 h fun b3 w8 eb ew q3 h=>?_
 replace q1:=fQ ew q1
 replace q2:=fQ ew q2
 replace hx3:=oE ew hx3
 clear eb ew q3
 refine⟨zf iU hx3<|AllOk.nil,?_⟩
 refine zA h ?_
 rintro a1_a a1_n a1_c w9 ⟨hk0,hk1,h⟩
 replace q1:=bG hk0 q1
 replace q2:=bG hk1 q2
 refine⟨AllOk.nil,?_⟩
 refine zO h fun p4 h=>zP 1<|zU iU h ?_
 rintro w10 ⟨hk0,hk1,h⟩
 replace q1:=bG hk0 q1
 replace q2:=bG hk1 q2
 refine⟨AllOk.nil,?_⟩
 refine bF<|drs iG [[],[],[],[],[],[],[],[],[],[],[],[],[11],[],[],[],[4,6,8,9,11,15]] [.p 0,.p 1,.p 2,.p 3,.l 4,.p 5,.l 6,.p 7,.l 8,.l 9,.p 10,.l 11,.p 13,.p 14,.l 15,.e 12,.e 16] h fun w11 ew h=>?_
 replace q1:=dN ew q1
 replace q2:=dN ew q2
 refine zP 2<|zO h fun p5 h=>zP 1<|zD tk3 h fun x4 hx4 h=>zP 1<|zB tk9 q1<|zP 1<|zB tk3 q1<|zM j8 q2<|zP 1<|zB tk3 q1<|zP 2<|zB tk3 q1<|zK h ?_
 rintro _ w12 ⟨r1,rfl,hk0,hk1,hk2,h⟩
 replace q1:=bG hk0 q1
 replace q2:=bG hk1 q2
 replace hx4:=hk2
 refine⟨AllOk.cons (jW (jO rfl rfl (fW tk3 (aV q1 rfl))))<|AllOk.cons (jW (jO rfl rfl (bT j8 (vs:=[vu from_.Kind,vi from_.Id]) rfl (dS q2 rfl))))<|AllOk.cons (jW (jO rfl rfl (fW tk3 (aV q1 rfl))))<|AllOk.cons (jW (jO rfl rfl (fW tk9 (aV q1 rfl))))<|zf tk3 hx4<|AllOk.nil,?_⟩
 refine zK h ?_
 rintro _ w13 ⟨rfl,hk0,h⟩
 replace q1:=bG hk0 q1
 refine⟨AllOk.nil,?_⟩
 exact bF<|aC<|zp 1<|zb tk3 q1<|zp 1<|aD<|aN<|z1 ⟨_,rfl,h⟩
end Go.Proofs.YtcbijkakoepglaaGreat
namespace Go.Proofs.YtcbijkakoepglaaGreat
open Go Go.Wx
structure Rel(us:List RUnit)(vals:List RVal)(ts:List TTerm)(M:MState):Prop where
 un:us.map (fun u=>(u.name,u.kind))=M.units.map fun u=>(u.name,u.kind)
 nd:us.Pairwise fun x y=>x.name≠y.name
 kinds:∀u∈us,1≤u.kind∧u.kind≤3
 vq:∀u∈M.units,u.values=(vals.filter fun v=>dF v.unit u.name).map fun v=>⟨v.day,v.grains⟩
 vin:∀v∈vals,∃u∈us,u.name=v.unit
 terms:ts.map (fun t=>(⟨t.Day,t.Least,t.Days,t.Unit⟩:Tterm))=M.terms
theorem Rel.same{us:List RUnit}{vals:List RVal}{ts:List TTerm}{M M':MState}(h:Rel us vals ts M)(h1:M'.units=M.units)(h2:M'.terms=M.terms):Rel us vals ts M':=
 ⟨by rw[h1];exact h.un,h.nd,h.kinds,by rw[h1];exact h.vq,h.vin,by rw[h2];exact h.terms⟩
def xE(name:ByteArray):List RUnit→Int
 |[]=>0
 | u::us=>if dF u.name name then u.kind else xE name us
section
variable {w w' : World} {b : Nat} {s : RSt} {us : List RUnit} {vals : List RVal} {ts : List TTerm} {M : MState}
theorem xQ(h:RLed w b s us vals ts M)(hn:us.length≤1000000){name:ByteArray}{Q:Int→World→Prop}(hQ:Q (xE name us) w):
 Cl Pg 159 #[vP (some ⟨b,0,none⟩),vs name] w (fun v w'=>∃r,v=vu r∧Q r w'):=by
 have hl:=h.units.1;refine iL.ok ⟨s.un+1,?_⟩;have key:∀m i,i+m=s.un→Q (xE name (us.drop i)) w→iL.l1 Q (some ⟨b,0,none⟩) name (m+1) (i:Nat) w:=by
  intro m;induction m with
  | zero=>
   intro i hi hq;unfold iL.l1;rw[List.drop_of_length_le (by omega)]at hq;exact⟨_,rfl,_,_,_,h.cells.at 1 rfl,dK (by omega) hq⟩
  | succ m ih=>
   intro i hi hq;unfold iL.l1;refine⟨_,rfl,_,_,_,h.cells.at 1 rfl,dQ (by omega) ⟨_,rfl,_,_,_,h.cells.at 1 rfl,(h.units.rd aCJ).ix (by omega) (by omega) fun a0 x ha hx hc=>⟨_,by have:=hc.at 0 rfl;rwa[rI,Nat.add_zero]at this,ifb ?_⟩⟩⟩;rw[Int.toNat_natCast]at hx;obtain⟨hlt,hx'⟩:=List.getElem?_eq_some_iff.1 hx;rw[List.drop_eq_getElem_cons hlt,hx']at hq;unfold xE at hq;split
   ·rename_i e;rw[if_pos e]at hq;refine⟨_,rfl,_,_,_,h.cells.at 1 rfl,(h.units.rd aCJ).ix (by omega) (by omega) fun a1 y ha1 hy hc1=>⟨_,hc1.at 1 rfl,?_⟩⟩;rw[Int.toNat_natCast,hx]at hy;cases hy;exact hq
   ·rename_i e;rw[if_neg e]at hq;rw[nG (by omega)];exact ih (i+1) (by omega) hq
 exact key s.un 0 (by omega) (by simpa using hQ)
def aBd(name:ByteArray)(day:Int):Int→List RVal→Int
 | n,[]=>n
 | n,v::vs=>aBd name day (if dF v.unit name&&decide (v.day≤day)then v.grains else n) vs
theorem xY(h:RLed w b s us vals ts M)(hn:vals.length≤1000000){name:ByteArray}{day:Int}{Q:Int→World→Prop}(hQ:Q (aBd name day 0 vals) w):
 Cl Pg 54 #[vP (some ⟨b,0,none⟩),vs name,vi day] w (fun v w'=>∃r,v=vi r∧Q r w'):=by
 have hl:=h.vals.1;refine dD.ok ⟨s.vn+1,?_⟩;have key:∀m i n,i+m=s.vn→Q (aBd name day n (vals.drop i)) w→dD.l1 Q (some ⟨b,0,none⟩) name day (m+1) n (i:Nat) w:=by
  intro m;induction m with
  | zero=>
   intro i n hi hq;unfold dD.l1;rw[List.drop_of_length_le (by omega)]at hq;exact⟨_,rfl,_,_,_,h.cells.at 2 rfl,dK (by omega) hq⟩
  | succ m ih=>
   intro i n hi hq;unfold dD.l1;refine⟨_,rfl,_,_,_,h.cells.at 2 rfl,dQ (by omega) ⟨_,rfl,_,_,_,h.cells.at 2 rfl,(h.vals.rd aCI).ix (by omega) (by omega) fun a0 x ha hx hc=>⟨_,by have:=hc.at 0 rfl;rwa[rI,Nat.add_zero]at this,?_⟩⟩⟩;rw[Int.toNat_natCast]at hx;obtain⟨hlt,hx'⟩:=List.getElem?_eq_some_iff.1 hx;rw[List.drop_eq_getElem_cons hlt,hx']at hq;unfold aBd at hq
   have jf:∀c,(dF x.unit name&&decide (x.day≤day))=c→dD.j1 Q (some ⟨b,0,none⟩) n (i:Nat) (dD.l1 Q (some ⟨b,0,none⟩) name day (m+1)) c w:=fun c e=>by
    unfold dD.j1;rw[nG (by omega)];refine ifb ?_;split
    ·rename_i hc';rw[e,if_pos hc']at hq;refine⟨_,rfl,_,_,_,h.cells.at 2 rfl,(h.vals.rd aCI).ix (by omega) (by omega) fun a1 y ha1 hy hc1=>⟨_,hc1.at 2 rfl,?_⟩⟩;rw[Int.toNat_natCast,hx]at hy;cases hy;exact ih (i+1) _ (by omega) hq
    ·rename_i hc';rw[e,if_neg hc']at hq;exact ih (i+1) _ (by omega) hq
   refine ifb ?_;split
   ·rename_i e;refine⟨_,rfl,_,_,_,h.cells.at 2 rfl,(h.vals.rd aCI).ix (by omega) (by omega) fun a1 y ha1 hy hc1=>⟨_,hc1.at 1 rfl,?_⟩⟩;rw[Int.toNat_natCast,hx]at hy;cases hy;exact jf _ (by rw[e];rfl)
   ·rename_i e;exact jf _ (by rw[show dF x.unit name=false by simpa using e];rfl)
 exact key s.vn 0 0 (by omega) (by simpa using hQ)
def aAl(name:ByteArray)(n day:Int):TTerm→List TTerm→TTerm
 | b,[]=>b
 | b,x::xs=>aAl name n day (if(((dF x.Unit name)&&(decide (x.Day≤day)))&&(decide (x.Least≤n)))&&(decide (x.Least≥b.Least))then x else b) xs
theorem aE7(h:RLed w b s us vals ts M)(hn:ts.length≤1000000){name:ByteArray}{n day:Int}{Q:Int→World→Prop}(hQ:∀w',Ext w w'→Q (aAl name n day ⟨ByteArray.mk #[],0,0,0⟩ ts).Days w'):
 Cl Pg 56 #[vP (some ⟨b,0,none⟩),vs name,vi n,vi day] w (fun v w'=>∃r,v=vi r∧Q r w'):=by
 have hl:=h.terms.1;refine fX.ok (bW (er w) fun b1 w1 hb1 hat1 E1 _ _=>lW E1 hat1 hb1 fun w2 hat2 E2 _=>⟨s.tn+1,?_⟩);have key:∀m i w' y o,i+m=s.tn→Ext w w'→At w' b1 o→(∀w',Ext w w'→Q (aAl name n day y (ts.drop i)).Days w')→fX.l1 Q (some ⟨b,0,none⟩) name n day b1 (m+1) y (i:Nat) w':=by
  intro m;induction m with
  | zero=>
   intro i w' y o hi E hat hq;unfold fX.l1;rw[List.drop_of_length_le (by omega)]at hq;exact⟨_,rfl,_,_,_,(h.ext E).cells.at 3 rfl,dK (by omega) (hq w' E)⟩
  | succ m ih=>
   intro i w' y o hi E hat hq;unfold fX.l1;refine⟨_,rfl,_,_,_,(h.ext E).cells.at 3 rfl,dQ (by omega) ⟨_,rfl,_,_,_,(h.ext E).cells.at 3 rfl,((h.ext E).terms.rd aEo).ix (by omega) (by omega) fun a0 x ha hx hc=>⟨x,hc,bW E fun b2 w3 hb2 hat2 E3 e3 _=>lW E3 hat2 hb2 fun w4 _ E4 f4=>ifb ?_⟩⟩⟩;rw[Int.toNat_natCast]at hx;obtain⟨hlt,hx'⟩:=List.getElem?_eq_some_iff.1 hx;rw[List.drop_eq_getElem_cons hlt,hx']at hq;unfold aAl at hq;rw[nG (by omega)];have hat4:At w4 b1 o:=(hat.ext e3).frm f4 (by have:=hat.lt;omega);split
   ·rename_i hd;rw[if_pos hd]at hq;exact lW E4 hat4 hb1 fun w5 hat5 E5 _=>ih (i+1) w5 _ _ (by omega) E5 hat5 hq
   ·rename_i hd;rw[if_neg hd]at hq;exact ih (i+1) w4 _ _ (by omega) E4 hat4 hq
 exact key s.tn 0 w2 _ _ (by omega) E2 hat2 (by simpa using hQ)
theorem aEq(h:RLed w b s us vals ts M){day:Int}{Q:Int→World→Prop}(h1:day<0∨100000<day→Q 1 w)(h7:¬(day<0∨100000<day)→day<M.day→Q 7 w)(h0:0≤day→day≤100000→M.day≤day→Q 0 w):
 Cl Pg 157 #[vP (some ⟨b,0,none⟩),vi day] w (fun v w'=>∃r,v=vi r∧Q r w'):=by
 refine oX.ok (lG (ifb ?_));split
 ·rename_i c;exact h1 (by simp at c;omega)
 ·rename_i c;have c:0≤day∧day≤100000:=by simpa using c
  have hd:=h.cells.at 0 rfl;rw[h.day]at hd;refine⟨_,rfl,_,hd,ifb ?_⟩;split
  ·rename_i d;exact h7 (by omega) (of_decide_eq_true d)
  ·rename_i d;exact h0 c.1 c.2 (by simpa using d)
theorem aGL{bc:Nat}{sc:RSt}{us':List RUnit}{vals':List RVal}{ts':List TTerm}{M':MState}(hl:RLed w b s us vals ts M)(hc:RLed w bc sc us' vals' ts' M')(hne:¬bc=b)(hown:¬sc.own b){Q:Int→World→Prop}
 (h2:20000<M'.postings.length→Q 2 w) (h0:∀w',M'.postings.length≤20000→RLed w' b sc us' vals' ts' M'→Frm (fun k=>k=b) w w'→Q 0 w'):
 Cl Pg 160 #[vP (some ⟨b,0,none⟩),vP (some ⟨bc,0,none⟩)] w (fun v w'=>∃r,v=vi r∧Q r w'):=by
 have hm:=hc.moves.1;have ho:∀k,sc.own k→¬k=b:=fun k hk e=>hown (by rw[←e];exact hk);have nx:∀{w1},Frm (fun k=>k=b) w w1→RLed w1 bc sc us' vals' ts' M':=fun F=>hc.frm F hne ho;refine oF.ok ⟨_,rfl,_,_,_,hc.cells.at 5 rfl,ifb ?_⟩;split
 ·rename_i c;exact h2 (by have:=of_decide_eq_true c;omega)
 rename_i c;have c:M'.postings.length≤20000:=by simp at c;omega
 refine⟨_,rfl,_,hc.cells.at 0 rfl,_,rfl,nC hl.blk (by simp[RSt.enc]) fun w1 a1 F1=>⟨_,rfl,_,_,_,(nx F1).cells.at 1 rfl,_,rfl,nC a1 (by simp[RSt.enc,oO]) fun w2 a2 F2=>?_⟩⟩;have G2:=F1.trans' F2;refine⟨_,rfl,_,_,_,(nx G2).cells.at 2 rfl,_,rfl,nC a2 (by simp[RSt.enc,oO]) fun w3 a3 F3=>?_⟩;have G3:=G2.trans' F3;refine⟨_,rfl,_,_,_,(nx G3).cells.at 3 rfl,_,rfl,nC a3 (by simp[RSt.enc,oO]) fun w4 a4 F4=>?_⟩;have G4:=G3.trans' F4
 refine⟨_,rfl,_,_,_,(nx G4).cells.at 4 rfl,_,rfl,nC a4 (by simp[RSt.enc,oO]) fun w5 a5 F5=>?_⟩;have G5:=G4.trans' F5;refine⟨_,rfl,_,_,_,(nx G5).cells.at 5 rfl,_,rfl,nC a5 (by simp[RSt.enc,oO]) fun w6 a6 F6=>?_⟩;have G6:=G5.trans' F6;have h6:=nx G6;exact h0 w6 c ⟨a6,h6.day,h6.units,h6.vals,h6.terms,h6.lots,h6.moves⟩ G6
theorem aEM(h:RLed w b s us vals ts M)(hn:M.lots.length≤1000000)(hp:M.postings.length≤1000000){x:TLot}{f:TAccount}{why:Int}{Q:Int→World→Prop}
 (hQ:∀w' s',RLed w' b s' us vals ts (M.enter {x with Day:=M.day,Left:=x.N} f.Kind f.Id why)→RStep s s' b w w'→x.Bag=0→Q M.nextId w') (hb:x.Bag=0):
 Cl Pg 161 #[vP (some ⟨b,0,none⟩),vg x.enc,vg (TAccount.enc f),vu why] w (fun v w'=>∃r,v=vi r∧Q r w'):=by
 have hl:=h.lots.1;have hid:IntKind.wrap .i64 (((s.ln:Nat):Int)+1)=M.nextId:=by rw[bQ (by omega) (by omega),hl];rfl
 have hd:=h.cells.at 0 rfl;rw[h.day]at hd;refine pT.ok (x:=x) (from_:=f) (bW (er w) fun b1 w1 hb1 hat1 E1 _ _=>bW E1 fun b2 w2 hb2 hat2 E2 e2 g2=>⟨_,rfl,_,_,_,(h.ext E2).cells.at 4 rfl,?_⟩);dsimp only;rw[hid];have n12:¬b2=b1:=by have:=hat1.lt;omega
 refine lW E2 (hat1.ext e2) hb1 fun w3 a3 E3 f3=>⟨_,rfl,_,aDm hd E3,lW E3 a3 hb1 fun w4 a4 E4 f4=>lW E4 a4 hb1 fun w5 a5 E5 f5=>lW E5 a5 hb1 fun w6 a6 E6 f6=>iS E6 fun w7 E7 e7=>⟨_,rfl,_,_,_,(h.ext E7).cells.at 4 rfl,bW E7 fun b3 w8 hb3 hat3 E8 e8 g8=>?_⟩⟩;have h8:=h.ext E8;have hl8:=h8.lots;have hlt:=h.lt;have l1:b1<w8.heap.size:=by have:=a6.lt;have:=e7.size;have:=e8.size;omega
 have l2:b2<w8.heap.size:=by have:=hat2.lt;have:=f3.size;have:=f4.size;have:=f5.size;have:=f6.size;have:=e7.size;have:=e8.size;omega
 have o1:∀k,w.heap.size≤k→¬obk s.la s.lc=some k:=fun k hk e=>by have:=hlt k (.inr (.inr (.inr (.inl e))));omega
 refine jT aBa iQ (fun x=>iN rfl) hl8 (Rd.one (enc:=TLot.enc) (sz:=10) {x with Id:=M.nextId,Day:=M.day,Left:=x.N,State:=1} hat3) (by omega) (by simp only[maxLen];omega) fun a2 c2 w9 ho F9 hb9=>⟨F9.blk _ l1 (o1 b1 hb1),F9.blk _ l2 (o1 b2 hb2),_,rfl,?_⟩;refine nC (h8.blk.frm F9 (hl8.notP h8.blk (by decide))) (by simp[RSt.enc]) fun w10 a10 F10=>?_;obtain⟨h10,s10⟩:=aFM h8 ho F9 hb9 a10 F10;have hbb:=h.blk.lt
 refine⟨F10.blk _ (by have:=F9.size;omega) (fun e=>by have e:b1=b:=e;omega),F10.blk _ (by have:=F9.size;omega) (fun e=>by have e:b2=b:=e;omega),iS (er w10) fun w11 E11 e11=>⟨_,rfl,M.day,?_⟩⟩;have h11:=h10.ext e11;have hd11:=h11.cells.at 0 rfl;rw[h11.day]at hd11;refine⟨hd11,sW fun w12 e12=>?_⟩;have h12:=h11.ext e12;have hd12:=h12.cells.at 0 rfl;rw[h12.day]at hd12;have z11:w8.heap.size≤w11.heap.size:=by have:=F9.size;have:=F10.size;have:=e11.size;omega
 refine⟨e12.blk _ (by omega) id,e12.blk _ (by omega) id,hd12,uN (t:=⟨2,x.Thing⟩) h12 hp fun w13 s13 h13 _ st13=>⟨?_,?_⟩⟩
 ·refine st13.frm.blk _ (by have:=e12.size;omega) fun hk=>hk.elim (by omega) fun ho=>?_;rcases (s10.sub b1 ho)with ho | ho
  ·have:=hlt b1 ho;omega
  ·omega
 ·refine hQ w13 s13 ?_ ((RStep.of_ext E8).trans (s10.trans ((RStep.of_ext (e11.ext e12)).trans st13))) hb;have e:(M.enter {x with Day:=M.day,Left:=x.N} f.Kind f.Id why)={({M with lots:=M.lots++[{x with Id:=M.nextId,Day:=M.day,Left:=x.N,State:=1}]}:MState)with postings:=M.postings++[⟨M.day,x.Unit,x.N,f.Kind,f.Id,2,x.Thing,why,M.nextId⟩]}:=by
   unfold MState.enter;rw[show({({x with Day:=M.day,Left:=x.N}:TLot)with Id:=M.nextId,State:=1,Bag:=0}:TLot)={x with Id:=M.nextId,Day:=M.day,Left:=x.N,State:=1} by simp only[TLot.mk.injEq,and_self,true_and];exact hb.symm]
  rw[e];exact h13
end
end Go.Proofs.YtcbijkakoepglaaGreat
namespace Go.Proofs.YtcbijkakoepglaaGreat
open Go Go.Wx
set_option maxRecDepth 100000
def lD.l1(Q:Option Addr→World→Prop)(r1:Option Addr)(b2:Nat):Nat→Int→World→Prop
 | 0,_,_=>False
 | nl1+1,v1,w4=>(
 Ifb (decide (v1<((11:Nat):Int)))
 (Ix (some ⟨b2,0,none⟩) 11 v1 fun p1=>
 LdT TOp.enc w4 (Addr.add p1 (v1.toNat*9)) fun x1=>
 Al w4 (.cells #[vu 0,vi 0,vs (ByteArray.mk #[]),vs (ByteArray.mk #[]),vi 0,vi 0,vi 0,vl none 0 0,vl none 0 0] 77) fun b3 w5=>
 Sb w5 b3 (.cells #[vu x1.Kind,vi x1.Day,vs x1.Unit,vs x1.To,vi x1.A,vi x1.B,vi x1.C,vl x1.Goods_a x1.Goods_n x1.Goods_c,vl x1.Lots_a x1.Lots_n x1.Lots_c] 77 (0,0)) fun w6=>
 Cl Pg 42 #[vP r1,vg (TOp.enc x1)] w6 (fun v w7=>∃r2,v=vg (TResult.enc r2)∧Ifb (r2.E !=0)
 (Q none w7)
 ((lD.l1 Q r1 b2 nl1) (IntKind.wrap .i64 (v1+1)) w7)))
 (Q r1 w4))
def lD.R(Q:Option Addr→World→Prop)(w:World):Prop:=(
 Cl Pg 39 #[] w (fun v w1=>∃r1,v=vP r1∧Ifb r1.isNone
 (Q none w1)
 (Al w1 (.cells #[vs (ByteArray.mk #[99,114,111,119,110]),vi 7,vs (ByteArray.mk #[114,105,110,103]),vi 1] 58) fun b1 w2=>
 Al w2 (.cells #[vu 0,vi 0,vs (ByteArray.mk #[99,114,111,119,110]),vs (ByteArray.mk #[]),vi 1,vi 0,vi 0,vl none 0 0,vl none 0 0,vu 0,vi 0,vs (ByteArray.mk #[112,101,110,110,121]),vs (ByteArray.mk #[]),vi 1,vi 0,vi 0,vl none 0 0,vl none 0 0,vu 0,vi 0,vs (ByteArray.mk #[109,97,114,107]),vs (ByteArray.mk #[]),vi 1,vi 0,vi 0,vl none 0 0,vl none 0 0,vu 0,vi 0,vs (ByteArray.mk #[114,105,110,103]),vs (ByteArray.mk #[]),vi 3,vi 0,vi 0,vl none 0 0,vl none 0 0,vu 1,vi 0,vs (ByteArray.mk #[99,114,111,119,110]),vs (ByteArray.mk #[]),vi 240,vi 0,vi 0,vl none 0 0,vl none 0 0,vu 1,vi 0,vs (ByteArray.mk #[112,101,110,110,121]),vs (ByteArray.mk #[]),vi 1,vi 0,vi 0,vl none 0 0,vl none 0 0,vu 1,vi 0,vs (ByteArray.mk #[109,97,114,107]),vs (ByteArray.mk #[]),vi 160,vi 0,vi 0,vl none 0 0,vl none 0 0,vu 2,vi 0,vs (ByteArray.mk #[112,101,110,110,121]),vs (ByteArray.mk #[]),vi 1,vi 100,vi 0,vl none 0 0,vl none 0 0,vu 2,vi 0,vs (ByteArray.mk #[99,114,111,119,110]),vs (ByteArray.mk #[]),vi 1,vi 10,vi 0,vl none 0 0,vl none 0 0,vu 2,vi 0,vs (ByteArray.mk #[99,114,111,119,110]),vs (ByteArray.mk #[]),vi 50,vi 400,vi 0,vl none 0 0,vl none 0 0,vu 4,vi 5,vs (ByteArray.mk #[]),vs (ByteArray.mk #[]),vi 9,vi 2,vi 0,vl (some ⟨b1,0,none⟩) 2 2,vl none 0 0] 77) fun b2 w3=>
 ∃k,lD.l1 Q r1 b2 k 0 w3)))
theorem lD.ok{Q:Option Addr→World→Prop}{w:World}(h:lD.R Q w):Cl Pg 64 #[] w (fun v w'=>∃r0,v=vP r0∧Q r0 w'):=by
 refine aI (args:=[]) Tryz.func64 ?_
 unfold lD.R at h
 refine aC<|zp 1<|aD<|aC<|zk h ?_
 rintro _ w1 ⟨r1,rfl,h⟩
 refine zp 1<|aD<|aL<|aC<|zp 1<|sH rfl rfl (v:=vb r1.isNone) (jE (by kernel_rfl) rfl rfl rfl)<|aD<|zc h (fun h=>?_) fun h=>?_
 exact aC<|zp 1<|aD<|aN<|aH<|z1 ⟨_,rfl,h⟩
 refine aJ<|aL<|aC<|zp 12<|zv 2 h fun b1 w2 _ _ _ h=>zp 1<|zv 11 h fun b2 w3 _ _ _ h=>zp 2<|aD<|aR ?_
 obtain⟨nl1,h⟩:=h
 refine bS (fun k e w4=>∃(e0:Env) (v1:Int),e=upds e0 [(1,vP r1),(21,vl (some ⟨b2,0,none⟩) 11 11),(22,vi (11:Nat)),(23,vi v1)]∧lD.l1 Q r1 b2 k v1 w4) nl1 ?_ ?_ ?_
 rintro _ _ ⟨_,_,_,h⟩
 exact h
 exact⟨_,0,ag,h⟩
 clear h nl1
 rintro nl1 _ w4 ⟨e0,v1,rfl,h⟩
 unfold lD.l1 at h
 refine aC<|zp 1<|aD<|aL<|zc h (fun h=>?_) fun h=>?_
 refine aJ<|aL<|aR<|aC<|zi aFl h fun p1 h=>?_
 obtain⟨x1,hx1,h⟩:=h
 refine zn aCX hx1<|zq h fun b3 w5 _ _ q3 h=>zt aCX q3 h fun w6 ew q h=>?_
 replace q3:=q
 refine aD<|aC<|zp 1<|zm aCX q3<|zk h ?_
 rintro _ w7 ⟨r2,rfl,h⟩
 refine zp 2<|aD<|zc h (fun h=>?_) fun h=>?_
 exact aC<|zp 1<|aD<|aN<|bD<|aH<|aH<|bD<|aH<|z1 ⟨_,rfl,h⟩
 exact aJ<|aG<|aW<|zp 2<|aD<|⟨_,IntKind.wrap .i64 (v1+1),ag,h⟩
 exact dE<|aU<|aC<|zp 2<|aD<|aN<|z1 ⟨_,rfl,h⟩
def lJ.j1(Q:Bool→World→Prop)(r1:Option Addr)(v1:Bool)(w2:World):Prop:=(
 Ifb v1
 (Q false w2)
 (Cl Pg 24 #[vP r1,vi 6,vi 1,vs (ByteArray.mk #[109,97,114,107]),vi 5] w2 (fun v w3=>∃r2 r3 r4,v= .tuple #[vi r2,vi r3,vi r4]∧Cl Pg 29 #[vP r1,vg [vu 2,vi 9],vi 6] w3 (fun v w4=>∃r5,v=vi r5∧Cl Pg 23 #[vP r1,vi 20] w4 (fun v w5=>∃r6 r7,v= .tuple #[vi r6,vi r7]∧Cl Pg 30 #[vP r1,vi 21,vi 9,vi 4] w5 (fun v w6=>∃r8_a r8_n r8_c r9,v= .tuple #[vl r8_a r8_n r8_c,vi r9]∧Cl Pg 65 #[vP r1,vi 21,vi 9,vi 4] w6 (fun v w7=>∃r10_a r10_n r10_c r11,v= .tuple #[vl r10_a r10_n r10_c,vi r11]∧Cl Pg 26 #[vP r1] w7 (fun v w8=>∃r12_a r12_n r12_c,v=vl r12_a r12_n r12_c∧Cl Pg 19 #[vl r12_a r12_n r12_c] w8 (fun v w9=>∃r13_a r13_n r13_c r14,v= .tuple #[vl r13_a r13_n r13_c,vi r14]∧Ifb (r4==0)
 (Ifb (r2==4)
 (Ifb (r3==6)
 (Ifb (r5==1680)
 (Ifb (r7==0)
 (Ifb (r6==2)
 (Ifb (r9==0)
 (Ifb (((r8_n:Nat):Int)==2)
 (Ix r8_a r8_n (0:Int) fun p1=>
 LdI .i64 w9 (Addr.add (Addr.add p1 ((0:Int).toNat*2)) 1) fun x1=>
 Ifb (x1==2)
 (Ix r8_a r8_n (1:Int) fun p2=>
 LdI .i64 w9 (Addr.add (Addr.add p2 ((1:Int).toNat*2)) 1) fun x2=>
 Ifb (x2==5)
 (Ifb (r11==0)
 (Ifb (((r10_n:Nat):Int)==1)
 (Ifb (r14==0)
 (Cl Pg 25 #[vP r1,vi 21] w9 (fun v w10=>∃r15_a r15_n r15_c,v=vl r15_a r15_n r15_c∧Cl Pg 21 #[vl r13_a r13_n r13_c,vl r15_a r15_n r15_c] w10 (fun v w11=>∃r16,v=vb r16∧Ifb r16
 (Q (decide (((r13_n:Nat):Int)>0)) w11)
 (Q false w11))))
 (Q false w9))
 (Q false w9))
 (Q false w9))
 (Q false w9))
 (Q false w9))
 (Q false w9))
 (Q false w9))
 (Q false w9))
 (Q false w9))
 (Q false w9))
 (Q false w9))
 (Q false w9))
 (Q false w9))))))))))
def lJ.R(Q:Bool→World→Prop)(w:World):Prop:=(
 Cl Pg 64 #[] w (fun v w1=>∃r1,v=vP r1∧Ifb r1.isNone
 (lJ.j1 Q r1 true w1)
 (Cl Pg 28 #[vP r1,vi 9] w1 (fun v w12=>∃r17_a r17_n r17_c,v=vl r17_a r17_n r17_c∧Ifb (((r17_n:Nat):Int) !=2)
 (lJ.j1 Q r1 true w12)
 (Cl Pg 28 #[vP r1,vi 9] w12 (fun v w13=>∃r18_a r18_n r18_c,v=vl r18_a r18_n r18_c∧Ix r18_a r18_n (0:Int) fun p3=>
 LdI .i64 w13 (Addr.add (Addr.add p3 ((0:Int).toNat*10)) 4) fun x3=>
 Ifb (x3 !=15)
 (lJ.j1 Q r1 true w13)
 (Cl Pg 55 #[vP r1,vs (ByteArray.mk #[99,114,111,119,110]),vi 60,vi 3] w13 (fun v w14=>∃r19,v=vi r19∧Ifb (r19 !=400)
 (lJ.j1 Q r1 true w14)
 (Cl Pg 27 #[vP r1,vs (ByteArray.mk #[109,97,114,107]),vi 3] w14 (fun v w15=>∃r20,v=vi r20∧lJ.j1 Q r1 (r20 !=160) w15))))))))))
theorem lJ.ok{Q:Bool→World→Prop}{w:World}(h:lJ.R Q w):Cl Pg 18 #[] w (fun v w'=>∃r0,v=vb r0∧Q r0 w'):=by
 refine aI (args:=[]) Tryz.func18 ?_
 unfold lJ.R at h
 refine aC<|zp 1<|aD<|aC<|zk h ?_
 rintro _ w1 ⟨r1,rfl,h⟩
 refine zp 1<|aD<|aL<|fD (fun e w2=>∃(e0:Env) (v1:Bool),e=upds e0 [(1,vP r1),(40,vb v1)]∧lJ.j1 Q r1 v1 w2) ?_ ?_
 refine aW<|zp 1<|sH rfl rfl (v:=vb r1.isNone) (jE (by kernel_rfl) rfl rfl rfl)<|zp 1<|zs 17 h (fun h=>?_) fun h=>?_
 exact zp 23<|aD<|⟨_,true,ag,h⟩
 refine zp 1<|zk h ?_
 rintro _ w12 ⟨r17_a,r17_n,r17_c,rfl,h⟩
 refine zp 4<|zs 23 h (fun h=>?_) fun h=>?_
 exact zp 17<|aD<|⟨_,true,ag,h⟩
 refine zp 1<|zk h ?_
 rintro _ w13 ⟨r18_a,r18_n,r18_c,rfl,h⟩
 refine zi dX h fun p3 h=>zp 1<|zd tk3 h fun x3 hx3 h=>zp 3<|zs 31 h (fun h=>?_) fun h=>?_
 exact zp 9<|aD<|⟨_,true,ag,h⟩
 refine zp 1<|zk h ?_
 rintro _ w14 ⟨r19,rfl,h⟩
 refine zp 3<|zs 36 h (fun h=>?_) fun h=>?_
 exact zp 4<|aD<|⟨_,true,ag,h⟩
 refine zp 1<|zk h ?_
 rintro _ w15 ⟨r20,rfl,h⟩
 exact zp 2<|aD<|⟨_,(r20 !=160),ag,h⟩
 clear h
 rintro _ w2 ⟨e0,v1,rfl,h⟩
 unfold lJ.j1 at h
 refine zc h (fun h=>?_) fun h=>?_
 exact aC<|zp 1<|aD<|aN<|aH<|z1 ⟨_,rfl,h⟩
 refine aJ<|aC<|zp 1<|zk h ?_
 rintro _ w3 ⟨r2,r3,r4,rfl,h⟩
 refine zp 7<|aD<|aC<|zp 2<|zk h ?_
 rintro _ w4 ⟨r5,rfl,h⟩
 refine zp 1<|aD<|aC<|zp 1<|zk h ?_
 rintro _ w5 ⟨r6,r7,rfl,h⟩
 refine zp 5<|aD<|aC<|zp 1<|zk h ?_
 rintro _ w6 ⟨r8_a,r8_n,r8_c,r9,rfl,h⟩
 refine zp 5<|aD<|aC<|zp 1<|zk h ?_
 rintro _ w7 ⟨r10_a,r10_n,r10_c,r11,rfl,h⟩
 refine zp 5<|aD<|aC<|zp 1<|zk h ?_
 rintro _ w8 ⟨r12_a,r12_n,r12_c,rfl,h⟩
 refine zk h ?_
 rintro _ w9 ⟨r13_a,r13_n,r13_c,r14,rfl,h⟩
 refine zp 5<|aD<|aC<|zp 3<|zs 73 h (fun h=>?_) fun h=>?_
 refine zp 4<|zs 77 h (fun h=>?_) fun h=>?_
 refine zp 4<|zs 81 h (fun h=>?_) fun h=>?_
 refine zp 4<|zs 85 h (fun h=>?_) fun h=>?_
 refine zp 4<|zs 89 h (fun h=>?_) fun h=>?_
 refine zp 4<|zs 93 h (fun h=>?_) fun h=>?_
 refine zp 4<|zs 97 h (fun h=>?_) fun h=>?_
 refine zp 5<|zs 102 h (fun h=>?_) fun h=>?_
 refine zp 1<|zi pM h fun p1 h=>zp 1<|zd tk3 h fun x1 hx1 h=>zp 3<|zs 109 h (fun h=>?_) fun h=>?_
 refine zp 1<|zi pM h fun p2 h=>zp 1<|zd tk3 h fun x2 hx2 h=>zp 3<|zs 116 h (fun h=>?_) fun h=>?_
 refine zp 4<|zs 120 h (fun h=>?_) fun h=>?_
 refine zp 5<|zs 125 h (fun h=>?_) fun h=>?_
 refine zp 4<|zs 129 h (fun h=>?_) fun h=>?_
 refine zp 2<|zk h ?_
 rintro _ w10 ⟨r15_a,r15_n,r15_c,rfl,h⟩
 refine zk h ?_
 rintro _ w11 ⟨r16,rfl,h⟩
 refine zp 2<|zs 135 h (fun h=>?_) fun h=>?_
 exact zp 5<|aD<|aN<|z1 ⟨_,rfl,h⟩
 exact zp 5<|aD<|aN<|z1 ⟨_,rfl,h⟩
 exact zp 11<|aD<|aN<|z1 ⟨_,rfl,h⟩
 exact zp 15<|aD<|aN<|z1 ⟨_,rfl,h⟩
 exact zp 20<|aD<|aN<|z1 ⟨_,rfl,h⟩
 exact zp 24<|aD<|aN<|z1 ⟨_,rfl,h⟩
 exact zp 31<|aD<|aN<|z1 ⟨_,rfl,h⟩
 exact zp 38<|aD<|aN<|z1 ⟨_,rfl,h⟩
 exact zp 43<|aD<|aN<|z1 ⟨_,rfl,h⟩
 exact zp 47<|aD<|aN<|z1 ⟨_,rfl,h⟩
 exact zp 51<|aD<|aN<|z1 ⟨_,rfl,h⟩
 exact zp 55<|aD<|aN<|z1 ⟨_,rfl,h⟩
 exact zp 59<|aD<|aN<|z1 ⟨_,rfl,h⟩
 exact zp 63<|aD<|aN<|z1 ⟨_,rfl,h⟩
 exact zp 67<|aD<|aN<|z1 ⟨_,rfl,h⟩
end Go.Proofs.YtcbijkakoepglaaGreat
namespace Go.Proofs.YtcbijkakoepglaaGreat
open Go Go.Wx
def yR:ByteArray:=ByteArray.mk #[99,114,111,119,110]
def nRing:ByteArray:=ByteArray.mk #[114,105,110,103]
def aEN:ByteArray:=ByteArray.mk #[112,101,110,110,121]
def aAK:ByteArray:=ByteArray.mk #[109,97,114,107]
def nNo:ByteArray:=ByteArray.mk #[]
def sY(g:Nat):List TOp:=[⟨0,0,yR,nNo,1,0,0,none,0,0,none,0,0⟩,⟨0,0,aEN,nNo,1,0,0,none,0,0,none,0,0⟩,⟨0,0,aAK,nNo,1,0,0,none,0,0,none,0,0⟩,⟨0,0,nRing,nNo,3,0,0,none,0,0,none,0,0⟩,⟨1,0,yR,nNo,240,0,0,none,0,0,none,0,0⟩,⟨1,0,aEN,nNo,1,0,0,none,0,0,none,0,0⟩,⟨1,0,aAK,nNo,160,0,0,none,0,0,none,0,0⟩,
 ⟨2,0,aEN,nNo,1,100,0,none,0,0,none,0,0⟩,⟨2,0,yR,nNo,1,10,0,none,0,0,none,0,0⟩,⟨2,0,yR,nNo,50,400,0,none,0,0,none,0,0⟩,⟨4,5,nNo,nNo,9,2,0,some ⟨g,0,none⟩,2,2,none,0,0⟩]
def aC3:List TAmount:=[⟨yR,7⟩,⟨nRing,1⟩]
def aFR(o:TOp):MOp:=⟨o.Kind,o.Day,o.Unit,o.To,o.A,o.B,o.C,if o.Goods_n=2 then aC3 else [],[]⟩
def sampleOps:List MOp:=(sY 0).map aFR
theorem aC2(g:Nat):(sY g).map aFR=sampleOps:=rfl
def aCe:MState→List MOp→Bool
 | _,[]=>true
 | M,o::os=>((M.run o).1.e==0)&&aCe (M.run o).2 os
theorem aFI:aCe M0 sampleOps=true:=by kernel_rfl
def Ma:MState:=M0.runs sampleOps
theorem good_Ma:GoodK 11 Ma:=aCD sampleOps aA7
theorem aFo{w:World}{Q:Option Addr→World→Prop}(hQ:∀b w' R st,Led w' R b st Ma→w.heap.size≤b→(∀k,R k→w.heap.size≤k)→Ext w w'→Q (some ⟨b,0,none⟩) w'):Cl Pg 64 #[] w (fun v w'=>∃r,v=vP r∧Q r w'):=by
 refine lD.ok (new_c fun b w1 R st hL hb hR E=>jJ (bW E fun b1 w2 hb1 hat1 E e2 _=>bW E fun b2 w3 hb2 hat2 E e3 _=>⟨12,?_⟩));have hg:Rd TAmount.enc 2 w3 (some ⟨b1,0,none⟩) 2 aC3:=sK (enc:=TAmount.enc) (fun _=>rfl) aC3 (hat1.ext e3) rfl;have ho:Rd TOp.enc 9 w3 (some ⟨b2,0,none⟩) 11 (sY b1):=sK (enc:=TOp.enc) (fun _=>rfl) (sY b1) hat2 rfl;have hop:∀o∈sY b1,OpIs w3 o (aFR o):=by
  have hnone:∀(k d:Int) (u t:ByteArray) (a b c:Int),(-9223372036854775808≤b∧b≤9223372036854775807)→OpIs w3 ⟨k,d,u,t,a,b,c,none,0,0,none,0,0⟩ (aFR ⟨k,d,u,t,a,b,c,none,0,0,none,0,0⟩):=fun k d u t a b c hb=>⟨rfl,rfl,rfl,rfl,rfl,rfl,rfl,Rd.nil,Rd.nil,Nat.zero_le _,Nat.zero_le _,hb⟩;intro o ho;unfold sY at ho;simp only[List.mem_cons,List.not_mem_nil,or_false]at ho
  rcases ho with rfl | rfl | rfl | rfl | rfl | rfl | rfl | rfl | rfl | rfl | rfl<;>first | exact hnone _ _ _ _ _ _ _ (by decide) | exact⟨rfl,rfl,rfl,rfl,rfl,rfl,rfl,hg,Rd.nil,by simp,by simp,(show(-9223372036854775808:Int)≤2∧(2:Int)≤9223372036854775807 by decide)⟩
 have hL3:=(hL.ext e2).ext e3;have nb1:b1≠b:=by have:=(hL.ext e2).blk;exact fun e=>by subst e;exact absurd rfl (hat1.neT this (by simp[tyO]))
 have nb2:b2≠b:=by have:=hL3.blk;exact fun e=>by subst e;exact absurd rfl (hat2.neT this (by simp[tyO]))
 have key:∀m i w' R st M,i+m=11→Frm (fun k=>k=b) w3 w'→Led w' R b st M→GoodK i M→(∀k,R k→w.heap.size≤k)→aCe M (sampleOps.drop i)=true→(∀w' R st,Led w' R b st (M.runs (sampleOps.drop i))→(∀k,R k→w.heap.size≤k)→Ext w w'→Q (some ⟨b,0,none⟩) w')→lD.l1 Q (some ⟨b,0,none⟩) b2 (m+1) (i:Nat) w':=by
  intro m;induction m with
  | zero=>
   intro i w' R st M hi F hL hG hR hok hQ;obtain rfl:i=11:=by omega
   unfold lD.l1;refine dK (by omega) (hQ w' R st hL hR (Frm.trans E F fun k hk e=>by omega))
  | succ m ih=>
   intro i w' R st M hi F hL hG hR hok hQ;unfold lD.l1;have hor:=ho.frm F (fun a0 ha _=>by cases ha;exact nb2);refine dQ (by omega) (hor.ix (by omega) (by omega) fun a0 x ha hx hc=>⟨x,hc,bW (er w') fun bb w4 hbb hat4 E4 _ _=>lW E4 hat4 hbb fun w5 hat5 E5 f5=>?_⟩);simp only[Int.toNat_natCast]at hx;have hmo:sampleOps[i]? =some (aFR x):=by rw[←aC2 b1,List.getElem?_map,hx];rfl
   obtain⟨hlt,hmo'⟩:=List.getElem?_eq_some_iff.1 hmo;rw[List.drop_eq_getElem_cons hlt,hmo']at hQ hok;simp only[MState.runs]at hQ;simp only[aCe,Bool.and_eq_true]at hok;have hopx:OpIs w5 x (aFR x):=(hop x (List.mem_of_getElem? hx)).frm (F.ext E5) (fun a0 ha hn e=>by
    have hxm:=List.mem_of_getElem? hx;unfold sY at hxm;simp only[List.mem_cons,List.not_mem_nil,or_false]at hxm;rcases hxm with rfl | rfl | rfl | rfl | rfl | rfl | rfl | rfl | rfl | rfl | rfl<;>first | (simp at ha;done) | (cases ha;exact nb1 e)) (fun a0 ha hn e=>by
    have hxm:=List.mem_of_getElem? hx;unfold sY at hxm;simp only[List.mem_cons,List.not_mem_nil,or_false]at hxm;rcases hxm with rfl | rfl | rfl | rfl | rfl | rfl | rfl | rfl | rfl | rfl | rfl<;>cases ha)
   refine run_c (hL.ext E5) (hG.good (by omega)) hopx fun r w6 R6 st6 hL6 hR6 F6 hr=>?_;rw[hr.he];rw[fO (n:=11) (by omega) (by omega) (by simp[maxLen])];refine ifb ?_;rw[if_neg (by have:=hok.1;simp at this;simp[this])];refine ih (i+1) w6 R6 st6 _ (by omega) ((F.ext E5).trans F6 fun _ _ h=>h) hL6 (rZ hG _) (fun k hk=>(hR6 k hk).elim (hR k) fun h=>?_) hok.2 hQ;have:=E.size;have:=F.size;have:=E5.size;omega
 exact key 11 0 w3 R st M0 (by omega) (Frm.refl _ _) hL3 aA7 hR aFI fun w' R st hL hR E=>hQ b w' R st hL hb hR E
def Mb:MState:=(Ma.run ⟨7,6,nNo,aAK,1,5,0,[],[]⟩).2
def Mc:MState:=(Mb.run ⟨3,20,nNo,nNo,0,0,0,[],[]⟩).2
def Md:MState:=(Mc.run ⟨8,21,nNo,nNo,9,4,0,[],[]⟩).2
def Me:MState:=(Md.run ⟨5,21,nNo,nNo,9,4,0,[],[]⟩).2
theorem good_Mb:GoodK 12 Mb:=rZ good_Ma _
theorem good_Mc:GoodK 13 Mc:=rZ good_Mb _
theorem good_Md:GoodK 14 Md:=rZ good_Mc _
theorem good_Me:GoodK 15 Me:=rZ good_Md _
theorem al1:(Ma.lotsOf 9).length=2∧((Ma.lotsOf 9)[0]?.map fun x=>x.Due)=some 15:=by constructor<;>kernel_rfl
theorem al2:Ma.term yR 60 3=400∧Ma.value aAK 3=160:=by constructor<;>kernel_rfl
theorem al3:(Ma.convert 6 1 aAK 5).1=0∧(Ma.convert 6 1 aAK 5).2.2.1=4∧(Ma.convert 6 1 aAK 5).2.2.2=6∧(Ma.convert 6 1 aAK 5).2.1=Mb:=by refine⟨?_,?_,?_,?_⟩<;>kernel_rfl
theorem al4:Mb.worth ⟨2,9⟩ 6=1680:=by kernel_rfl
theorem al5:(Mb.adv 20).1=0∧(Mb.due 20).length=2∧(Mb.adv 20).2=Mc:=by refine⟨?_,?_,?_⟩<;>kernel_rfl
theorem al6:(Mc.refund 21 9 4).1=0∧((Mc.refund 21 9 4).2.2.map fun x=>x.N)=[2,5]∧(Mc.refund 21 9 4).2.1=Md:=by refine⟨?_,?_,?_⟩<;>kernel_rfl
theorem al7:(Md.pay 21 9 4).1=0∧(Md.pay 21 9 4).2.2.1.length=1∧(Md.pay 21 9 4).2.1=Me:=by refine⟨?_,?_,?_⟩<;>kernel_rfl
theorem al8a:(vC Me.postings).2.length=9:=by kernel_rfl
theorem al8:(vC Me.postings).1=0∧0<(vC Me.postings).2.length∧(vC Me.postings).2=Me.trial 21:=⟨by kernel_rfl,by rw[al8a];decide,by kernel_rfl⟩
theorem aEv{w:World}{Q:Bool→World→Prop}(hQ:∀w',Ext w w'→Q true w'):Cl Pg 18 #[] w (fun v w'=>∃r,v=vb r∧Q r w'):=by
 refine lJ.ok (aFo fun b w1 R st hL hb hR E1=>jJ ?_);have g0:=good_Ma.good (by omega);refine lots_c hL.rd g0.small.fits fun a2 n2 c2 w2 ho2 hk2 E2=>?_;have e2:n2=2:=by rw[ho2.1];exact al1.1
 subst e2;refine jJ ?_;have hL:=hL.ext E2;refine lots_c hL.rd g0.small.fits fun a3 n3 c3 w3 ho3 hk3 E3=>?_;have e3:n3=2:=by rw[ho3.1];exact al1.1
 subst e3;have hL:=hL.ext E3;refine(ho3.rd iQ).ix (by omega) (by omega) fun p3 x hp3 hx hc=>⟨_,hc.at 4 rfl,?_⟩;have hdue:x.Due=15:=by
  have:=al1.2;rw[show(Ma.lotsOf 9)[0]? =some x from hx]at this;exact Option.some.inj this
 rw[hdue];refine jJ ?_;refine aEg hL.rd g0.small.fits fun w4 E4=>?_;rw[show Ma.term (ByteArray.mk #[99,114,111,119,110]) 60 3=400 from al2.1];refine jJ ?_;have hL:=hL.ext E4;refine aBM hL.rd g0.small.fits fun w5 E5=>?_;rw[show Ma.value (ByteArray.mk #[109,97,114,107]) 3=160 from al2.2];have hL:=hL.ext E5;have E5:=(((E1.ext E2).ext E3).ext E4).ext E5;unfold lJ.j1;refine jJ ?_;refine aCO hL g0 fun w6 R6 st6 hL6 hR6 F6=>?_
 rw[show(Ma.convert 6 1 (ByteArray.mk #[109,97,114,107]) 5).1=0 from al3.1,show(Ma.convert 6 1 (ByteArray.mk #[109,97,114,107]) 5).2.2.1=4 from al3.2.1,show(Ma.convert 6 1 (ByteArray.mk #[109,97,114,107]) 5).2.2.2=6 from al3.2.2.1];rw[show(Ma.convert 6 1 (ByteArray.mk #[109,97,114,107]) 5).2.1=Mb from al3.2.2.2]at hL6;have E6:Ext w w6:=Frm.trans E5 F6 fun k hk e=>by omega
 have g1:=good_Mb.good (by omega);refine aE4 (a:=⟨2,9⟩) hL6.rd g1.small.fits (by have:=g1.postings;omega) fun w7 E7=>?_;rw[al4];have hL7:=hL6.ext E7;refine adv_c hL7 g1 fun w8 R8 st8 hL8 hR8 F8=>?_;rw[al5.2.2]at hL8;rw[al5.1,if_pos rfl,al5.2.1];have E8:Ext w w8:=Frm.trans (E6.ext E7) F8 fun k hk e=>by omega
 have g2:=good_Mc.good (by omega);refine aDF hL8 g2 fun a9 n9 c9 w9 R9 st9 hL9 hR9 F9 ho9 hk9=>?_;rw[al6.2.2]at hL9;rw[al6.1];have E9:Ext w w9:=Frm.trans E8 F9 fun k hk e=>by omega
 have g3:=good_Md.good (by omega);have n9':n9=2:=by
  rw[ho9.1];have:=congrArg List.length al6.2.1;simpa using this
 subst n9';refine pay_c hL9 g3 fun a10 n10 c10 w10 R10 st10 hL10 hR10 F10 ho10 hk10=>?_;rw[al7.2.2]at hL10;rw[al7.1];have E10:Ext w w10:=Frm.trans E9 F10 fun k hk e=>by omega
 have n10':n10=1:=by rw[ho10.1];exact al7.2.1
 subst n10';have g4:=good_Me.good (by omega);have hb9:∀k,obk a9 c9=some k→¬k=b:=fun k hk e=>by have:=hk9 k hk;have:=hL8.blk.lt;omega
 have ho10':=ho9.frm F10 hb9;refine postings_c hL10.rd g4.small.fits fun a11 n11 c11 w11 ho11 hk11 E11=>?_;have hL11:=hL10.ext E11;refine audit_c (ho11.rd m0) fun a12 n12 c12 w12 ho12 hk12 E12=>?_;rw[al8.1];have hL12:=hL11.ext E12;have E12':=(E10.ext E11).ext E12;have r9:=((ho10'.ext E11).ext E12).rd lS;refine jM (jM (jM (jM (jM (jM (jM (jM (r9.ix (by omega) (by omega) fun p1 x1 hp1 hx1 hc1=>⟨_,hc1.at 1 rfl,?_⟩))))))));have hx1':x1.N=2:=by
  have:=congrArg (fun l=>l[0]?) al6.2.1;simp only[List.getElem?_map]at this;rw[show(Mc.refund 21 9 4).2.2[0]? =some x1 from hx1]at this;exact Option.some.inj this
 rw[hx1'];refine jM (r9.ix (by omega) (by omega) fun p2 x2 hp2 hx2 hc2=>⟨_,hc2.at 1 rfl,?_⟩);have hx2':x2.N=5:=by
  have:=congrArg (fun l=>l[1]?) al6.2.1;simp only[List.getElem?_map]at this;rw[show(Mc.refund 21 9 4).2.2[1]? =some x2 from hx2]at this;exact Option.some.inj this
 rw[hx2'];refine jM (jM (jM (jM ?_)));refine aCW hL12.rd (by have:=g4.postings;omega) fun a13 n13 c13 w13 ho13 hk13 E13=>?_;have h12:=((ho12.ext E13).rd qH);refine aAH h12 (ho13.rd qH) (by have h1:=h12.1;rw[al8.2.2]at h1;have h2:=wI Me 21;have:=g4.postings;simp only[maxLen];omega) fun w14 E14=>?_;rw[decide_eq_true al8.2.2];refine jM ?_;have:=hQ w14 ((E12'.ext E13).ext E14);rw[show decide (((n12:Nat):Int)>0)=true from decide_eq_true (by have:=ho12.1;have:=al8.2.1;omega)];exact this
end Go.Proofs.YtcbijkakoepglaaGreat
namespace Go.Proofs.YtcbijkakoepglaaGreat
open Go Go.Wx
def Yes(w:World)(v:Value)(w':World):Prop:=v=vb true∧Ext w w'
theorem Cl.yes{n:Nat}{args:Array Value}{w:World}(h:Cl Pg n args w (fun v w'=>∃r,v=vb r∧(r=true∧Ext w w'))):Cl Pg n args w (Yes w):=h.mono fun _ _ ⟨_,h1,h2,h3⟩=>⟨by rw[h1,h2],h3⟩
end Go.Proofs.YtcbijkakoepglaaGreat
namespace Go.Proofs.YtcbijkakoepglaaGreat
open Go Go.Wx
inductive Turn(x:TLot):TLot→Int→Int→Int→Int→Int→Int→Prop where
 | forfeit:x.State=1→Turn x {x with State:=3} x.Left 2 x.Thing 4 0 3
 | pay (person:Int):x.State=1→jI person=true→Turn x {x with State:=2,Left:=0} x.Left 2 x.Thing 3 person 2
 | part (person m:Int):x.State=1→1≤m→m≤x.Left→jI person=true→Turn x (iP x m) m 2 x.Thing 3 person 2
 | swap (m:Int):x.State=1→1≤m→m≤x.Left→Turn x (iP x m) m 2 x.Thing 6 0 5
 | lose:x.State=1→Turn x {x with State:=5} x.Left 2 x.Thing 5 0 6
 | recover:x.State=5→Turn x {x with State:=1} x.Left 5 0 2 x.Thing 7
 | dispatch (bag:Int):x.State=1→jI bag=true→Turn x {x with State:=6,Bag:=bag} x.Left 2 x.Thing 7 bag 8
 | arrive:x.State=6→Turn x {x with State:=7,Left:=0} x.Left 7 x.Bag 1 0 9
 | refund (person:Int):x.State=3→jI person=true→0<o9 x→Turn x {x with State:=4,Left:=0} (o9 x) 4 0 3 person 4
structure LotIn(M:MState)(x:TLot):Prop where
 thing:jI x.Thing=true
 unit:0≤M.find x.Unit
 n1:1≤x.N
 n2:x.N≤1000000000
 left:x.Left=x.N
inductive Move:MState→MState→Prop where
 | turn {M:MState} {i:Nat} {x x':TLot} {n fk fi tk ti why:Int}:M.lots[i]? =some x→Turn x x' n fk fi tk ti why→Move M ((M.post ⟨M.day,x.Unit,n,fk,fi,tk,ti,why,x.Id⟩).setLot i x')
 | keep {M:MState} {i:Nat} {x:TLot}:M.lots[i]? =some x→x.State=3→¬0<o9 x→Move M (M.setLot i {x with State:=4,Left:=0})
 | enter {M:MState} {x:TLot} {fk why:Int}:(fk=1∧(why=1∨why=10)∨fk=6∧why=5)→LotIn M x→M.lots.length<2000→Move M (M.enter x fk 0 why)
 | day {M:MState} {d:Int}:M.day≤d→d≤100000→Move M {M with day:=d}
 | unit {M:MState} {name:ByteArray} {kind:Int}:named name=true→M.find name<0→Move M {M with units:=M.units++[⟨name,kind,[]⟩]}
 | value {M:MState} {i:Nat} {u:MUnit} {g:Int}:M.units[i]? =some u→1≤g→g≤100000→Move M {M with units:=M.units.set i {u with values:=u.values++[⟨M.day,g⟩]}}
 | term {M:MState} {t:Tterm}:t.day=M.day→1≤t.days→t.days≤40000→Move M {M with terms:=M.terms++[t]}
inductive Moves:MState→MState→Prop where
 | refl {M:MState}:Moves M M
 | tail {M M1 M2:MState}:Moves M M1→Move M1 M2→Moves M M2
theorem Moves.one{M M':MState}(h:Move M M'):Moves M M':= .tail .refl h
theorem Moves.trans{M M1 M2:MState}(h:Moves M M1)(h2:Moves M1 M2):Moves M M2:=by
 induction h2 with
 | refl=>exact h
 | tail _ h3 ih=>exact .tail ih h3
theorem Moves.head{M M1 M2:MState}(h:Move M M1)(h2:Moves M1 M2):Moves M M2:=(Moves.one h).trans h2
structure LotOk(M:MState)(x:TLot):Prop where
 thing:jI x.Thing=true
 unit:0≤M.find x.Unit
 n1:1≤x.N
 n2:x.N≤1000000000
 live:((x.State=1∨x.State=3∨x.State=5∨x.State=6)∧1≤x.Left∧x.Left≤x.N)∨((x.State=2∨x.State=4∨x.State=7)∧x.Left=0)
 bag:x.State=6→jI x.Bag=true
structure J(M:MState):Prop where
 ids:IdOk M
 lots:∀x∈M.lots,LotOk M x
 terms:∀t∈M.terms,1≤t.days∧t.days≤40000
 units:∀u∈M.units,named u.name=true
 grains:∀u∈M.units,∀v∈u.values,1≤v.grains∧v.grains≤100000
 d0:0≤M.day
 d1:M.day≤100000
 len:M.lots.length≤2000
theorem vT(M:MState)(name:ByteArray):decide (M.find name≥0)=M.units.any (fun u=>dF u.name name):=aCm _ _
theorem yW{M M':MState}(h:∀n,M.units.any (fun u=>dF u.name n)=true→M'.units.any (fun u=>dF u.name n)=true){name:ByteArray}(hn:0≤M.find name):0≤M'.find name:=by
 have h1:=vT M name;rw[decide_eq_true hn]at h1;have h2:=vT M' name;rw[h name h1.symm]at h2;exact of_decide_eq_true h2
theorem LotOk.mono{M M':MState}(h:∀n,M.units.any (fun u=>dF u.name n)=true→M'.units.any (fun u=>dF u.name n)=true){x:TLot}(hx:LotOk M x):LotOk M' x:=
 ⟨hx.thing,yW h hx.unit,hx.n1,hx.n2,hx.live,hx.bag⟩
theorem LotOk.same{M:MState}{x:TLot}(hx:LotOk M x)(M':MState)(h:M'.units=M.units):LotOk M' x:=hx.mono fun n=>by rw[h];exact id
theorem Turn.id{x x':TLot}{n fk fi tk ti why:Int}(h:Turn x x' n fk fi tk ti why):x'.Id=x.Id:=by cases h<;>rfl
theorem aDi{x:TLot}{m:Int}(hl:x.Left≤1000000000)(h1:1≤m)(h2:m≤x.Left):(iP x m).Left=x.Left-m∧(iP x m).State=if x.Left-m=0 then 2 else x.State:=by
 have:wr (x.Left-m)=x.Left-m:=bQ (by omega) (by omega);unfold iP;simp only[this,and_self]
theorem Turn.ok{M:MState}{x x':TLot}{n fk fi tk ti why:Int}(h:Turn x x' n fk fi tk ti why)(hx:LotOk M x):LotOk M x':=by
 obtain⟨h1,h2,h3,h4,h5,h6⟩:=hx;cases h with
 | forfeit hs=>exact⟨h1,h2,h3,h4,.inl ⟨.inr (.inl rfl),by show 1≤x.Left;omega,by show x.Left≤x.N;omega⟩,fun h=>by simp at h⟩
 | pay p hs=>exact⟨h1,h2,h3,h4,.inr ⟨.inl rfl,rfl⟩,fun h=>by simp at h⟩
 | part p m hs k1 k2=>
  have hl:x.Left≤x.N:=by omega
  obtain⟨e1,e2⟩:=aDi (by omega) k1 k2;refine⟨h1,h2,h3,h4,?_,?_⟩
  ·rw[e1,e2];by_cases hz:x.Left-n=0
   ·rw[if_pos hz];exact .inr ⟨.inl rfl,hz⟩
   ·rw[if_neg hz];exact .inl ⟨.inl hs,by omega,by show x.Left-n≤x.N;omega⟩
  ·rw[e2];split
   ·intro h;simp at h
   ·intro h;omega
 | swap m hs k1 k2=>
  have hl:x.Left≤x.N:=by omega
  obtain⟨e1,e2⟩:=aDi (by omega) k1 k2;refine⟨h1,h2,h3,h4,?_,?_⟩
  ·rw[e1,e2];by_cases hz:x.Left-n=0
   ·rw[if_pos hz];exact .inr ⟨.inl rfl,hz⟩
   ·rw[if_neg hz];exact .inl ⟨.inl hs,by omega,by show x.Left-n≤x.N;omega⟩
  ·rw[e2];split
   ·intro h;simp at h
   ·intro h;omega
 | lose hs=>exact⟨h1,h2,h3,h4,.inl ⟨.inr (.inr (.inl rfl)),by show 1≤x.Left;omega,by show x.Left≤x.N;omega⟩,fun h=>by simp at h⟩
 | recover hs=>exact⟨h1,h2,h3,h4,.inl ⟨.inl rfl,by show 1≤x.Left;omega,by show x.Left≤x.N;omega⟩,fun h=>by simp at h⟩
 | dispatch b hs hb=>exact⟨h1,h2,h3,h4,.inl ⟨.inr (.inr (.inr rfl)),by show 1≤x.Left;omega,by show x.Left≤x.N;omega⟩,fun _=>hb⟩
 | arrive hs=>exact⟨h1,h2,h3,h4,.inr ⟨.inr (.inr rfl),rfl⟩,fun h=>by simp at h⟩
 | refund p hs=>exact⟨h1,h2,h3,h4,.inr ⟨.inr (.inl rfl),rfl⟩,fun h=>by simp at h⟩
theorem J.set{M:MState}(h:J M){i:Nat}{x x':TLot}(hx:M.lots[i]? =some x)(hi:x'.Id=x.Id)(ho:LotOk M x'):J (M.setLot i x'):=
 ⟨h.ids.setLot hx hi,fun y hy=>by
  rcases List.mem_or_eq_of_mem_set hy with hy | hy
  ·exact(h.lots y hy).same (M.setLot i x') rfl
  ·rw[hy];exact ho.same (M.setLot i x') rfl,h.terms,h.units,h.grains,h.d0,h.d1,by simp[MState.setLot];exact h.len⟩
theorem J.post{M:MState}(h:J M)(p:TPosting):J (M.post p):=⟨h.ids,fun y hy=>(h.lots y hy).same (M.post p) rfl,h.terms,h.units,h.grains,h.d0,h.d1,h.len⟩
theorem Move.j{M M':MState}(hm:Move M M')(h:J M):J M':=by
 cases hm with
 | turn hx ht=>exact(h.post _).set hx ht.id ((ht.ok (h.lots _ (List.mem_of_getElem? hx))).same (M.post _) rfl)
 | keep hx hs hr=>
  have hk:=h.lots _ (List.mem_of_getElem? hx);exact h.set hx rfl ⟨hk.thing,hk.unit,hk.n1,hk.n2,.inr ⟨.inr (.inl rfl),rfl⟩,fun h=>by simp at h⟩
 | enter hw hl hlen=>
  rename_i x fk why;refine⟨wT h.ids _ _ _ _,fun y hy=>?_,h.terms,h.units,h.grains,h.d0,h.d1,by simp[MState.enter];omega⟩;rcases List.mem_append.1 hy with hy | hy
  ·exact(h.lots y hy).same (M.enter x fk 0 why) rfl
  ·simp at hy;subst hy;have:=hl.left;have:=hl.n1;exact⟨hl.thing,hl.unit,hl.n1,hl.n2,.inl ⟨.inl rfl,by show 1≤x.Left;omega,by show x.Left≤x.N;omega⟩,fun h=>by simp at h⟩
 | day h1 h2=>exact⟨h.ids,fun y hy=>LotOk.same (h.lots y hy) _ rfl,h.terms,h.units,h.grains,Int.le_trans h.d0 h1,h2,h.len⟩
 | unit hn hf=>
  refine⟨h.ids,fun y hy=>(h.lots y hy).mono fun n hn=>by simp only[List.any_append,hn,Bool.true_or],h.terms,fun u hu=>?_,fun u hu v hv=>?_,h.d0,h.d1,h.len⟩
  ·rcases List.mem_append.1 hu with hu | hu
   ·exact h.units u hu
   ·simp at hu;subst hu;exact hn
  ·rcases List.mem_append.1 hu with hu | hu
   ·exact h.grains u hu v hv
   ·simp at hu;subst hu;cases hv
 | value hu g1 g2=>
  rename_i i u g;refine⟨h.ids,fun y hy=>(h.lots y hy).mono fun n hn=>?_,h.terms,fun v hv=>?_,fun y hy v hv=>?_,h.d0,h.d1,h.len⟩
  ·rw[List.any_eq_true]at hn ⊢;obtain⟨v,hv,he⟩:=hn;obtain⟨j,hj⟩:=List.getElem?_of_mem hv;by_cases hij:i=j
   ·subst hij;rw[hu]at hj;cases hj;exact⟨{u with values:=u.values++[⟨M.day,g⟩]},List.mem_of_getElem? (by rw[List.getElem?_set_self (List.getElem?_eq_some_iff.1 hu).1]),he⟩
   ·exact⟨v,List.mem_of_getElem? (by rw[List.getElem?_set_ne hij];exact hj),he⟩
  ·rcases List.mem_or_eq_of_mem_set hv with hv | hv
   ·exact h.units v hv
   ·rw[hv];exact h.units u (List.mem_of_getElem? hu)
  ·rcases List.mem_or_eq_of_mem_set hy with hy | hy
   ·exact h.grains y hy v hv
   ·subst hy;rcases List.mem_append.1 hv with hv | hv
    ·exact h.grains u (List.mem_of_getElem? hu) v hv
    ·simp at hv;subst hv;exact⟨g1,g2⟩
 | term h1 h2 h3=>
  refine⟨h.ids,fun y hy=>LotOk.same (h.lots y hy) _ rfl,fun t ht=>?_,h.units,h.grains,h.d0,h.d1,h.len⟩;rcases List.mem_append.1 ht with ht | ht
  ·exact h.terms t ht
  ·simp at ht;subst ht;exact⟨h2,h3⟩
theorem Moves.j{M M':MState}(hm:Moves M M')(h:J M):J M':=by
 induction hm with
 | refl=>exact h
 | tail _ h2 ih=>exact h2.j ih
end Go.Proofs.YtcbijkakoepglaaGreat
namespace Go.Proofs.YtcbijkakoepglaaGreat
open Go Go.Wx
def OL(M:MState):Prop:=∀x∈M.lots,x.State=1→M.day<x.Due
theorem Move.day_le{M M':MState}(h:Move M M'):M.day≤M'.day:=by
 cases h<;>first | exact Int.le_refl _ | assumption
theorem Moves.day_le{M M':MState}(h:Moves M M'):M.day≤M'.day:=by
 induction h with
 | refl=>exact Int.le_refl _
 | tail _ h2 ih=>exact Int.le_trans ih h2.day_le
theorem aD2(M:MState)(id q d:Int):({M with day:=d}:MState).forfeit id q={M.forfeit id q with day:=d}:=by
 unfold MState.forfeit;simp only;cases M.lots[(id-1).toNat]? <;>rfl
theorem yH:∀(l:List (Int × Int)) (M:MState) (d:Int),({M with day:=d}:MState).forfeits l={M.forfeits l with day:=d}
 |[],_,_=>rfl
 | a::l,M,d=>by
  show(({M with day:=d}:MState).forfeit a.1 a.2).forfeits l={(M.forfeit a.1 a.2).forfeits l with day:=d};rw[aD2,yH l]
theorem aGJ{M:MState}(hI:IdOk M){x:TLot}{i:Nat}(h:M.lots[i]? =some x):(x.Id-1).toNat=i:=by
 have:=hI i x h;omega
theorem aBV{M:MState}{x:TLot}(h:M.lots[(x.Id-1).toNat]? =some x)(q:Int):M.forfeit x.Id q=(M.post ⟨q,x.Unit,x.Left,2,x.Thing,4,0,3,x.Id⟩).setLot (x.Id-1).toNat {x with State:=3}:=by
 unfold MState.forfeit;rw[h]
theorem aC8{M:MState}(hI:IdOk M){x x':TLot}{ds:List TLot}(hx:M.lots[(x.Id-1).toNat]? =some x)(hn:((x::ds).map (·.Id)).Nodup){y:TLot}(hy:y∈ds)(h:M.lots[(y.Id-1).toNat]? =some y):(M.lots.set (x.Id-1).toNat x')[(y.Id-1).toNat]? =some y:=by
 rw[List.getElem?_set_ne,h];intro e;have h1:=hI _ _ hx;have h2:=hI _ _ h;rw[List.map_cons,List.nodup_cons]at hn;exact hn.1 (List.mem_map.2 ⟨y,hy,by omega⟩)
theorem sN(q:TLot→Int){D:Int}(hD:D≤100000):∀(ds:List TLot) (M:MState),IdOk M→(∀x∈ds,M.lots[(x.Id-1).toNat]? =some x∧x.State=1)→(ds.map (·.Id)).Nodup→(ds.Pairwise fun x y=>q x≤q y)→(∀x∈ds,M.day≤q x∧q x≤D)→M.day≤D→
 ∃M',Moves M M'∧M'.day≤D∧M.forfeits (ds.map fun x=>(x.Id,q x))={M' with day:=M.day}
 |[],M,_,_,_,_,_,hd=>⟨M,.refl,hd,rfl⟩
 | x::ds,M,hI,hat,hn,hs,hq,hd=>by
  obtain⟨hx,hst⟩:=hat x List.mem_cons_self;obtain⟨q1,q2⟩:=hq x List.mem_cons_self;obtain⟨s1,s2⟩:=List.pairwise_cons.1 hs;have m1:Move M {M with day:=q x}:= .day q1 (Int.le_trans q2 hD);have m2:Move {M with day:=q x} ((({M with day:=q x}:MState).post ⟨q x,x.Unit,x.Left,2,x.Thing,4,0,3,x.Id⟩).setLot (x.Id-1).toNat {x with State:=3}):= .turn (M:={M with day:=q x}) hx (.forfeit hst)
  have hI2:IdOk ((({M with day:=q x}:MState).post ⟨q x,x.Unit,x.Left,2,x.Thing,4,0,3,x.Id⟩).setLot (x.Id-1).toNat {x with State:=3}):=IdOk.setLot (M:=M.post ⟨q x,x.Unit,x.Left,2,x.Thing,4,0,3,x.Id⟩) hI hx rfl;obtain⟨M',h1,h2,h3⟩:=sN q hD ds _ hI2 (fun y hy=>⟨aC8 hI hx hn hy (hat y (List.mem_cons_of_mem _ hy)).1,(hat y (List.mem_cons_of_mem _ hy)).2⟩) (by rw[List.map_cons,List.nodup_cons]at hn;exact hn.2) s2 (fun y hy=>⟨s1 y hy,(hq y (List.mem_cons_of_mem _ hy)).2⟩) q2;refine⟨M',.head m1 (.head m2 h1),h2,?_⟩
  show(M.forfeit x.Id (q x)).forfeits (ds.map fun x=>(x.Id,q x))=_;rw[aBV hx];have e:(M.post ⟨q x,x.Unit,x.Left,2,x.Thing,4,0,3,x.Id⟩).setLot (x.Id-1).toNat {x with State:=3}={((({M with day:=q x}:MState).post ⟨q x,x.Unit,x.Left,2,x.Thing,4,0,3,x.Id⟩).setLot (x.Id-1).toNat {x with State:=3})with day:=M.day}:=rfl;rw[e,yH,h3]
theorem tU(q:TLot→Int):∀(ds:List TLot) (M:MState),IdOk M→(∀x∈ds,M.lots[(x.Id-1).toNat]? =some x)→(ds.map (·.Id)).Nodup→
 ∀y∈(M.forfeits (ds.map fun x=>(x.Id,q x))).lots,y.State=1→y∈M.lots∧y ∉ ds
 |[],M,_,_,_,y,hy,_=>⟨hy,by simp⟩
 | x::ds,M,hI,hat,hn,y,hy,hs=>by
  have hx:=hat x List.mem_cons_self;have hI2:IdOk ((M.post ⟨q x,x.Unit,x.Left,2,x.Thing,4,0,3,x.Id⟩).setLot (x.Id-1).toNat {x with State:=3}):=IdOk.setLot (M:=M.post ⟨q x,x.Unit,x.Left,2,x.Thing,4,0,3,x.Id⟩) hI hx rfl;have hy:y∈((M.forfeit x.Id (q x)).forfeits (ds.map fun x=>(x.Id,q x))).lots:=hy;rw[aBV hx]at hy;obtain⟨h1,h2⟩:=tU q ds _ hI2 (fun z hz=>aC8 hI hx hn hz (hat z (List.mem_cons_of_mem _ hz))) (by rw[List.map_cons,List.nodup_cons]at hn;exact hn.2) y hy hs
  have h1:y∈M.lots.set (x.Id-1).toNat {x with State:=3}:=h1;obtain⟨j,hj⟩:=List.getElem?_of_mem h1;by_cases e:(x.Id-1).toNat=j
  ·subst e;rw[List.getElem?_set_self (List.getElem?_eq_some_iff.1 hx).1]at hj;cases hj;simp at hs
  ·rw[List.getElem?_set_ne e]at hj;refine⟨List.mem_of_getElem? hj,fun hm=>?_⟩;rcases List.mem_cons.1 hm with rfl | hm
   ·exact e (aGJ hI hj)
   ·exact h2 hm
theorem wN{M:MState}{d:Int}{x:TLot}:x∈M.due d↔x∈M.lots∧x.State=1∧x.Due≤d:=by
 unfold MState.due;rw[(dI _).mem_iff,List.mem_filter];simp[oC]
theorem aCC{M:MState}(hI:IdOk M):(M.lots.map (·.Id)).Nodup:=by
 rw[List.Nodup,List.pairwise_iff_getElem];intro i j hi hj hij;simp only[List.length_map]at hi hj;rw[List.getElem_map,List.getElem_map];have h1:=hI i _ (List.getElem?_eq_getElem hi);have h2:=hI j _ (List.getElem?_eq_getElem hj);omega
theorem wU{M:MState}(hI:IdOk M)(d:Int):((M.due d).map (·.Id)).Nodup:=by
 unfold MState.due;refine((dI _).map _).nodup_iff.2 ?_;exact(aCC hI).sublist ((List.filter_sublist).map _)
theorem aCs{M:MState}(hI:IdOk M){d:Int}{x:TLot}(hx:x∈M.due d):M.lots[(x.Id-1).toNat]? =some x:=by
 obtain⟨j,hj⟩:=List.getElem?_of_mem (wN.1 hx).1;rw[aGJ hI hj];exact hj
theorem aES(M:MState)(d:Int):(M.due d).Pairwise fun x y=>x.Due≤y.Due:=by
 unfold MState.due;refine(lZ swoLot _).imp fun{x y} h=>?_;rw[qR]at h;omega
theorem rW{M:MState}(hJ:J M)(hO:OL M){day:Int}(h1:M.day≤day)(h2:day≤100000):Moves M (M.advance day)∧OL (M.advance day):=by
 have hI:=hJ.ids;obtain⟨M',hm,hd,e⟩:=sN (fun x=>x.Due) h2 (M.due day) M hI (fun x hx=>⟨aCs hI hx,(wN.1 hx).2.1⟩) (wU hI day) (aES M day) (fun x hx=>by
  obtain⟨k1,k2,k3⟩:=wN.1 hx;have:=hO x k1 k2;exact⟨by omega,k3⟩) h1
 constructor
 ·unfold MState.advance;rw[e];exact hm.tail (.day hd h2)
 ·intro x hx hs;have hx:x∈(M.forfeits ((M.due day).map fun x=>(x.Id,x.Due))).lots:=hx;obtain⟨k1,k2⟩:=tU (fun x=>x.Due) (M.due day) M hI (fun x hx=>aCs hI hx) (wU hI day) x hx hs;show day<x.Due;apply Classical.byContradiction;intro hc;exact k2 (wN.2 ⟨k1,hs,by omega⟩)
theorem aBO{M:MState}(hJ:J M):Moves M M.late∧OL M.late∧M.late.day=M.day:=by
 have hI:=hJ.ids;obtain⟨M',hm,hd,e⟩:=sN (fun _=>M.day) hJ.d1 (M.due M.day) M hI (fun x hx=>⟨aCs hI hx,(wN.1 hx).2.1⟩) (wU hI _) (List.pairwise_of_forall fun _ _=>Int.le_refl _) (fun x hx=>⟨Int.le_refl _,Int.le_refl _⟩) (Int.le_refl _);have hday:M'.day=M.day:=Int.le_antisymm hd hm.day_le;have e:M.late=M':=by
  unfold MState.late;rw[e,←hday]
 refine⟨by rw[e];exact hm,fun x hx hs=>?_,by rw[e];exact hday⟩;have hx:x∈(M.forfeits ((M.due M.day).map fun x=>(x.Id,M.day))).lots:=hx;obtain⟨k1,k2⟩:=tU (fun _=>M.day) (M.due M.day) M hI (fun x hx=>aCs hI hx) (wU hI _) x hx hs;rw[e,hday];apply Classical.byContradiction;intro hc;exact k2 (wN.2 ⟨k1,hs,by omega⟩)
theorem xR{M:MState}{sel:TLot→Bool}{upd:TLot→TLot}{mk:TLot→TPosting}(hsel:∀x∈M.lots,sel x=true→∃n fk fi tk ti why,Turn x (upd x) n fk fi tk ti why∧mk x=⟨M.day,x.Unit,n,fk,fi,tk,ti,why,x.Id⟩):Moves M (M.each sel upd mk):=by
 rw[←sQ];have:∀i,i≤M.lots.length→Moves M (M.eachTo sel upd mk i):=by
  intro i;induction i with
  | zero=>intro _;unfold MState.eachTo;simp;exact .refl
  | succ i ih=>
   intro hi;have hx:M.lots[i]? =some M.lots[i]:=List.getElem?_eq_getElem (by omega);rw[qT hx];split
   ·rename_i hs;obtain⟨n,fk,fi,tk,ti,why,ht,e⟩:=hsel _ (List.mem_of_getElem? hx) hs;rw[e];exact(ih (by omega)).tail (.turn (M:=M.eachTo sel upd mk i) (rT hx) ht)
   ·exact ih (by omega)
 exact this _ (Nat.le_refl _)
theorem aBw(M:MState)(day thing person:Int):M.refTo day thing person M.lots.length=M.ref day thing person:=by
 unfold MState.refTo MState.ref;simp
theorem aFN{M:MState}{thing person:Int}(hp:jI person=true):Moves M (M.ref M.day thing person):=by
 rw[←aBw];have:∀i,i≤M.lots.length→Moves M (M.refTo M.day thing person i):=by
  intro i;induction i with
  | zero=>intro _;unfold MState.refTo;simp;exact .refl
  | succ i ih=>
   intro hi;have hx:M.lots[i]? =some M.lots[i]:=List.getElem?_eq_getElem (by omega);generalize hxx:M.lots[i]=x at hx;rw[uO hx];have ih:=ih (by omega);have hg:=wK (day:=M.day) (thing:=thing) (person:=person) hx;by_cases hs:(pR thing x&&okR M.day x)=true
   ·have hst:x.State=3:=by
     simp only[Bool.and_eq_true,pR,beq_iff_eq]at hs;exact hs.1.2
    by_cases hr:0<o9 x
    ·have e1:sS M.day thing x={x with State:=4,Left:=0}:=by unfold sS;rw[if_pos hs]
     have e2:mkR M.day thing person x=some ⟨M.day,x.Unit,o9 x,4,0,3,person,4,x.Id⟩:=by unfold mkR;rw[hs,decide_eq_true hr];rfl
     rw[e1,e2];exact ih.tail (.turn (M:=M.refTo M.day thing person i) hg (.refund person hst hp hr))
    ·have e1:sS M.day thing x={x with State:=4,Left:=0}:=by unfold sS;rw[if_pos hs]
     have e2:mkR M.day thing person x=none:=by unfold mkR;rw[hs,decide_eq_false hr];rfl
     rw[e1,e2];have:=ih.tail (.keep (M:=M.refTo M.day thing person i) hg hst hr);simpa[MState.setLot,MState.refTo]using this
   ·have e1:sS M.day thing x=x:=by unfold sS;rw[if_neg hs]
    have e2:mkR M.day thing person x=none:=by
     unfold mkR;rw[if_neg];intro h;rw[Bool.and_eq_true]at h;exact hs h.1
    rw[e1,e2];have:({M with lots:=(M.refTo M.day thing person i).lots.set i x,postings:=(M.refTo M.day thing person i).postings++(none:Option TPosting).toList}:MState)=M.refTo M.day thing person i:=by
     have hset:(M.refTo M.day thing person i).lots.set i x=(M.refTo M.day thing person i).lots:=by
      obtain⟨hl,hg'⟩:=List.getElem?_eq_some_iff.1 hg;rw[←hg'];exact List.set_getElem_self hl
     rw[hset];simp[MState.refTo]
    rw[this];exact ih
 exact this _ (Nat.le_refl _)
end Go.Proofs.YtcbijkakoepglaaGreat
namespace Go.Proofs.YtcbijkakoepglaaGreat
open Go Go.Wx
theorem uR{M:MState}(hJ:J M)(hO:OL M){day:Int}{g:MState→Int × MState}(hg:∀A,J A→OL A→A.day=day→(g A).1=0→Moves A (g A).2∧OL (g A).2):Moves M (M.oper day g).2∧OL (M.oper day g).2:=by
 unfold MState.oper;split
 ·exact⟨.refl,hO⟩
 rename_i h1;split
 ·exact⟨.refl,hO⟩
 rename_i h2;split
 ·exact⟨.refl,hO⟩
 rename_i h3;split
 ·exact⟨.refl,hO⟩
 obtain⟨a1,a2⟩:=rW hJ hO (day:=day) (by omega) (by omega);obtain⟨b1,b2⟩:=hg (M.advance day) (a1.j hJ) a2 rfl (by simpa using h3);exact⟨a1.trans b1,b2⟩
theorem oS{α:Type}{M:MState}(hJ:J M)(hO:OL M){z:α}{day:Int}{g:MState→Int × MState × α}(hg:∀A,J A→OL A→A.day=day→(g A).1=0→Moves A (g A).2.1∧OL (g A).2.1):Moves M (M.operO z day g).2.1∧OL (M.operO z day g).2.1:=by
 unfold MState.operO;split
 ·exact⟨.refl,hO⟩
 rename_i h1;split
 ·exact⟨.refl,hO⟩
 rename_i h2;split
 ·exact⟨.refl,hO⟩
 rename_i h3;split
 ·exact⟨.refl,hO⟩
 obtain⟨a1,a2⟩:=rW hJ hO (day:=day) (by omega) (by omega);obtain⟨b1,b2⟩:=hg (M.advance day) (a1.j hJ) a2 rfl (by simpa using h3);exact⟨a1.trans b1,b2⟩
theorem aAb{M:MState}(hO:OL M){sel:TLot→Bool}{upd:TLot→TLot}{mk:TLot→TPosting}(hu:∀x,(upd x).State≠1):OL (M.each sel upd mk):=by
 intro x hx hs;obtain⟨y,hy,rfl⟩:=List.mem_map.1 (show x∈M.lots.map fun x=>if sel x then upd x else x from hx);split at hs
 ·exact absurd hs (hu y)
 ·rename_i hn;rw[if_neg hn];exact hO y hy hs
theorem term_le{M:MState}(h:∀t∈M.terms,1≤t.days∧t.days≤40000)(name:ByteArray)(n day:Int):M.term name n day≤40000:=by
 unfold MState.term;have:∀(l:List Tterm) (b:Tterm),b.days≤40000→(∀t∈l,1≤t.days∧t.days≤40000)→(vI name n day b l).days≤40000:=by
  intro l;induction l with
  | nil=>intro b hb _;exact hb
  | cons t l ih=>
   intro b hb hl;unfold vI;refine ih _ ?_ fun t ht=>hl t (List.mem_cons_of_mem _ ht);split
   ·exact(hl t List.mem_cons_self).2
   ·exact hb
 exact this _ _ (by simp) h
theorem due_gt{M:MState}(h:∀t∈M.terms,1≤t.days∧t.days≤40000){day:Int}(d0:0≤day)(d1:day≤100000)(g:TAmount):day<uF M day g∧uF M day g≤100001:=by
 have ht:=term_le h g.Unit g.N day;unfold uF;simp only;split
 ·rename_i h0;have e:wr (day+M.term g.Unit g.N day)=day+M.term g.Unit g.N day:=bQ (by omega) (by omega);rw[e];split<;>omega
 ·omega
theorem aD9{M:MState}(hO:OL M){x:TLot}{fk fi why:Int}(h:M.day<x.Due):OL (M.enter x fk fi why):=by
 intro y hy hs;rcases List.mem_append.1 (show y∈M.lots++[{x with Id:=M.nextId,State:=1,Bag:=0}]from hy)with hy | hy
 ·exact hO y hy hs
 ·simp at hy;subst hy;exact h
theorem aD0{M:MState}:∀{gs:List TAmount} {q:Option TAmount},lO M q gs=0→∀g∈gs,1≤g.N∧g.N≤1000000000∧0≤M.find g.Unit
 |[],_,_,_,h=>by cases h
 | a::gs,q,h,g,hg=>by
  unfold lO at h;split at h
  ·simp at h
  rename_i h1;split at h
  ·simp at h
  rename_i h2;rcases List.mem_cons.1 hg with rfl | hg
  ·exact⟨by omega,by omega,by omega⟩
  ·exact aD0 h g hg
theorem xH{day thing layer:Int}(ht:jI thing=true):∀(gs:List TAmount) {M:MState},J M→OL M→M.day=day→(∀g∈gs,1≤g.N∧g.N≤1000000000∧0≤M.find g.Unit)→M.lots.length+gs.length≤2000→Moves M (jK day thing layer M gs).1∧OL (jK day thing layer M gs).1
 |[],M,_,hO,_,_,_=>⟨.refl,hO⟩
 | g::gs,M,hJ,hO,hd,hg,hl=>by
  obtain⟨g1,g2,g3⟩:=hg g List.mem_cons_self;simp only[List.length_cons]at hl;have hdue:=due_gt hJ.terms (day:=day) (by rw[←hd];exact hJ.d0) (by rw[←hd];exact hJ.d1) g;have m:Move M (M.enter ⟨0,thing,layer,day,uF M day g,g.Unit,g.N,g.N,0,0⟩ 1 0 1):= .enter (.inl ⟨rfl,.inl rfl⟩) ⟨ht,g3,g1,g2,rfl⟩ (by omega);obtain⟨h1,h2⟩:=xH ht gs (m.j hJ) (aD9 hO (by rw[hd];exact hdue.1)) hd (fun g hgm=>hg g (List.mem_cons_of_mem _ hgm)) (by simp[MState.enter];omega);exact⟨.head m h1,h2⟩
theorem aEa{M:MState}:∀{ls:List TLot},lM M ls=0→∀x∈ls,tD x=false∧0≤M.find x.Unit
 |[],_,_,h=>by cases h
 | a::ls,h,x,hx=>by
  unfold lM at h;split at h
  ·simp at h
  rename_i h1;split at h
  ·simp at h
  rename_i h2;rcases List.mem_cons.1 hx with rfl | hx
  ·exact⟨by simpa using h1,by omega⟩
  ·exact aEa h x hx
theorem aBC{day:Int}:∀(ls:List TLot) {M:MState},J M→M.day=day→(∀x∈ls,tD x=false∧0≤M.find x.Unit)→M.lots.length+ls.length≤2000→Moves M (nD day M ls).1∧(nD day M ls).1.day=day
 |[],M,_,hd,_,_=>⟨.refl,hd⟩
 | x::ls,M,hJ,hd,hg,hl=>by
  obtain⟨g1,g2⟩:=hg x List.mem_cons_self;simp only[List.length_cons]at hl;unfold tD at g1;simp only[Bool.or_eq_false_iff,Bool.not_eq_false',decide_eq_false_iff_not]at g1;have m:Move M (M.enter ⟨0,x.Thing,x.Layer,day,x.Due,x.Unit,x.Left,x.Left,0,0⟩ 1 0 10):= .enter (.inl ⟨rfl,.inr rfl⟩) ⟨g1.1.1.1.1.1.1,g2,by show 1≤x.Left;omega,by show x.Left≤1000000000;omega,rfl⟩ (by omega);obtain⟨h1,h2⟩:=aBC ls (m.j hJ) hd (fun y hy=>hg y (List.mem_cons_of_mem _ hy)) (by simp[MState.enter];omega);exact⟨.head m h1,h2⟩
theorem aFd(x:Int): -9223372036854775808≤wr x∧wr x≤9223372036854775807:=by
 show -9223372036854775808≤IntKind.wrap .i64 x∧IntKind.wrap .i64 x≤9223372036854775807;rw[IntKind.wrap_i64];omega
theorem aAo:∀(l:List TLot) (v:Int),v≤9223372036854775807→qE v l≤9223372036854775807
 |[],_,h=>h
 | x::l,v,_=>aAo l _ (aFd _).2
theorem cv_ol{M:MState}(hO:OL M){i:Nat}{x:TLot}(hx:M.lots[i]? =some x)(hs:x.State=1)(m:Int)(p:TPosting):OL ((M.setLot i (iP x m)).post p):=by
 intro y hy h1;rcases List.mem_or_eq_of_mem_set (show y∈M.lots.set i (iP x m)from hy)with hy | hy
 ·exact hO y hy h1
 ·rw[hy];exact hO x (List.mem_of_getElem? hx) hs
theorem aAm{thing person:Int}{name:ByteArray}(hp:jI person=true):∀(os:List TLot) {M:MState} {n:Int},J M→OL M→0≤n→n≤9223372036854775807→
 (∀o∈os,M.lots[(o.Id-1).toNat]? =some o∧o.State=1∧o.Unit=name∧o.Thing=thing∧1≤o.Left∧o.Left≤1000000000)→(os.map (·.Id)).Nodup→Moves M (oM M.day thing person name M n os)∧OL (oM M.day thing person name M n os)
 |[],M,n,_,hO,_,_,_,_=>⟨.refl,hO⟩
 | o::os,M,n,hJ,hO,h0,h1,hat,hn=>by
  obtain⟨k1,k2,k3,k4,k5,k6⟩:=hat o List.mem_cons_self;unfold oM;generalize hk:(if o.Left<n then o.Left else n)=kk;have hkk:0≤kk∧kk≤n∧kk≤o.Left:=by subst hk;split<;>omega
  split
  ·exact⟨.refl,hO⟩
  rename_i hz;rw[k1];simp only;have m:Move M ((M.setLot (o.Id-1).toNat (iP o kk)).post ⟨M.day,name,kk,2,thing,3,person,2,o.Id⟩):=by
   have:=Move.turn (M:=M) k1 (.part person kk k2 (by omega) hkk.2.2 hp);rw[k3,k4]at this;exact this
  have e:wr (n-kk)=n-kk:=bQ (by omega) (by omega);rw[e];obtain⟨r1,r2⟩:=aAm (thing:=thing) (name:=name) hp os (M:=(M.setLot (o.Id-1).toNat (iP o kk)).post ⟨M.day,name,kk,2,thing,3,person,2,o.Id⟩) (n:=n-kk) (m.j hJ) (cv_ol hO k1 k2 kk _) (by omega) (by omega) (fun y hy=>⟨aC8 (x':=iP o kk) hJ.ids k1 hn hy (hat y (List.mem_cons_of_mem _ hy)).1,(hat y (List.mem_cons_of_mem _ hy)).2⟩) (by rw[List.map_cons,List.nodup_cons]at hn;exact hn.2);exact⟨.head m r1,r2⟩
theorem aDh{a b n:Int}(ha:0<a)(ha2:a≤100000)(hb:0<b)(hb2:b≤100000)(hn:1≤n)(hn2:n≤1000000000)(ht:¬fF a b n<1):
 wr (fF a b n*cvB a b)=fF a b n*cvB a b∧wr (fF a b n*cvA a b)=fF a b n*cvA a b∧1≤fF a b n*cvB a b∧fF a b n*cvB a b≤n∧1≤fF a b n*cvA a b∧fF a b n*cvA a b≤1000000000:=by
 obtain⟨_,a1,a2,b1,b2,_,_⟩:=aB4 ha ha2 hb hb2;have d1:Int.tdiv 1000000000 (cvA a b)=1000000000 / cvA a b:=Int.tdiv_eq_ediv_of_nonneg (by omega);have d2:Int.tdiv n (cvB a b)=n / cvB a b:=Int.tdiv_eq_ediv_of_nonneg (by omega);have e1:1000000000 / cvA a b*cvA a b≤1000000000:=Int.ediv_mul_le _ (by omega);have e2:n / cvB a b*cvB a b≤n:=Int.ediv_mul_le _ (by omega);have p1:0≤1000000000 / cvA a b:=Int.ediv_nonneg (by omega) (by omega);have p2:0≤n / cvB a b:=Int.ediv_nonneg (by omega) (by omega)
 have q1:1000000000 / cvA a b≤1000000000:=by
  have:=Int.mul_le_mul_of_nonneg_left a1 p1;omega
 have q2:n / cvB a b≤n:=by
  have:=Int.mul_le_mul_of_nonneg_left b1 p2;omega
 have w1:wr (1000000000 / cvA a b)=1000000000 / cvA a b:=bQ (by omega) (by omega);have w2:wr (n / cvB a b)=n / cvB a b:=bQ (by omega) (by omega);have hT:fF a b n=if 1000000000 / cvA a b<n / cvB a b then 1000000000 / cvA a b else n / cvB a b:=by
  unfold fF;rw[d1,d2,w1,w2]
 have t1:fF a b n≤1000000000 / cvA a b:=by rw[hT];split<;>omega
 have t2:fF a b n≤n / cvB a b:=by rw[hT];split<;>omega
 have t0:1≤fF a b n:=by omega
 have m1:=Int.mul_le_mul_of_nonneg_right t1 (show 0≤cvA a b by omega);have m2:=Int.mul_le_mul_of_nonneg_right t2 (show 0≤cvB a b by omega);have m3:=Int.mul_le_mul t0 a1 (by omega) (show 0≤fF a b n by omega);have m4:=Int.mul_le_mul t0 b1 (by omega) (show 0≤fF a b n by omega);refine⟨bQ (by omega) (by omega),bQ (by omega) (by omega),?_,?_,?_,?_⟩<;>omega
theorem vN{M:MState}(hJ:J M)(hO:OL M){z:List TAmount × List TLot}{day thing in_:Int}{ok:Bool}{upd:TLot→TLot}{mk:TLot→TPosting}(hu:∀x,(upd x).State≠1)
 (hm:ok=true→∀x:TLot,x.Thing=thing→x.State=in_→∃n fk fi tk ti why,Turn x (upd x) n fk fi tk ti why∧mk x=⟨day,x.Unit,n,fk,fi,tk,ti,why,x.Id⟩):
 Moves M (M.operO z day (iD thing ok in_ upd mk id)).2.1∧OL (M.operO z day (iD thing ok in_ upd mk id)).2.1:=by
 refine oS hJ hO fun A jA oA dA h=>?_;unfold iD at h ⊢;split
 ·rename_i hc;rw[if_pos hc]at h;simp at h
 rename_i hc;rw[if_neg hc]at h;split
 ·rename_i he;rw[if_pos he]at h;simp at h
 have hok:ok=true:=by
  simp only[Bool.or_eq_true,Bool.not_eq_true',not_or,Bool.not_eq_false]at hc;exact hc.2
 refine⟨xR fun x _ hs=>?_,aAb oA hu⟩;simp only[fK,Bool.and_eq_true,beq_iff_eq]at hs;rw[dA];exact hm hok x hs.1 hs.2
theorem aFJ{M:MState}(hJ:J M)(hO:OL M)(o:MOp):Moves M (M.run o).2∧OL (M.run o).2:=by
 unfold MState.run;by_cases c0:o.kind=0
 ·rw[if_pos c0];refine uR hJ hO fun A jA oA dA h=>?_;unfold sE at h ⊢;split
  ·rename_i hc;rw[if_pos hc]at h;simp at h
  rename_i hc;rw[if_neg hc]at h;split
  ·rename_i hc;rw[if_pos hc]at h;simp at h
  rename_i hc2;rw[if_neg hc2]at h;split
  ·rename_i hc;rw[if_pos hc]at h;simp at h
  rename_i hc3;rw[if_neg hc3]at h;split
  ·rename_i hc;rw[if_pos hc]at h;simp at h
  exact⟨.one (.unit (by simpa using hc) (by omega)),oA⟩
 rw[if_neg c0];by_cases c1:o.kind=1
 ·rw[if_pos c1];refine uR hJ hO fun A jA oA dA h=>?_;unfold rC at h ⊢;split
  ·exact⟨.refl,oA⟩
  split
  ·exact⟨.refl,oA⟩
  rename_i u hu;split
  ·exact⟨.refl,oA⟩
  split
  ·exact⟨.refl,oA⟩
  rename_i hgr;have:=Move.value (M:=A) (g:=o.a) hu (by omega) (by omega);have e:({A with units:=A.units.set (A.find o.unit).toNat {u with values:=u.values++[⟨A.day,o.a⟩]}}:MState)={A with units:=A.units.set (A.find o.unit).toNat {u with values:=u.values++[⟨o.day,o.a⟩]}}:=by rw[dA]
  rw[e]at this;exact⟨.one this,oA⟩
 rw[if_neg c1];by_cases c2:o.kind=2
 ·rw[if_pos c2];refine uR hJ hO fun A jA oA dA h=>?_;unfold sM at h ⊢;split
  ·exact⟨.refl,oA⟩
  split
  ·exact⟨.refl,oA⟩
  rename_i hc;split
  ·exact⟨.refl,oA⟩
  exact⟨.one (.term dA.symm (by show 1≤o.b;omega) (by show o.b≤40000;omega)),oA⟩
 rw[if_neg c2];by_cases c3:o.kind=3
 ·rw[if_pos c3];exact uR hJ hO fun A jA oA dA h=>⟨.refl,oA⟩
 rw[if_neg c3];by_cases c4:o.kind=4
 ·rw[if_pos c4];refine oS hJ hO fun A jA oA dA h=>?_;unfold iR at h ⊢;split
  ·exact⟨.refl,oA⟩
  rename_i h1;split
  ·exact⟨.refl,oA⟩
  split
  ·exact⟨.refl,oA⟩
  rename_i h3;split
  ·exact⟨.refl,oA⟩
  split
  ·exact⟨.refl,oA⟩
  exact xH (by simp at h1;exact h1.1) _ jA oA dA (aD0 (by simpa using h3)) (by omega)
 rw[if_neg c4];by_cases c5:o.kind=5
 ·rw[if_pos c5];refine vN hJ hO (fun x=>by simp[xJ]) fun hok x h1 h2=>⟨_,_,_,_,_,_,.pay o.b h2 hok,?_⟩;rw[h1];rfl
 rw[if_neg c5];by_cases c6:o.kind=6
 ·rw[if_pos c6];refine oS hJ hO fun A jA oA dA h=>?_;unfold oP at h ⊢;split
  ·exact⟨.refl,oA⟩
  rename_i h1;split
  ·exact⟨.refl,oA⟩
  split
  ·exact⟨.refl,oA⟩
  rename_i h3;simp only[Bool.or_eq_true,Bool.not_eq_true',decide_eq_true_eq,not_or,Bool.not_eq_false,Bool.and_eq_true]at h1;have hle:=aAo (A.lots.filter (l8 o.a o.unit)) 0 (by omega);rw[←dA];refine aAm h1.1.2 _ jA oA (by omega) (by omega) (fun y hy=>?_) ?_
  ·rw[(dI _).mem_iff,List.mem_filter]at hy;obtain⟨hy,hs⟩:=hy;simp only[l8,Bool.and_eq_true,beq_iff_eq,iX]at hs;obtain⟨j,hj⟩:=List.getElem?_of_mem hy;have hk:=jA.lots y hy;refine⟨by rw[aGJ jA.ids hj];exact hj,hs.2.1,hs.2.2,hs.1,?_,?_⟩
   ·have:=hk.live;omega
   ·have:=hk.live;have:=hk.n2;omega
  ·refine((dI _).map _).nodup_iff.2 ?_;exact(aCC jA.ids).sublist ((List.filter_sublist).map _)
 rw[if_neg c6];by_cases c7:o.kind=7
 ·rw[if_pos c7];refine oS hJ hO fun A jA oA dA h=>?_;unfold jZ at h ⊢;split
  ·exact⟨.refl,oA⟩
  rename_i h1;split
  ·exact⟨.refl,oA⟩
  rename_i x hx;dsimp only at h ⊢;split
  ·exact⟨.refl,oA⟩
  rename_i hs;split
  ·exact⟨.refl,oA⟩
  rename_i hf;split
  ·exact⟨.refl,oA⟩
  rename_i hn;split
  ·exact⟨.refl,oA⟩
  rename_i hl;split
  ·exact⟨.refl,oA⟩
  rename_i ht;split
  ·exact⟨.refl,oA⟩
  rename_i hlen;have hs:x.State=1:=by simpa using hs
  have hxm:=List.mem_of_getElem? hx;have hk:=jA.lots x hxm;have va:=qP jA.grains x.Unit o.day;have vb:=qP jA.grains o.to_ o.day;simp only[not_or]at hf;have hlive:=hk.live;have hk2:=hk.n2;obtain⟨e1,e2,r1,r2,r3,r4⟩:=aDh (a:=A.value x.Unit o.day) (b:=A.value o.to_ o.day) (n:=o.b) (by omega) va.2 (by omega) vb.2 (by omega) (by omega) ht;rw[e1,e2];generalize fF (A.value x.Unit o.day) (A.value o.to_ o.day) o.b*cvB (A.value x.Unit o.day) (A.value o.to_ o.day)=m at r1 r2 ⊢
  generalize fF (A.value x.Unit o.day) (A.value o.to_ o.day) o.b*cvA (A.value x.Unit o.day) (A.value o.to_ o.day)=kk at r3 r4 ⊢;have hid:x.Id=o.a:=by have:=jA.ids _ x hx;omega
  have m1:Move A ((A.setLot (o.a-1).toNat (iP x m)).post ⟨o.day,x.Unit,m,2,x.Thing,6,0,5,o.a⟩):=by
   have:=Move.turn (M:=A) hx (.swap m hs r1 (by omega));rw[dA,hid]at this;exact this
  have m2:Move ((A.setLot (o.a-1).toNat (iP x m)).post ⟨o.day,x.Unit,m,2,x.Thing,6,0,5,o.a⟩) (A.conv (o.a-1).toNat x o.day o.a o.to_ m kk):=
   .enter (.inr ⟨rfl,rfl⟩) ⟨hk.thing,by show 0≤A.find o.to_;omega,r3,r4,rfl⟩ (by simp[MState.post,MState.setLot];omega)
  exact⟨.head m1 (.one m2),aD9 (cv_ol oA hx hs m _) (oA x hxm hs)⟩
 rw[if_neg c7];by_cases c8:o.kind=8
 ·rw[if_pos c8];refine oS hJ hO fun A jA oA dA h=>?_;unfold lU at h ⊢;split
  ·exact⟨.refl,oA⟩
  rename_i h1;simp only[Bool.and_eq_false_iff,not_or,Bool.not_eq_false]at h1;have m:=aFN (M:=A) (thing:=o.a) h1.2;rw[dA]at m;have ol:OL (A.ref o.day o.a o.b):=by
   intro x hx hs;obtain⟨y,hy,rfl⟩:=List.mem_map.1 (show x∈A.lots.map (sS o.day o.a)from hx);unfold sS at hs ⊢;split at hs
   ·simp at hs
   ·rename_i hn;rw[if_neg hn];exact oA y hy hs
  split
  ·exact⟨m,ol⟩
  split
  ·exact⟨m,ol⟩
  exact⟨m,ol⟩
 rw[if_neg c8];by_cases c9:o.kind=9
 ·rw[if_pos c9];refine vN hJ hO (fun x=>by simp[uJ]) fun hok x h1 h2=>⟨_,_,_,_,_,_,.lose h2,?_⟩;rw[h1];rfl
 rw[if_neg c9];by_cases c10:o.kind=10
 ·rw[if_pos c10];refine oS hJ hO fun A jA oA dA h=>?_;unfold iD at h ⊢;split
  ·exact⟨.refl,oA⟩
  split
  ·rename_i hc he;rw[if_neg hc,if_pos he]at h;simp at h
  have m:=xR (M:=A) (sel:=fK o.a 5) (upd:=rN) (mk:=wM o.day o.a) fun x _ hs=>by
   simp only[fK,Bool.and_eq_true,beq_iff_eq]at hs;refine⟨_,_,_,_,_,_,.recover hs.2,?_⟩;rw[dA,hs.1];rfl
  obtain⟨l1,l2,_⟩:=aBO (m.j jA);exact⟨m.trans l1,l2⟩
 rw[if_neg c10];by_cases c11:o.kind=11
 ·rw[if_pos c11];refine vN hJ hO (fun x=>by simp[dM]) fun hok x h1 h2=>⟨_,_,_,_,_,_,.dispatch o.b h2 hok,?_⟩;rw[h1];rfl
 rw[if_neg c11];by_cases c12:o.kind=12
 ·rw[if_pos c12];refine oS hJ hO fun A jA oA dA h=>?_;unfold lP at h ⊢;have m:=xR (M:=A) (sel:=iM o.a) (upd:=jP) (mk:=lX o.day o.a) fun x _ hs=>by
   simp only[iM,Bool.and_eq_true,beq_iff_eq]at hs;refine⟨_,_,_,_,_,_,.arrive hs.1,?_⟩;rw[dA,hs.2];rfl
  have ol:OL (A.each (iM o.a) jP (lX o.day o.a)):=aAb oA fun x=>by simp[jP]
  split
  ·exact⟨.refl,oA⟩
  split
  ·exact⟨m,ol⟩
  exact⟨m,ol⟩
 rw[if_neg c12];refine oS hJ hO fun A jA oA dA h=>?_;unfold lK at h ⊢;split
 ·exact⟨.refl,oA⟩
 rename_i h1;split
 ·exact⟨.refl,oA⟩
 obtain⟨m1,m2⟩:=aBC o.lots jA dA (aEa (by simpa using h1)) (by omega);obtain⟨l1,l2,_⟩:=aBO (m1.j jA);exact⟨m1.trans l1,l2⟩
end Go.Proofs.YtcbijkakoepglaaGreat
namespace Go.Proofs.YtcbijkakoepglaaGreat
open Go Go.Wx
theorem aCP(d:Int):∀(a:List TPosting) (m:List (Tplace × Int)) (b:List TPosting),oD d m (a++b)=oD d (oD d m a) b
 |[],_,_=>rfl
 | p::a,m,b=>by simp only[List.cons_append,oD];exact aCP d a _ b
theorem aAS{d:Int}:∀(b:List TPosting) (m:List (Tplace × Int)),(∀p∈b,d<p.Day)→oD d m b=m
 |[],_,_=>rfl
 | p::b,m,h=>by
  unfold oD;rw[if_neg (by have:=h p List.mem_cons_self;omega)];exact aAS b m fun q hq=>h q (List.mem_cons_of_mem _ hq)
theorem z6(d:Int):∀(a:List Tdated) (v:Int) (b:List Tdated),nH d v (a++b)=nH d (nH d v a) b
 |[],_,_=>rfl
 | x::a,v,b=>by simp only[List.cons_append,nH];exact z6 d a _ b
def xU(d:Int):Option MUnit→Int
 | some u=>nH d 0 u.values
 | none=>0
theorem xT(M:MState)(name:ByteArray)(d:Int):M.value name d=xU d (M.units.find? fun u=>dF u.name name):=by
 unfold MState.value xU;split<;>rename_i h<;>rw[h]
theorem aBm{n:ByteArray}{d day g:Int}(hd:d<day):∀(l:List MUnit) (i:Nat) (u:MUnit),l[i]? =some u→
 xU d ((l.set i {u with values:=u.values++[⟨day,g⟩]}).find? fun u=>dF u.name n)=xU d (l.find? fun u=>dF u.name n)
 |[],_,_,h=>by simp at h
 | x::l,0,u,h=>by
  simp at h;subst h;simp only[List.set_cons_zero,List.find?_cons];cases dF x.name n with
  | true=>
   simp only[xU,z6];simp only[nH];rw[if_neg (by omega)]
  | false=>rfl
 | x::l,i+1,u,h=>by
  simp only[List.set_cons_succ,List.find?_cons];cases dF x.name n with
  | true=>rfl
  | false=>exact aBm hd l i u (by simpa using h)
structure Same(d:Int)(M M':MState):Prop where
 post:∃ex,M'.postings=M.postings++ex∧∀p∈ex,d<p.Day
 value:∀name,M'.value name d=M.value name d
theorem Same.refl(d:Int)(M:MState):Same d M M:=⟨⟨[],by simp,fun _ h=>by cases h⟩,fun _=>rfl⟩
theorem Same.trans{d:Int}{M M1 M2:MState}(h:Same d M M1)(h2:Same d M1 M2):Same d M M2:=by
 obtain⟨e1,p1,q1⟩:=h.post;obtain⟨e2,p2,q2⟩:=h2.post;refine⟨⟨e1++e2,by rw[p2,p1,List.append_assoc],fun p hp=>?_⟩,fun name=>(h2.value name).trans (h.value name)⟩;rcases List.mem_append.1 hp with hp | hp
 ·exact q1 p hp
 ·exact q2 p hp
theorem Move.same{d:Int}{M M':MState}(h:Move M M')(hd:d<M.day):Same d M M':=by
 cases h with
 | turn hx ht=>exact⟨⟨[_],rfl,fun p hp=>by simp at hp;subst hp;exact hd⟩,fun _=>rfl⟩
 | keep hx hs hr=>exact⟨⟨[],by simp[MState.setLot],fun _ h=>by cases h⟩,fun _=>rfl⟩
 | enter hw hl hlen=>exact⟨⟨[_],rfl,fun p hp=>by simp at hp;subst hp;exact hd⟩,fun _=>rfl⟩
 | day h1 h2=>exact⟨⟨[],by simp,fun _ h=>by cases h⟩,fun _=>rfl⟩
 | unit hn hf=>
  rename_i name kind;refine⟨⟨[],by simp,fun _ h=>by cases h⟩,fun n=>?_⟩;rw[xT,xT];simp only[List.find?_append];cases M.units.find? (fun u=>dF u.name n)with
  | some u=>rfl
  | none=>
   simp only[Option.none_or,List.find?_cons,List.find?_nil];cases dF name n<;>rfl
 | value hu g1 g2=>
  refine⟨⟨[],by simp,fun _ h=>by cases h⟩,fun n=>?_⟩;rw[xT,xT];exact aBm hd _ _ _ hu
 | term h1 h2 h3=>exact⟨⟨[],by simp,fun _ h=>by cases h⟩,fun _=>rfl⟩
theorem Moves.same{d:Int}{M M':MState}(h:Moves M M')(hd:d<M.day):Same d M M':=by
 induction h with
 | refl=>exact Same.refl d _
 | tail h1 h2 ih=>exact ih.trans (h2.same (Int.lt_of_lt_of_le hd h1.day_le))
section
variable {d : Int} {M M' : MState}
theorem Same.bal(h:Same d M M'):oD d [] M'.postings=oD d [] M.postings:=by
 obtain⟨ex,p,q⟩:=h.post;rw[p,aCP,aAS ex _ q]
theorem Same.trial(h:Same d M M'):M'.trial d=M.trial d:=by unfold MState.trial;rw[h.bal]
theorem Same.balance(h:Same d M M')(a:TAccount)(name:ByteArray):M'.balance a name d=M.balance a name d:=by unfold MState.balance;rw[h.bal]
theorem Same.balances(h:Same d M M')(a:TAccount):M'.balances a d=M.balances a d:=by unfold MState.balances;rw[h.trial]
theorem Same.worth(h:Same d M M')(a:TAccount):M'.worth a d=M.worth a d:=by
 unfold MState.worth;rw[h.balances];have:∀(l:List TAmount) (v:Int),rU M' d v l=rU M d v l:=by
  intro l;induction l with
  | nil=>intro v;rfl
  | cons x l ih=>intro v;unfold rU;rw[h.value];exact ih _
 exact this _ _
end
theorem j_M0:J M0:=⟨fun i x h=>by simp[M0]at h,fun x h=>by simp[M0]at h,fun x h=>by simp[M0]at h,fun x h=>by simp[M0]at h,fun x h=>by simp[M0]at h,by decide,by decide,by simp[M0]⟩
theorem ol_M0:OL M0:=fun x h=>by simp[M0]at h
end Go.Proofs.YtcbijkakoepglaaGreat
namespace Go.Proofs.YtcbijkakoepglaaGreat
open Go Go.Wx
structure PO(M:MState):Prop where
 fine:∀p∈M.postings,oQ p=true
 days:M.postings.Pairwise fun p q=>p.Day≤q.Day
 le:∀p∈M.postings,p.Day≤M.day
theorem aDP{M:MState}(h:J M){name:ByteArray}(hn:0≤M.find name):named name=true:=by
 have h1:=vT M name;rw[decide_eq_true hn]at h1;obtain⟨u,hu,he⟩:=List.any_eq_true.1 h1.symm;have:=iX.1 he;rw[←this];exact h.units u hu
theorem aBB{x:TLot}(h0:0≤x.Left)(h1:x.Left≤1000000000):o9 x≤x.Left:=by
 unfold o9;have e1:wr (x.Left+20)=x.Left+20:=bQ (by omega) (by omega);have e2:wr (x.Left+20-1)=x.Left+20-1:=bQ (by omega) (by omega);rw[e1,e2];have e3:Int.tdiv (x.Left+20-1) 20=(x.Left+20-1) / 20:=Int.tdiv_eq_ediv_of_nonneg (by omega);rw[e3];have e4:wr ((x.Left+20-1) / 20)=(x.Left+20-1) / 20:=bQ (by omega) (by omega);rw[e4];have e5:wr (x.Left-(x.Left+20-1) / 20)=x.Left-(x.Left+20-1) / 20:=bQ (by omega) (by omega);rw[e5];omega
theorem Turn.right{M:MState}{x x':TLot}{n fk fi tk ti why:Int}(h:Turn x x' n fk fi tk ti why)(hx:LotOk M x):qD fk fi=true∧qD tk ti=true∧aAg why fk tk=true∧1≤n∧n≤1000000000:=by
 have hl:=hx.live;have hn:=hx.n2;have r2:qD 2 x.Thing=true:=hx.thing;cases h with
 | forfeit hs=>exact⟨r2,rfl,rfl,by omega,by omega⟩
 | pay p hs hp=>exact⟨r2,hp,rfl,by omega,by omega⟩
 | part p m hs k1 k2 hp=>exact⟨r2,hp,rfl,by omega,by omega⟩
 | swap m hs k1 k2=>exact⟨r2,rfl,rfl,by omega,by omega⟩
 | lose hs=>exact⟨r2,rfl,rfl,by omega,by omega⟩
 | recover hs=>exact⟨rfl,r2,rfl,by omega,by omega⟩
 | dispatch b hs hb=>exact⟨r2,hb,rfl,by omega,by omega⟩
 | arrive hs=>exact⟨hx.bag hs,rfl,rfl,by omega,by omega⟩
 | refund p hs hp hr=>
  have:=aBB (x:=x) (by omega) (by omega);exact⟨rfl,hp,rfl,by omega,by omega⟩
theorem aEn{d:Int}{unit:ByteArray}{n fk fi tk ti why lot:Int}(h1:0≤d∧d≤100000)(h2:named unit=true)(h3:1≤n∧n≤1000000000)(h4:1≤lot∧lot≤2000)(h5:qD fk fi=true)(h6:qD tk ti=true)(h7:aAg why fk tk=true):
 oQ ⟨d,unit,n,fk,fi,tk,ti,why,lot⟩=true:=by
 unfold oQ;simp only[decide_eq_true h1,h2,decide_eq_true h3,decide_eq_true h4,h5,h6,h7,Bool.and_self]
theorem PO.add{M M':MState}(h:PO M){p:TPosting}(hp:M'.postings=M.postings++[p])(hd:p.Day=M.day)(hdd:M'.day=M.day)(hf:oQ p=true):PO M':=by
 refine⟨fun q hq=>?_,?_,fun q hq=>?_⟩
 ·rw[hp]at hq;rcases List.mem_append.1 hq with hq | hq
  ·exact h.fine q hq
  ·simp at hq;subst hq;exact hf
 ·rw[hp,List.pairwise_append];exact⟨h.days,by simp,fun a ha b hb=>by simp at hb;subst hb;rw[hd];exact h.le a ha⟩
 ·rw[hp]at hq;rw[hdd];rcases List.mem_append.1 hq with hq | hq
  ·exact h.le q hq
  ·simp at hq;subst hq;omega
theorem Move.po{M M':MState}(hm:Move M M')(hJ:J M)(h:PO M):PO M':=by
 cases hm with
 | turn hx ht=>
  have hxm:=List.mem_of_getElem? hx;have hk:=hJ.lots _ hxm;obtain⟨r1,r2,r3,r4,r5⟩:=ht.right hk;have hid:=hJ.ids _ _ hx;have hlt:=(List.getElem?_eq_some_iff.1 hx).1;have hlen:=hJ.len;exact h.add rfl rfl rfl (aEn ⟨hJ.d0,hJ.d1⟩ (aDP hJ hk.unit) ⟨r4,r5⟩ ⟨by omega,by omega⟩ r1 r2 r3)
 | keep hx hs hr=>exact⟨h.fine,h.days,h.le⟩
 | enter hw hl hlen=>
  have hf:∀fk why:Int,(fk=1∧(why=1∨why=10)∨fk=6∧why=5)→qD fk 0=true∧aAg why fk 2=true:=by
   intro fk why h;rcases h with⟨rfl,rfl | rfl⟩ | ⟨rfl,rfl⟩<;>exact⟨rfl,rfl⟩
  obtain⟨w1,w2⟩:=hf _ _ hw;refine h.add rfl rfl rfl (aEn ⟨hJ.d0,hJ.d1⟩ (aDP hJ hl.unit) ⟨hl.n1,hl.n2⟩ ?_ w1 hl.thing w2);show 1≤(M.lots.length:Int)+1∧(M.lots.length:Int)+1≤2000;omega
 | day h1 h2=>exact⟨h.fine,h.days,fun p hp=>Int.le_trans (h.le p hp) h1⟩
 | unit hn hf=>exact⟨h.fine,h.days,h.le⟩
 | value hu g1 g2=>exact⟨h.fine,h.days,h.le⟩
 | term h1 h2 h3=>exact⟨h.fine,h.days,h.le⟩
theorem Moves.po{M M':MState}(hm:Moves M M')(hJ:J M)(h:PO M):PO M':=by
 induction hm with
 | refl=>exact h
 | tail h1 h2 ih=>exact h2.po (h1.j hJ) ih
theorem po_M0:PO M0:=⟨fun p h=>by simp[M0]at h,by simp[M0],fun p h=>by simp[M0]at h⟩
def aAG(a:TAccount)(unit:ByteArray)(v:Int)(x:TPosting):Int:=
 if !dF x.Unit unit||(!j0 a x&& !pL a x)then v else if pL a x then wr (v+x.N)else wr (v-x.N)
def aCZ(a:TAccount)(unit:ByteArray)(until_:Int):Int→List TPosting→Int
 | v,[]=>v
 | v,x::xs=>aCZ a unit until_ (if x.Day≤until_ then aAG a unit v x else v) xs
theorem aCG{x:TPosting}(h:oQ x=true):x.From_Kind≠x.To_Kind:=by
 unfold oQ at h;simp only[Bool.and_eq_true]at h;have hw:=h.2;unfold aAg at hw;rw[List.any_eq_true]at hw;obtain⟨y,hy,h1⟩:=hw;have hx':y.x0≠y.x1:=by
  unfold aAf at hy
  repeat' split at hy
  all_goals simp at hy
  all_goals (first | (subst hy;decide) | (rcases hy with rfl | rfl<;>decide))
 simp at h1;omega
theorem aBL{a:TAccount}{x:TPosting}(h:oQ x=true):¬(j0 a x=true∧pL a x=true):=by
 rintro⟨h1,h2⟩;simp only[j0,pL,Bool.and_true,Bool.and_eq_true,beq_iff_eq]at h1 h2;exact aCG h (by omega)
theorem stmt_v2{a:TAccount}{x:TPosting}(h:oQ x=true)(v:Int)(hs:(!j0 a x&& !pL a x)=false):
 (if pL a x then wr ((if j0 a x then wr (v-x.N)else v)+x.N)else if j0 a x then wr (v-x.N)else v)=if pL a x then wr (v+x.N)else wr (v-x.N):=by
 have hb:=aBL (a:=a) h;cases h1:j0 a x with
 | true=>
  cases h2:pL a x with
  | true=>exact absurd ⟨h1,h2⟩ hb
  | false=>rfl
 | false=>
  cases h2:pL a x with
  | true=>rfl
  | false=>rw[h1,h2]at hs;simp at hs
theorem aEt{a:TAccount}{unit:ByteArray}{until_:Int}:∀(ps:List TPosting) (m:List (Tplace × Int)),(∀p∈ps,oQ p=true)→jX (oD until_ m ps) ⟨a.Kind,a.Id,unit⟩=aCZ a unit until_ (jX m ⟨a.Kind,a.Id,unit⟩) ps
 |[],_,_=>rfl
 | x::ps,m,hf=>by
  have hfx:=hf x List.mem_cons_self;unfold oD aCZ;rw[aEt ps _ fun p hp=>hf p (List.mem_cons_of_mem _ hp)];congr 1;split
  ·have hne:j6 x≠pTo x:=fun e=>aCG hfx (congrArg Tplace.account_Kind e);have iF:(dF x.Unit unit&&j0 a x)=true↔j6 x=⟨a.Kind,a.Id,unit⟩:=by
    simp only[j0,Bool.and_true,Bool.and_eq_true,beq_iff_eq,iX,j6,Tplace.mk.injEq];constructor
    ·rintro⟨h1,h2,h3⟩;exact⟨h2,h3,h1⟩
    ·rintro⟨h2,h3,h1⟩;exact⟨h1,h2,h3⟩
   have iT:(dF x.Unit unit&&pL a x)=true↔pTo x=⟨a.Kind,a.Id,unit⟩:=by
    simp only[pL,Bool.and_true,Bool.and_eq_true,beq_iff_eq,iX,pTo,Tplace.mk.injEq];constructor
    ·rintro⟨h1,h2,h3⟩;exact⟨h2,h3,h1⟩
    ·rintro⟨h2,h3,h1⟩;exact⟨h1,h2,h3⟩
   unfold aAG sU rL;cases hu:dF x.Unit unit with
   | false=>
    rw[hu]at iF iT;simp only[Bool.false_and,Bool.false_eq_true,false_iff]at iF iT;rw[pZ (fun e=>iT e.symm),pZ (fun e=>iF e.symm)];rfl
   | true=>
    rw[hu,Bool.true_and]at iF iT;cases hT:pL a x with
    | true=>
     have e:=iT.1 hT;rw[←e,wQ,pZ (fun e=>hne e.symm)];simp
    | false=>
     have nT:¬pTo x=⟨a.Kind,a.Id,unit⟩:=fun e=>by rw[iT.2 e]at hT;cases hT
     rw[pZ (fun e=>nT e.symm)];cases hF:j0 a x with
     | true=>
      have e:=iF.1 hF;rw[←e,wQ];simp
     | false=>
      have nF:¬j6 x=⟨a.Kind,a.Id,unit⟩:=fun e=>by rw[iF.2 e]at hF;cases hF
      rw[pZ (fun e=>nF e.symm)];simp
  ·rfl
theorem aAr{a:TAccount}{unit:ByteArray}{from_ until_:Int}:∀(ps:List TPosting) (v i:Int),(sD a unit from_ until_ v i ps).length≤ps.length
 |[],_,_=>by simp[sD]
 | x::ps,v,i=>by
  unfold sD;split
  ·exact Nat.le_succ_of_le (aAr ps _ _)
  ·simp only[List.length_append,List.length_cons];have:=aAr (a:=a) (unit:=unit) (from_:=from_) (until_:=until_) ps (if pL a x then wr ((if j0 a x then wr (v-x.N)else v)+x.N)else if j0 a x then wr (v-x.N)else v) (i+1);split
   ·simp only[List.length_cons,List.length_nil];omega
   ·simp only[List.length_nil];omega
end Go.Proofs.YtcbijkakoepglaaGreat
namespace Go.Proofs.YtcbijkakoepglaaGreat
open Go Go.Wx
def sC(f:TLot→Int):List TLot→Int
 |[]=>0
 | x::l=>f x+sC f l
theorem aAq(f:TLot→Int){K:Int}(hK:0≤K):∀(l:List TLot),(∀x∈l,0≤f x∧f x≤K)→0≤sC f l∧sC f l≤K*l.length
 |[],_=>by simp[sC]
 | x::l,h=>by
  have h1:=h x List.mem_cons_self;have h2:=aAq f hK l fun y hy=>h y (List.mem_cons_of_mem _ hy);simp only[sC,List.length_cons];have:K*((l.length+1:Nat):Int)=K*l.length+K:=by rw[Int.natCast_add,Int.mul_add];simp
  rw[this];omega
theorem aE6(f:TLot→Int):∀(l:List TLot),(∀x∈l,0≤f x)→∀x∈l,f x≤sC f l
 |[],_,_,h=>by cases h
 | y::l,h,x,hx=>by
  have h0:0≤sC f l:=by
   clear hx;have:∀l:List TLot,(∀x∈l,0≤f x)→0≤sC f l:=by
    intro l;induction l with
    | nil=>intro _;simp[sC]
    | cons z l ih=>
     intro h;have h1:=h z List.mem_cons_self;have h2:=ih fun w hw=>h w (List.mem_cons_of_mem _ hw);simp only[sC];omega
   exact this l fun z hz=>h z (List.mem_cons_of_mem _ hz)
  have hy:=h y List.mem_cons_self;simp only[sC];rcases List.mem_cons.1 hx with rfl | hx
  ·omega
  ·have:=aE6 f l (fun z hz=>h z (List.mem_cons_of_mem _ hz)) x hx;omega
def wn(u:ByteArray)(x:TLot):Int:=if x.Unit=u∧(x.State=3∨x.State=4)then x.N else 0
end Go.Proofs.YtcbijkakoepglaaGreat
namespace Go.Proofs.YtcbijkakoepglaaGreat
open Go Go.Wx
theorem Turn.fk{M:MState}{x x':TLot}{n fk fi tk ti why:Int}(h:Turn x x' n fk fi tk ti why)(hx:LotOk M x):(fk=2∨fk=5∨fk=7∨(fk=4∧fi=0))∧n≤x.Left:=by
 have hl:=hx.live;have hn:=hx.n2;cases h with
 | forfeit hs=>exact⟨.inl rfl,Int.le_refl _⟩
 | pay p hs=>exact⟨.inl rfl,Int.le_refl _⟩
 | part p m hs k1 k2=>exact⟨.inl rfl,k2⟩
 | swap m hs k1 k2=>exact⟨.inl rfl,k2⟩
 | lose hs=>exact⟨.inl rfl,Int.le_refl _⟩
 | recover hs=>exact⟨.inr (.inl rfl),Int.le_refl _⟩
 | dispatch b hs=>exact⟨.inl rfl,Int.le_refl _⟩
 | arrive hs=>exact⟨.inr (.inr (.inl rfl)),Int.le_refl _⟩
 | refund p hs=>exact⟨.inr (.inr (.inr ⟨rfl,rfl⟩)),aBB (by omega) (by omega)⟩
def val(q:Tplace):Int→List TPosting→Int
 | v,[]=>v
 | v,x::xs=>val q (if pTo x=q then wr (v+x.N)else if j6 x=q then wr (v-x.N)else v) xs
theorem aB8(d:Int):∀(ps:List TPosting) (m:List (Tplace × Int)),(m.Pairwise fun x y=>x.1≠y.1)→(oD d m ps).Pairwise fun x y=>x.1≠y.1
 |[],_,h=>h
 | p::ps,m,h=>by
  unfold oD;refine aB8 d ps _ ?_;split
  ·exact uP (uP h)
  ·exact h
end Go.Proofs.YtcbijkakoepglaaGreat
namespace Go.Proofs.YtcbijkakoepglaaGreat
open Go Go.Wx
def tot(u:ByteArray):List (Tplace × Int)→Int
 |[]=>0
 | (q,v)::m=>(if q.unit=u then v else 0)+tot u m
end Go.Proofs.YtcbijkakoepglaaGreat
namespace Go.Proofs.YtcbijkakoepglaaGreat
open Go Go.Wx
def EN(M:MState):Prop:=∀i,i<M.lots.length→∃p∈M.postings,p.Lot=(i:Int)+1
theorem Move.en{M M':MState}(hm:Move M M')(h:EN M):EN M':=by
 cases hm with
 | turn hx ht=>
  intro i hi;obtain⟨p,hp,e⟩:=h i (by simpa[MState.setLot,MState.post]using hi);exact⟨p,List.mem_append.2 (.inl hp),e⟩
 | keep hx hs hr=>exact fun i hi=>h i (by simpa[MState.setLot]using hi)
 | enter hw hl hlen=>
  intro i hi;simp only[MState.enter,List.length_append,List.length_cons,List.length_nil]at hi;by_cases hlt:i<M.lots.length
  ·obtain⟨p,hp,e⟩:=h i hlt;exact⟨p,List.mem_append.2 (.inl hp),e⟩
  ·refine⟨_,List.mem_append.2 (.inr List.mem_cons_self),?_⟩;show(M.lots.length:Int)+1=(i:Int)+1;omega
 | day h1 h2=>exact h
 | unit hn hf=>exact h
 | value hu g1 g2=>exact h
 | term h1 h2 h3=>exact h
theorem Moves.en{M M':MState}(hm:Moves M M')(h:EN M):EN M':=by
 induction hm with
 | refl=>exact h
 | tail _ h2 ih=>exact h2.en ih
end Go.Proofs.YtcbijkakoepglaaGreat
namespace Go.Proofs.YtcbijkakoepglaaGreat
open Go Go.Wx
theorem vQ{κ:Type} [DecidableEq κ]:∀{m:List (κ × Int)},(m.Pairwise fun x y=>x.1≠y.1)→∀y∈m,jX m y.1=y.2
 |[],_,_,h=>by cases h
 | (z,u)::m,h,y,hy=>by
  obtain⟨h1,h2⟩:=List.pairwise_cons.1 h;unfold jX;rcases List.mem_cons.1 hy with rfl | hy
  ·rw[if_pos rfl]
  ·rw[if_neg fun e=>h1 y hy e.symm];exact vQ h2 y hy
end Go.Proofs.YtcbijkakoepglaaGreat
namespace Go.Proofs.YtcbijkakoepglaaGreat
open Go Go.Wx
theorem aDT(name:ByteArray):∀(us:List RUnit) (units:List MUnit),us.map (fun u=>(u.name,u.kind))=units.map (fun u=>(u.name,u.kind))→xE name us=(match units.find? (fun u=>dF u.name name)with
 | some u=>u.kind
 | none=>0)
 |[],[],_=>rfl
 |[],_::_,h=>by simp at h
 | _::_,[],h=>by simp at h
 | u::us,v::units,h=>by
  simp only[List.map_cons,List.cons.injEq,Prod.mk.injEq]at h;unfold xE;rw[List.find?_cons,h.1.1];split
  ·rename_i e;rw[e];exact h.1.2
  ·rename_i e;rw[show dF v.name name=false by simpa using e];exact aDT name us units h.2
section
variable {us : List RUnit} {vals : List RVal} {ts : List TTerm} {M : MState}
theorem Rel.kind(h:Rel us vals ts M)(name:ByteArray):(M.find name<0∧M.find name= -1∧xE name us=0)∨∃(i:Nat) (u:MUnit),M.find name=i∧M.units[i]? =some u∧u.name=name∧xE name us=u.kind∧1≤u.kind∧u.kind≤3:=by
 have hk:=aDT name us M.units h.un;rcases aCB (fun u:MUnit=>dF u.name name) M.units with⟨h1,h2⟩ | ⟨i,h1,hi,h2⟩
 ·rw[h2]at hk;have h1:M.find name= -1:=h1;exact .inl ⟨by omega,h1,hk⟩
 ·rw[h2]at hk;have hn:dF M.units[i].name name=true:=List.find?_some (p:=fun u:MUnit=>dF u.name name) h2;have hm:(M.units[i].name,M.units[i].kind)∈us.map fun u=>(u.name,u.kind):=by
   rw[h.un];exact List.mem_map.2 ⟨_,List.getElem_mem hi,rfl⟩
  obtain⟨u,hu,e⟩:=List.mem_map.1 hm;simp only[Prod.mk.injEq]at e;have:=h.kinds u hu;exact .inr ⟨i,M.units[i],h1,List.getElem?_eq_getElem hi,iX.1 hn,hk,by rw[←e.2];exact this.1,by rw[←e.2];exact this.2⟩
theorem uI(nm:ByteArray)(day:Int):∀(vals:List RVal) (n:Int),nH day n ((vals.filter fun v=>dF v.unit nm).map fun v=>⟨v.day,v.grains⟩)=aBd nm day n vals
 |[],n=>rfl
 | v::vals,n=>by
  rw[List.filter_cons];unfold aBd;split
  ·rename_i e;rw[e,List.map_cons];unfold nH;rw[uI nm day vals];simp
  ·rename_i e;rw[show dF v.unit nm=false by simpa using e];exact uI nm day vals n
theorem aBn(nm:ByteArray)(day:Int):∀(vals:List RVal) (n:Int),(∀v∈vals,dF v.unit nm=false)→aBd nm day n vals=n
 |[],_,_=>rfl
 | v::vals,n,h=>by
  unfold aBd;rw[h v List.mem_cons_self];exact aBn nm day vals n fun w hw=>h w (List.mem_cons_of_mem _ hw)
theorem Rel.value(h:Rel us vals ts M)(name:ByteArray)(day:Int):aBd name day 0 vals=M.value name day:=by
 unfold MState.value;cases hf:M.units.find? (fun u=>dF u.name name)with
 | none=>
  refine aBn name day vals 0 fun v hv=>?_;obtain⟨u,hu,e⟩:=h.vin v hv;have hm:(u.name,u.kind)∈M.units.map fun u=>(u.name,u.kind):=by rw[←h.un];exact List.mem_map.2 ⟨u,hu,rfl⟩
  obtain⟨m,hm,e2⟩:=List.mem_map.1 hm;simp only[Prod.mk.injEq]at e2;have:=List.find?_eq_none.1 hf m hm;rw[←e,←e2.1];simpa using this
 | some u=>
  have hn:dF u.name name=true:=List.find?_some (p:=fun u:MUnit=>dF u.name name) hf;have hn:=iX.1 hn;subst hn;show aBd u.name day 0 vals=nH day 0 u.values;rw[h.vq u (List.mem_of_find?_eq_some hf),uI]
def toT(t:TTerm):Tterm:=⟨t.Day,t.Least,t.Days,t.Unit⟩
theorem aBp(name:ByteArray)(n day:Int):∀(ts:List TTerm) (b:TTerm),vI name n day (toT b) (ts.map toT)=toT (aAl name n day b ts)
 |[],_=>rfl
 | x::ts,b=>by
  unfold aAl;rw[List.map_cons];unfold vI;rw[←aBp name n day ts];congr 1;show(if _ then toT x else toT b)=toT (if _ then x else b);rw[apply_ite toT];rfl
theorem Rel.term(h:Rel us vals ts M)(name:ByteArray)(n day:Int):(aAl name n day ⟨ByteArray.mk #[],0,0,0⟩ ts).Days=M.term name n day:=by
 unfold MState.term;rw[←h.terms];have:=aBp name n day ts ⟨ByteArray.mk #[],0,0,0⟩;exact(congrArg Tterm.days this).symm
end
def o8(u:ByteArray)(n:Int):List TAmount→List TAmount
 |[]=>[⟨u,n⟩]
 | x::l=>if(iO u x.Unit||dF u x.Unit)=true then(if dF u x.Unit=true then⟨u,wr (x.N+n)⟩::l else⟨u,n⟩::x::l)else x::o8 u n l
def aDq(l:List TAmount):Prop:=l.Pairwise fun x y=>iO x.Unit y.Unit=true
theorem aBk(u:ByteArray)(n:Int):∀(l:List TAmount),∀y∈o8 u n l,y.Unit=u∨∃z∈l,z.Unit=y.Unit
 |[],y,h=>by simp[o8]at h;subst h;exact .inl rfl
 | x::l,y,h=>by
  unfold o8 at h;split at h
  ·split at h
   ·rcases List.mem_cons.1 h with rfl | h
    ·exact .inl rfl
    ·exact .inr ⟨y,List.mem_cons_of_mem _ h,rfl⟩
   ·rcases List.mem_cons.1 h with rfl | h
    ·exact .inl rfl
    ·exact .inr ⟨y,h,rfl⟩
  ·rcases List.mem_cons.1 h with rfl | h
   ·exact .inr ⟨y,List.mem_cons_self,rfl⟩
   ·rcases aBk u n l y h with h | ⟨z,hz,e⟩
    ·exact .inl h
    ·exact .inr ⟨z,List.mem_cons_of_mem _ hz,e⟩
theorem aBj(u:ByteArray)(n:Int):∀(l:List TAmount),aDq l→aDq (o8 u n l)
 |[],_=>by simp[o8,aDq]
 | x::l,h=>by
  obtain⟨h1,h2⟩:=List.pairwise_cons.1 h;unfold o8;split
  ·rename_i c;split
   ·rename_i e;have e:=iX.1 e;exact List.pairwise_cons.2 ⟨fun z hz=>by rw[show(⟨u,wr (x.N+n)⟩:TAmount).Unit=x.Unit from e];exact h1 z hz,h2⟩
   ·rename_i e;have hl:iO u x.Unit=true:=by
     rw[show dF u x.Unit=false by simpa using e,Bool.or_false]at c;exact c
    refine List.pairwise_cons.2 ⟨fun z hz=>?_,h⟩;rcases List.mem_cons.1 hz with rfl | hz
    ·exact hl
    ·exact swoStr.trans _ _ _ hl (h1 z hz)
  ·rename_i c;simp only[Bool.or_eq_true,not_or,Bool.not_eq_true]at c;have hx:iO x.Unit u=true:=by
    cases hc:iO x.Unit u with
    | true=>rfl
    | false=>
     have:=nX c.1 hc;rw[this,nY]at c;exact absurd c.2 (by simp)
   refine List.pairwise_cons.2 ⟨fun z hz=>?_,aBj u n l h2⟩;rcases aBk u n l z hz with e | ⟨y,hy,e⟩
   ·rw[e];exact hx
   ·rw[←e];exact h1 y hy
theorem xI(u:ByteArray)(n:Int):∀(l:List TAmount),aDq l→(∃g rest,l.Perm (⟨u,g⟩::rest)∧(o8 u n l).Perm (⟨u,wr (g+n)⟩::rest))∨((∀x∈l,x.Unit≠u)∧(o8 u n l).Perm (⟨u,n⟩::l))
 |[],_=> .inr ⟨fun _ h=>(by cases h),.refl _⟩
 | x::l,h=>by
  obtain⟨h1,h2⟩:=List.pairwise_cons.1 h;unfold o8;split
  ·rename_i c;split
   ·rename_i e;have e:=iX.1 e;refine .inl ⟨x.N,l,?_,.refl _⟩;subst e;exact .refl _
   ·rename_i e;have hl:iO u x.Unit=true:=by
     rw[show dF u x.Unit=false by simpa using e,Bool.or_false]at c;exact c
    refine .inr ⟨fun y hy e2=>?_,.refl _⟩;have:iO u y.Unit=true:=by
     rcases List.mem_cons.1 hy with rfl | hy
     ·exact hl
     ·exact swoStr.trans _ _ _ hl (h1 y hy)
    rw[e2,swoStr.irrefl]at this;cases this
  ·rename_i c;simp only[Bool.or_eq_true,not_or,Bool.not_eq_true]at c;rcases xI u n l h2 with⟨g,rest,p1,p2⟩ | ⟨p1,p2⟩
   ·exact .inl ⟨g,x::rest,(p1.cons x).trans (.swap _ _ _),(p2.cons x).trans (.swap _ _ _)⟩
   ·refine .inr ⟨fun y hy e2=>?_,(p2.cons x).trans (.swap _ _ _)⟩;rcases List.mem_cons.1 hy with rfl | hy
    ·rw[e2,nY]at c;exact absurd c.2 (by simp)
    ·exact p1 y hy e2
def tZ(m:List (ByteArray × Int)):List TAmount:=isort mM (m.map j5)
theorem aFD{m:List (ByteArray × Int)}(h:m.Pairwise fun x y=>x.1≠y.1):aDq (tZ m):=by
 have hn:((tZ m).map (·.Unit)).Nodup:=by
  have hp:((tZ m).map (·.Unit)).Perm (m.map (·.1)):=by
   have:=(dI (lt:=mM) (m.map j5)).map (·.Unit);rw[List.map_map]at this;exact this
  exact hp.nodup_iff.2 (List.pairwise_map.2 h)
 refine(lZ tY _).imp₂ (fun{x y} h1 h2=>?_) (List.pairwise_map.1 hn);have h1:iO y.Unit x.Unit=false:=by
  rw[←Bool.not_eq_true,nP,Bool.not_eq_true]at h1;exact h1
 cases h3:iO x.Unit y.Unit with
 | true=>rfl
 | false=>exact absurd (nX h3 h1) h2
theorem aEd{α:Type}:∀(l:List α) (j:Nat) (x:α),l[j]? =some x→∃r,l.Perm (x::r)∧∀y,(l.set j y).Perm (y::r)
 |[],_,_,h=>by simp at h
 | z::l,0,x,h=>by
  simp at h;subst h;exact⟨l,.refl _,fun y=>by simp⟩
 | z::l,j+1,x,h=>by
  obtain⟨r,h1,h2⟩:=aEd l j x (by simpa using h);refine⟨z::r,(h1.cons z).trans (.swap _ _ _),fun y=>?_⟩;rw[List.set_cons_succ];exact((h2 y).cons z).trans (.swap _ _ _)
theorem aDr{m:List (ByteArray × Int)}(h:m.Pairwise fun x y=>x.1≠y.1)(u:ByteArray)(n:Int)(hn:wr n=n):o8 u n (tZ m)=tZ (sU m u n):=by
 have hs:=aFD h;have hp:(tZ m).Perm (m.map j5):=dI _;refine lN tY ?_ ((aBj u n _ hs).imp fun{x y} h=>?_) fun x hx y hy h1 h2=>?_
 ·unfold sU;rcases rS u m with⟨_,g0,g2,g3⟩ | ⟨j,_,g2,g3⟩
  ·rcases xI u n (tZ m) hs with⟨g,rest,p1,_⟩ | ⟨_,p2⟩
   ·have hm:(⟨u,g⟩:TAmount)∈m.map j5:=hp.mem_iff.1 (p1.mem_iff.2 List.mem_cons_self);obtain⟨y,hy,e⟩:=List.mem_map.1 hm;exact absurd (congrArg TAmount.Unit e).symm (g3 y hy)
   ·rw[g2,g0,Int.zero_add,hn,List.map_append];exact(p2.trans (hp.cons _)).trans (List.perm_append_comm (l₁:=[(⟨u,n⟩:TAmount)]))
  ·obtain⟨hj,hj'⟩:=List.getElem?_eq_some_iff.1 g2;obtain⟨r,q1,q2⟩:=aEd m j _ g2;have q2:=q2 (u,wr (jX m u+n));rw[g3];have q1':=q1.map j5;have q2':=q2.map j5;rw[List.map_cons]at q1' q2';refine List.Perm.trans ?_ q2'.symm;rcases xI u n (tZ m) hs with⟨g,rest,p1,p2⟩ | ⟨p1,_⟩
   ·have hp1:=(p1.symm.trans hp).trans q1';have hg:g=jX m u:=by
     have hm:(⟨u,g⟩:TAmount)∈m.map j5:=hp.mem_iff.1 (p1.mem_iff.2 List.mem_cons_self);obtain⟨y,hy,e⟩:=List.mem_map.1 hm;have e1:y.1=u:=congrArg TAmount.Unit e;have e2:y.2=g:=congrArg TAmount.N e;rw[←e1,vQ h y hy,e2]
    rw[hg]at hp1 p2;exact p2.trans ((List.Perm.cons_inv hp1).cons _)
   ·have hm:(⟨u,jX m u⟩:TAmount)∈tZ m:=hp.mem_iff.2 (q1'.mem_iff.2 List.mem_cons_self);exact absurd rfl (p1 _ hm)
 ·rw[←Bool.not_eq_true,nP,Bool.not_eq_true];exact swoStr.asymmA h
 ·have hpw:(sU m u n).Pairwise fun x y=>x.1≠y.1:=by
   unfold sU;rcases rS u m with⟨_,_,g2,g3⟩ | ⟨j,_,g2,g3⟩
   ·rw[g2];exact List.pairwise_append.2 ⟨h,by simp,fun x hx y hy=>by simp at hy;subst hy;exact fun e=>g3 x hx e.symm⟩
   ·rw[g3];obtain⟨hj,hj'⟩:=List.getElem?_eq_some_iff.1 g2;have:((m.set j (u,wr (jX m u+n))).map (·.1))=m.map (·.1):=by
     rw[List.map_set];refine List.ext_getElem? fun i=>?_;rw[List.getElem?_set];split
     ·rename_i e;subst e;simp[hj,hj']
     ·rfl
    exact List.pairwise_map.1 (by rw[this];exact List.pairwise_map.2 h)
  obtain⟨x',hx',rfl⟩:=List.mem_map.1 hx;obtain⟨y',hy',rfl⟩:=List.mem_map.1 hy;have e:∀{a b:TAmount},mM a b=false→iO a.Unit b.Unit=false:=fun{a b} h=>by
   rw[←Bool.not_eq_true,nP,Bool.not_eq_true]at h;exact h
  have:x'=y':=aBP hpw x' hx' y' hy' (nX (e h1) (e h2));rw[this]
def qC:List TAmount→List TAmount→List TAmount
 | acc,[]=>acc
 | acc,a::l=>qC (o8 a.Unit a.N acc) l
theorem yV:∀(l l2 acc:List TAmount),qC acc (l++l2)=qC (qC acc l) l2
 |[],_,_=>rfl
 | a::l,l2,acc=>yV l l2 _
theorem addM_pw{m:List (ByteArray × Int)}(h:m.Pairwise fun x y=>x.1≠y.1)(u:ByteArray)(n:Int):(sU m u n).Pairwise fun x y=>x.1≠y.1:=by
 unfold sU;rcases rS u m with⟨_,_,g2,g3⟩ | ⟨j,_,g2,g3⟩
 ·rw[g2];exact List.pairwise_append.2 ⟨h,by simp,fun x hx y hy=>by simp at hy;subst hy;exact fun e=>g3 x hx e.symm⟩
 ·rw[g3];obtain⟨hj,hj'⟩:=List.getElem?_eq_some_iff.1 g2;have:((m.set j (u,wr (jX m u+n))).map (·.1))=m.map (·.1):=by
   rw[List.map_set];refine List.ext_getElem? fun i=>?_;rw[List.getElem?_set];split
   ·rename_i e;subst e;simp[hj,hj']
   ·rfl
  exact List.pairwise_map.1 (by rw[this];exact List.pairwise_map.2 h)
theorem aBW:∀(l:List TAmount) (m:List (ByteArray × Int)),(m.Pairwise fun x y=>x.1≠y.1)→(∀a∈l,wr a.N=a.N)→qC (tZ m) l=tZ (sI m l)
 |[],_,_,_=>rfl
 | a::l,m,h,hn=>by
  unfold qC sI;rw[aDr h _ _ (hn a List.mem_cons_self)];exact aBW l _ (addM_pw h _ _) fun b hb=>hn b (List.mem_cons_of_mem _ hb)
theorem aEb{κ:Type} [DecidableEq κ](x:κ)(v:Int):∀(m:List (κ × Int)),∀y∈pA m x v,y∈m∨y.2=v
 |[],y,h=>by simp[pA]at h;subst h;exact .inr rfl
 | (z,u)::m,y,h=>by
  unfold pA at h;split at h
  ·rcases List.mem_cons.1 h with rfl | h
   ·exact .inr rfl
   ·exact .inl (List.mem_cons_of_mem _ h)
  ·rcases List.mem_cons.1 h with rfl | h
   ·exact .inl List.mem_cons_self
   ·exact(aEb x v m y h).imp (List.mem_cons_of_mem _) id
theorem aEm{κ:Type} [DecidableEq κ](x:κ):∀(m:List (κ × Int)),jX m x=0∨∃y∈m,y.2=jX m x
 |[]=> .inl rfl
 | (z,u)::m=>by
  unfold jX;split
  ·exact .inr ⟨_,List.mem_cons_self,rfl⟩
  ·exact(aEm x m).imp id fun⟨y,hy,e⟩=>⟨y,List.mem_cons_of_mem _ hy,e⟩
theorem aBs:∀(l:List TAmount) (m:List (ByteArray × Int)) (B:Int),0≤B→B+1000000000*l.length≤1000000000000000→(∀a∈l,1≤a.N∧a.N≤1000000000)→(∀y∈m,1≤y.2∧y.2≤B)→∀y∈sI m l,y.2≠0
 |[],m,B,_,_,_,hm,y,hy=>by have:=hm y hy;omega
 | a::l,m,B,h0,hB,hl,hm,y,hy=>by
  have ha:=hl a List.mem_cons_self;have hc:(((a::l).length:Nat):Int)=l.length+1:=by simp
  rw[hc,Int.mul_add]at hB;refine aBs l _ (B+1000000000) (by omega) (by omega) (fun b hb=>hl b (List.mem_cons_of_mem _ hb)) (fun z hz=>?_) y hy;unfold sU at hz;have hg:0≤jX m a.Unit∧jX m a.Unit≤B:=by
   rcases aEm a.Unit m with h | ⟨q,hq,e⟩
   ·omega
   ·have:=hm q hq;omega
  have hw:wr (jX m a.Unit+a.N)=jX m a.Unit+a.N:=bQ (by omega) (by omega);rcases aEb _ _ m z hz with hz | hz
  ·have:=hm z hz;omega
  ·omega
theorem aBq{l:List TAmount}(h:∀a∈l,1≤a.N∧a.N≤1000000000)(hl:l.length≤100000):qC [] l=sX l:=by
 have h1:=aBW l [] List.Pairwise.nil fun a ha=>by have:=h a ha;exact bQ (by omega) (by omega)
 have h2:=aBs l [] 0 (by omega) (by omega) h (fun y hy=>by cases hy);have h3:tZ (sI [] l)=sX l:=by
  unfold tZ sX;rw[List.filter_eq_self.2 fun y hy=>by simpa using h2 y hy]
 rw[←h3,←h1];rfl
end Go.Proofs.YtcbijkakoepglaaGreat
namespace Go.Proofs.YtcbijkakoepglaaGreat
open Go Go.Wx
set_option maxRecDepth 100000
def mZ.R(Q:Option Addr→Int→World→Prop)(l:Option Addr)(day:Int)(w:World):Prop:=(
 Cl Pg 119 #[vP l] w (fun v w1=>∃r1,v=vP r1∧Cl Pg 185 #[vP r1,vi day] w1 (fun v w2=>∃r2,v=vi r2∧Q r1 r2 w2)))
theorem mZ.ok{Q:Option Addr→Int→World→Prop}{l:Option Addr}{day:Int}{w:World}(h:mZ.R Q l day w):Cl Pg 158 #[vP l,vi day] w (fun v w'=>∃r0 r1,v= .tuple #[vP r0,vi r1]∧Q r0 r1 w'):=by
 refine aI (args:=[vP l,vi day]) Tryz.func158 ?_
 unfold mZ.R at h
 refine aC<|zp 2<|aD<|aC<|zp 1<|zk h ?_
 rintro _ w1 ⟨r1,rfl,h⟩
 refine zp 1<|aD<|aC<|zp 2<|zk h ?_
 rintro _ w2 ⟨r2,rfl,h⟩
 exact zp 1<|aD<|aC<|zp 4<|aD<|aN<|z2 ⟨_,_,rfl,h⟩
def bI.j1(Q:Int→World→Prop)(v1:Int)(v2:Int)(kl1:Int→Int→World→Prop)(v3:Bool)(w4:World):Prop:=(
 Ifb v3
 (kl1 v2 (IntKind.wrap .i64 (v2+1)) w4)
 (kl1 v1 (IntKind.wrap .i64 (v2+1)) w4))
def bI.l1(Q:Int→World→Prop)(l:Option Addr)(id:Int)(unit:ByteArray):Nat→Int→Int→World→Prop
 | 0,_,_,_=>False
 | nl1+1,v1,v2,w1=>(
 NN l fun p1=>
 dU w1 (Addr.add p1 4) fun x1_a x1_n x1_c=>
 Ifb (decide (v2<((x1_n:Nat):Int)))
 (NN l fun p2=>
 dU w1 (Addr.add p2 4) fun x2_a x2_n x2_c=>
 Ix x2_a x2_n v2 fun p3=>
 LdT TLot.enc w1 (Addr.add p3 (v2.toNat*10)) fun x3=>
 Al w1 (.cells #[vi 0,vi 0,vi 0,vi 0,vi 0,vs (ByteArray.mk #[]),vi 0,vi 0,vu 0,vi 0] 45) fun b1 w2=>
 Sb w2 b1 (.cells #[vi x3.Id,vi x3.Thing,vi x3.Layer,vi x3.Day,vi x3.Due,vs x3.Unit,vi x3.N,vi x3.Left,vu x3.State,vi x3.Bag] 45 (0,0)) fun w3=>
 Dr w3 fun w5=>
 Ifb (x3.Thing==id)
 (Ifb (dF x3.Unit unit)
 (Ifb (x3.State==1)
 (Ifb (decide (v1<0))
 (bI.j1 Q v1 v2 (bI.l1 Q l id unit nl1) true w5)
 (NN l fun p4=>
 dU w5 (Addr.add p4 4) fun x4_a x4_n x4_c=>
 Ix x4_a x4_n v1 fun p5=>
 LdI .i64 w5 (Addr.add (Addr.add p5 (v1.toNat*10)) 4) fun x5=>
 bI.j1 Q v1 v2 (bI.l1 Q l id unit nl1) (decide (x3.Due<x5)) w5))
 (bI.j1 Q v1 v2 (bI.l1 Q l id unit nl1) false w5))
 (bI.j1 Q v1 v2 (bI.l1 Q l id unit nl1) false w5))
 (bI.j1 Q v1 v2 (bI.l1 Q l id unit nl1) false w5))
 (Q v1 w1))
def bI.R(Q:Int→World→Prop)(l:Option Addr)(id:Int)(unit:ByteArray)(w:World):Prop:=(
 ∃k,bI.l1 Q l id unit k (-1) 0 w)
theorem bI.ok{Q:Int→World→Prop}{l:Option Addr}{id:Int}{unit:ByteArray}{w:World}(h:bI.R Q l id unit w):Cl Pg 164 #[vP l,vi id,vs unit] w (fun v w'=>∃r0,v=vi r0∧Q r0 w'):=by
 refine aI (args:=[vP l,vi id,vs unit]) Tryz.func164 ?_
 unfold bI.R at h
 refine aC<|zp 1<|aD<|aC<|zp 1<|aD<|aL<|aC<|zp 1<|aD<|aR ?_
 obtain⟨nl1,h⟩:=h
 refine bS (fun k e w1=>∃(e0:Env) (v1:Int) (v2:Int),e=upds e0 [(0,vP l),(1,vi id),(2,vs unit),(7,vi v1),(8,vi v2)]∧bI.l1 Q l id unit k v1 v2 w1) nl1 ?_ ?_ ?_
 rintro _ _ ⟨_,_,_,_,h⟩
 exact h
 exact⟨_, -1,0,ag,h⟩
 clear h nl1
 rintro nl1 _ w1 ⟨e0,v1,v2,rfl,h⟩
 unfold bI.l1 at h
 refine aL<|aC<|zp 2<|zo h fun p1 h=>zp 1<|zr iU h fun x1_a x1_n x1_c hx1 h=>zp 2<|aD<|zc h (fun h=>?_) fun h=>?_
 refine aJ<|aL<|aR<|aC<|zp 1<|zo h fun p2 h=>zp 1<|zr iU h fun x2_a x2_n x2_c hx2 h=>zp 1<|zi dX h fun p3 h=>?_
 obtain⟨x3,hx3,h⟩:=h
 refine zn jU hx3<|zq h fun b1 w2 _ _ q1 h=>zt jU q1 h fun w3 ew q h=>?_
 replace q1:=q
 refine aD<|fD (fun e w4=>∃(e0:Env) (v3:Bool),e=upds e0 [(0,vP l),(1,vi id),(2,vs unit),(7,vi v1),(8,vi v2),(57,vb v3)]∧bI.j1 Q v1 v2 (bI.l1 Q l id unit nl1) v3 w4) ?_ ?_
 refine drw iG [[],[],[],[1],[1],[1],[1],[1],[1,6],[1,6],[1,6],[1,6],[1,6],[1,6,12],[1,6,12],[1,6,12],[1,6,12],[1,6,12],[1,6,12],[1,6,12],[1,6,12],[1,6,12],[1,6,12],[1,6,12],[1,6,12],[1,6,12],[1,6,12,24],[1,6,12,24],[1,6,12,24],[1,6,12,20,24,28],[1,6,12,20,24,28],[1,6,12,20,24,28]] [.p 0,.l 1,.p 2,.p 3,.p 4,.p 5,.l 6,.p 7,.p 8,.p 9,.p 10,.p 11,.l 12,.p 13,.p 14,.p 15,.p 16,.p 17,.p 18,.p 19,.l 20,.p 21,.p 22,.p 23,.l 24,.p 25,.p 26,.p 27,.l 28,.p 29,.p 30,.p 31] h fun w5 ew h=>?_
 replace q1:=dN ew q1
 refine zP 1<|zB tk3 q1<|zP 3<|zS 30 h (fun h=>?_) fun h=>?_
 refine zP 1<|zB tk9 q1<|zP 4<|zS 36 h (fun h=>?_) fun h=>?_
 refine zP 1<|zB tk5 q1<|zP 3<|zS 41 h (fun h=>?_) fun h=>?_
 refine zP 3<|zS 44 h (fun h=>?_) fun h=>?_
 exact zP 1<|ze<|zP 3<|ze<|zP 3<|ze<|zP 3<|bF<|⟨_,true,ag,h⟩
 exact zP 1<|zB tk3 q1<|zP 1<|zO h fun p4 h=>zP 1<|zR iU h fun x4_a x4_n x4_c hx4 h=>zP 1<|zI dX h fun p5 h=>zP 1<|zD tk3 h fun x5 hx5 h=>zP 3<|bF<|⟨_,decide (x3.Due<x5),ag,h⟩
 exact zP 4<|ze<|zP 3<|ze<|zP 3<|ze<|zP 3<|bF<|⟨_,false,ag,h⟩
 exact zP 1<|ze<|zP 7<|ze<|zP 3<|ze<|zP 3<|ze<|zP 3<|bF<|⟨_,false,ag,h⟩
 exact zP 1<|ze<|zP 5<|ze<|zP 7<|ze<|zP 3<|ze<|zP 3<|ze<|zP 3<|bF<|⟨_,false,ag,h⟩
 clear h q1
 rintro _ w4 ⟨e0,v3,rfl,h⟩
 unfold bI.j1 at h
 refine zc h (fun h=>?_) fun h=>?_
 exact aW<|zp 2<|aD<|aG<|aW<|zp 3<|aD<|⟨_,v2,IntKind.wrap .i64 (v2+1),ag,h⟩
 exact aJ<|aG<|aW<|zp 3<|aD<|⟨_,v1,IntKind.wrap .i64 (v2+1),ag,h⟩
 exact dE<|aU<|aC<|zp 2<|aD<|aN<|z1 ⟨_,rfl,h⟩
def bX.j1(Q:Option Addr→Nat→Nat→World→Prop)(v1_a:Option Addr)(v1_n:Nat)(v1_c:Nat)(v2:Int)(kl1:Option Addr→Nat→Nat→Int→World→Prop)(v3:Bool)(w2:World):Prop:=(
 Ifb v3
 (Al w2 (.cells #[vi v2] 3) fun b1 w3=>
 Ap Pg w3 #[63,63] 63 (vl v1_a v1_n v1_c) (vl (some ⟨b1,0,none⟩) 1 1) fun a1_a a1_n a1_c w4=>
 kl1 a1_a a1_n a1_c (IntKind.wrap .i64 (v2+1)) w4)
 (kl1 v1_a v1_n v1_c (IntKind.wrap .i64 (v2+1)) w2))
def bX.l1(Q:Option Addr→Nat→Nat→World→Prop)(l:Option Addr)(id:Int)(state:Int):Nat→Option Addr→Nat→Nat→Int→World→Prop
 | 0,_,_,_,_,_=>False
 | nl1+1,v1_a,v1_n,v1_c,v2,w1=>(
 NN l fun p1=>
 dU w1 (Addr.add p1 4) fun x1_a x1_n x1_c=>
 Ifb (decide (v2<((x1_n:Nat):Int)))
 (NN l fun p2=>
 dU w1 (Addr.add p2 4) fun x2_a x2_n x2_c=>
 Ix x2_a x2_n v2 fun p3=>
 LdI .i64 w1 (Addr.add (Addr.add p3 (v2.toNat*10)) 1) fun x3=>
 Ifb (x3==id)
 (NN l fun p4=>
 dU w1 (Addr.add p4 4) fun x4_a x4_n x4_c=>
 Ix x4_a x4_n v2 fun p5=>
 LdI .u8 w1 (Addr.add (Addr.add p5 (v2.toNat*10)) 8) fun x5=>
 bX.j1 Q v1_a v1_n v1_c v2 (bX.l1 Q l id state nl1) (x5==state) w1)
 (bX.j1 Q v1_a v1_n v1_c v2 (bX.l1 Q l id state nl1) false w1))
 (Q v1_a v1_n v1_c w1))
def bX.R(Q:Option Addr→Nat→Nat→World→Prop)(l:Option Addr)(id:Int)(state:Int)(w:World):Prop:=(
 ∃k,bX.l1 Q l id state k none 0 0 0 w)
theorem bX.ok{Q:Option Addr→Nat→Nat→World→Prop}{l:Option Addr}{id:Int}{state:Int}{w:World}(h:bX.R Q l id state w):Cl Pg 167 #[vP l,vi id,vu state] w (fun v w'=>∃r0a r0n r0c,v=vl r0a r0n r0c∧Q r0a r0n r0c w'):=by
 refine aI (args:=[vP l,vi id,vu state]) Tryz.func167 ?_
 unfold bX.R at h
 refine aC<|zp 1<|aD<|aC<|zp 1<|aD<|aL<|aC<|zp 1<|aD<|aR ?_
 obtain⟨nl1,h⟩:=h
 refine bS (fun k e w1=>∃(e0:Env) (v1_a:Option Addr) (v1_n:Nat) (v1_c:Nat) (v2:Int),e=upds e0 [(0,vP l),(1,vi id),(2,vu state),(7,vl v1_a v1_n v1_c),(8,vi v2)]∧bX.l1 Q l id state k v1_a v1_n v1_c v2 w1) nl1 ?_ ?_ ?_
 rintro _ _ ⟨_,_,_,_,_,_,h⟩
 exact h
 exact⟨_,none,0,0,0,ag,h⟩
 clear h nl1
 rintro nl1 _ w1 ⟨e0,v1_a,v1_n,v1_c,v2,rfl,h⟩
 unfold bX.l1 at h
 refine aL<|aC<|zp 2<|zo h fun p1 h=>zp 1<|zr iU h fun x1_a x1_n x1_c hx1 h=>zp 2<|aD<|zc h (fun h=>?_) fun h=>?_
 refine aJ<|aL<|aR<|fD (fun e w2=>∃(e0:Env) (v3:Bool),e=upds e0 [(0,vP l),(1,vi id),(2,vu state),(7,vl v1_a v1_n v1_c),(8,vi v2),(39,vb v3)]∧bX.j1 Q v1_a v1_n v1_c v2 (bX.l1 Q l id state nl1) v3 w2) ?_ ?_
 refine aW<|zp 1<|zo h fun p2 h=>zp 1<|zr iU h fun x2_a x2_n x2_c hx2 h=>zp 1<|zi dX h fun p3 h=>zp 1<|zd tk3 h fun x3 hx3 h=>zp 3<|zs 28 h (fun h=>?_) fun h=>?_
 exact zp 1<|zo h fun p4 h=>zp 1<|zr iU h fun x4_a x4_n x4_c hx4 h=>zp 1<|zi dX h fun p5 h=>zp 1<|zd tk5 h fun x5 hx5 h=>zp 3<|aD<|⟨_,(x5==state),ag,h⟩
 exact zp 11<|aD<|⟨_,false,ag,h⟩
 clear h
 rintro _ w2 ⟨e0,v3,rfl,h⟩
 unfold bX.j1 at h
 refine zc h (fun h=>?_) fun h=>?_
 refine aW<|zp 2<|zv 1 h fun b1 w3 _ _ _ h=>za h ?_
 rintro a1_a a1_n a1_c w4 h
 exact zp 1<|aD<|aG<|aW<|zp 3<|aD<|⟨_,a1_a,a1_n,a1_c,IntKind.wrap .i64 (v2+1),ag,h⟩
 exact aJ<|aG<|aW<|zp 3<|aD<|⟨_,v1_a,v1_n,v1_c,IntKind.wrap .i64 (v2+1),ag,h⟩
 exact dE<|aU<|aC<|zp 2<|aD<|aN<|z1 ⟨_,_,_,rfl,h⟩
def bN.j1(Q:Option Addr→Nat→Nat→World→Prop)(l_a:Option Addr)(l_n:Nat)(v3:Int)(kl1:Option Addr→Nat→Nat→Bool→Int→World→Prop)(v4_a:Option Addr)(v4_n:Nat)(v4_c:Nat)(v5:Bool)(w2:World):Prop:=(
 Ix l_a l_n v3 fun p1=>
 LdT TAmount.enc w2 (Addr.add p1 (v3.toNat*2)) fun x1=>
 Al w2 (.cells #[vs x1.Unit,vi x1.N] 58) fun b1 w3=>
 Ap Pg w3 #[53,53] 53 (vl v4_a v4_n v4_c) (vl (some ⟨b1,0,none⟩) 1 1) fun a1_a a1_n a1_c w4=>
 kl1 a1_a a1_n a1_c v5 (IntKind.wrap .i64 (v3+1)) w4)
def bN.j2(Q:Option Addr→Nat→Nat→World→Prop)(l_a:Option Addr)(l_n:Nat)(unit:ByteArray)(n:Int)(v1_a:Option Addr)(v1_n:Nat)(v1_c:Nat)(v2:Bool)(v3:Int)(kl1:Option Addr→Nat→Nat→Bool→Int→World→Prop)(v6:Bool)(w5:World):Prop:=(
 Ifb v6
 (Ix l_a l_n v3 fun p2=>
 LdS w5 (Addr.add p2 (v3.toNat*2)) fun x2=>
 Ifb (dF unit x2)
 (Ix l_a l_n v3 fun p3=>
 LdI .i64 w5 (Addr.add (Addr.add p3 (v3.toNat*2)) 1) fun x3=>
 Al w5 (.cells #[vs unit,vi (IntKind.wrap .i64 (x3+n))] 58) fun b2 w6=>
 Ap Pg w6 #[53,53] 53 (vl v1_a v1_n v1_c) (vl (some ⟨b2,0,none⟩) 1 1) fun a2_a a2_n a2_c w7=>
 kl1 a2_a a2_n a2_c true (IntKind.wrap .i64 (v3+1)) w7)
 (Al w5 (.cells #[vs unit,vi n] 58) fun b3 w8=>
 Ap Pg w8 #[53,53] 53 (vl v1_a v1_n v1_c) (vl (some ⟨b3,0,none⟩) 1 1) fun a3_a a3_n a3_c w9=>
 bN.j1 Q l_a l_n v3 kl1 a3_a a3_n a3_c true w9))
 (bN.j1 Q l_a l_n v3 kl1 v1_a v1_n v1_c v2 w5))
def bN.l1(Q:Option Addr→Nat→Nat→World→Prop)(l_a:Option Addr)(l_n:Nat)(unit:ByteArray)(n:Int):Nat→Option Addr→Nat→Nat→Bool→Int→World→Prop
 | 0,_,_,_,_,_,_=>False
 | nl1+1,v1_a,v1_n,v1_c,v2,v3,w1=>(
 Ifb (decide (v3<((l_n:Nat):Int)))
 (Ifb (!v2)
 (Ix l_a l_n v3 fun p4=>
 LdS w1 (Addr.add p4 (v3.toNat*2)) fun x4=>
 bN.j2 Q l_a l_n unit n v1_a v1_n v1_c v2 v3 (bN.l1 Q l_a l_n unit n nl1) (iO unit x4||dF unit x4) w1)
 (bN.j2 Q l_a l_n unit n v1_a v1_n v1_c v2 v3 (bN.l1 Q l_a l_n unit n nl1) false w1))
 (Ifb (!v2)
 (Al w1 (.cells #[vs unit,vi n] 58) fun b4 w10=>
 Ap Pg w10 #[53,53] 53 (vl v1_a v1_n v1_c) (vl (some ⟨b4,0,none⟩) 1 1) fun a4_a a4_n a4_c w11=>
 Q a4_a a4_n a4_c w11)
 (Q v1_a v1_n v1_c w1)))
def bN.R(Q:Option Addr→Nat→Nat→World→Prop)(l_a:Option Addr)(l_n:Nat)(l_c:Nat)(unit:ByteArray)(n:Int)(w:World):Prop:=(
 ∃k,bN.l1 Q l_a l_n unit n k none 0 0 false 0 w)
theorem bN.ok{Q:Option Addr→Nat→Nat→World→Prop}{l_a:Option Addr}{l_n:Nat}{l_c:Nat}{unit:ByteArray}{n:Int}{w:World}(h:bN.R Q l_a l_n l_c unit n w):Cl Pg 168 #[vl l_a l_n l_c,vs unit,vi n] w (fun v w'=>∃r0a r0n r0c,v=vl r0a r0n r0c∧Q r0a r0n r0c w'):=by
 refine aI (args:=[vl l_a l_n l_c,vs unit,vi n]) Tryz.func168 ?_
 unfold bN.R at h
 refine aC<|zp 1<|aD<|aC<|zp 1<|aD<|aC<|zp 1<|aD<|aL<|aC<|zp 1<|aD<|aR ?_
 obtain⟨nl1,h⟩:=h
 refine bS (fun k e w1=>∃(e0:Env) (v1_a:Option Addr) (v1_n:Nat) (v1_c:Nat) (v2:Bool) (v3:Int),e=upds e0 [(0,vl l_a l_n l_c),(1,vs unit),(2,vi n),(7,vl v1_a v1_n v1_c),(8,vb v2),(9,vi v3)]∧bN.l1 Q l_a l_n unit n k v1_a v1_n v1_c v2 v3 w1) nl1 ?_ ?_ ?_
 rintro _ _ ⟨_,_,_,_,_,_,_,h⟩
 exact h
 exact⟨_,none,0,0,false,0,ag,h⟩
 clear h nl1
 rintro nl1 _ w1 ⟨e0,v1_a,v1_n,v1_c,v2,v3,rfl,h⟩
 unfold bN.l1 at h
 refine aL<|aC<|zp 4<|aD<|zc h (fun h=>?_) fun h=>?_
 refine aJ<|aL<|aR<|fD (fun e w2=>∃(e0:Env) (v4_a:Option Addr) (v4_n:Nat) (v4_c:Nat) (v5:Bool),e=upds e0 [(0,vl l_a l_n l_c),(1,vs unit),(2,vi n),(7,vl v4_a v4_n v4_c),(8,vb v5),(9,vi v3)]∧bN.j1 Q l_a l_n v3 (bN.l1 Q l_a l_n unit n nl1) v4_a v4_n v4_c v5 w2) ?_ ?_
 refine fD (fun e w5=>∃(e0:Env) (v6:Bool),e=upds e0 [(0,vl l_a l_n l_c),(1,vs unit),(2,vi n),(7,vl v1_a v1_n v1_c),(8,vb v2),(9,vi v3),(26,vb v6)]∧bN.j2 Q l_a l_n unit n v1_a v1_n v1_c v2 v3 (bN.l1 Q l_a l_n unit n nl1) v6 w5) ?_ ?_
 refine aW<|zp 3<|zs 18 h (fun h=>?_) fun h=>?_
 exact zp 3<|zi pM h fun p4 h=>zp 1<|zd tk9 h fun x4 hx4 h=>zp 2<|aD<|⟨_,(iO unit x4||dF unit x4),ag,h⟩
 exact zp 8<|aD<|⟨_,false,ag,h⟩
 clear h
 rintro _ w5 ⟨e0,v6,rfl,h⟩
 unfold bN.j2 at h
 refine zc h (fun h=>?_) fun h=>?_
 refine aC<|zp 1<|aD<|aL<|aC<|zp 3<|zi pM h fun p2 h=>zp 1<|zd tk9 h fun x2 hx2 h=>zp 1<|aD<|zc h (fun h=>?_) fun h=>?_
 refine aC<|zp 4<|zi pM h fun p3 h=>zp 1<|zd tk3 h fun x3 hx3 h=>zp 3<|zv 1 h fun b2 w6 _ _ _ h=>za h ?_
 rintro a2_a a2_n a2_c w7 h
 exact zp 1<|aD<|dE<|aU<|aW<|zp 3<|aD<|⟨_,a2_a,a2_n,a2_c,true,IntKind.wrap .i64 (v3+1),ag,h⟩
 refine aJ<|aW<|zp 4<|zv 1 h fun b3 w8 _ _ _ h=>za h ?_
 rintro a3_a a3_n a3_c w9 h
 exact zp 1<|aD<|⟨_,a3_a,a3_n,a3_c,true,ag,h⟩
 exact aJ<|⟨_,v1_a,v1_n,v1_c,v2,ag,h⟩
 clear h
 rintro _ w2 ⟨e0,v4_a,v4_n,v4_c,v5,rfl,h⟩
 unfold bN.j1 at h
 refine aW<|zp 3<|zi pM h fun p1 h=>?_
 obtain⟨x1,hx1,h⟩:=h
 refine zn yP hx1<|zv 1 h fun b1 w3 _ _ _ h=>za h ?_
 rintro a1_a a1_n a1_c w4 h
 exact zp 1<|aD<|aG<|aW<|zp 3<|aD<|⟨_,a1_a,a1_n,a1_c,v5,IntKind.wrap .i64 (v3+1),ag,h⟩
 refine dE<|aU<|aL<|aC<|zp 2<|aD<|zc h (fun h=>?_) fun h=>?_
 refine aW<|zp 4<|zv 1 h fun b4 w10 _ _ _ h=>za h ?_
 rintro a4_a a4_n a4_c w11 h
 exact zp 1<|aD<|aC<|zp 2<|aD<|aN<|z1 ⟨_,_,_,rfl,h⟩
 exact aJ<|aC<|zp 2<|aD<|aN<|z1 ⟨_,_,_,rfl,h⟩
def iH.l1(Q:Option Addr→Nat→Nat→World→Prop)(l:Option Addr)(from_:TAccount)(to_:TAccount)(why:Int)(next:Int)(b1:Nat)(b2:Nat)(r1_a:Option Addr)(r1_n:Nat):Nat→Option Addr→Nat→Nat→Int→World→Prop
 | 0,_,_,_,_,_=>False
 | nl1+1,v1_a,v1_n,v1_c,v2,w4=>(
 Ifb (decide (v2<((r1_n:Nat):Int)))
 (Dr w4 fun w5=>
 NN l fun p1=>
 dU w5 (Addr.add p1 4) fun x1_a x1_n x1_c=>
 Ix r1_a r1_n v2 fun p2=>
 LdI .i64 w5 (Addr.add p2 (v2.toNat*1)) fun x2=>
 Ix x1_a x1_n x2 fun p3=>
 LdT TLot.enc w5 (Addr.add p3 (x2.toNat*10)) fun x3=>
 Al w5 (.cells #[vi 0,vi 0,vi 0,vi 0,vi 0,vs (ByteArray.mk #[]),vi 0,vi 0,vu 0,vi 0] 45) fun b3 w6=>
 Sb w6 b3 (.cells #[vi x3.Id,vi x3.Thing,vi x3.Layer,vi x3.Day,vi x3.Due,vs x3.Unit,vi x3.N,vi x3.Left,vu x3.State,vi x3.Bag] 45 (0,0)) fun w7=>
 Dr w7 fun w8=>
 NN l fun p4=>
 LdI .i64 w8 p4 fun x4=>
 Cl Pg 165 #[vP l,vi x4,vs x3.Unit,vi x3.Left,vg [vu from_.Kind,vi from_.Id],vg [vu to_.Kind,vi to_.Id],vu why,vi x3.Id] w8 (fun v w9=>v= .tuple #[]∧Kp b1 w8 w9∧Kp b2 w8 w9∧Kp b3 w8 w9∧Cl Pg 168 #[vl v1_a v1_n v1_c,vs x3.Unit,vi x3.Left] w9 (fun v w10=>∃r2_a r2_n r2_c,v=vl r2_a r2_n r2_c∧Kp b1 w9 w10∧Kp b2 w9 w10∧Dr w10 fun w11=>
 NN l fun p5=>
 dU w11 (Addr.add p5 4) fun x5_a x5_n x5_c=>
 Ix r1_a r1_n v2 fun p6=>
 LdI .i64 w11 (Addr.add p6 (v2.toNat*1)) fun x6=>
 Ix x5_a x5_n x6 fun p7=>
 St w11 (Addr.add (Addr.add p7 (x6.toNat*10)) 8) ([vu next]) fun w12=>
 Kp b1 w11 w12∧Kp b2 w11 w12∧Ifb (next==2)
 (Dr w12 fun w13=>
 NN l fun p8=>
 dU w13 (Addr.add p8 4) fun x7_a x7_n x7_c=>
 Ix r1_a r1_n v2 fun p9=>
 LdI .i64 w13 (Addr.add p9 (v2.toNat*1)) fun x8=>
 Ix x7_a x7_n x8 fun p10=>
 St w13 (Addr.add (Addr.add p10 (x8.toNat*10)) 7) ([vi 0]) fun w14=>
 Kp b1 w13 w14∧Kp b2 w13 w14∧(iH.l1 Q l from_ to_ why next b1 b2 r1_a r1_n nl1) r2_a r2_n r2_c (IntKind.wrap .i64 (v2+1)) w14)
 ((iH.l1 Q l from_ to_ why next b1 b2 r1_a r1_n nl1) r2_a r2_n r2_c (IntKind.wrap .i64 (v2+1)) w12))))
 (Q v1_a v1_n v1_c w4))
def iH.R(Q:Option Addr→Nat→Nat→World→Prop)(l:Option Addr)(id:Int)(state:Int)(from_:TAccount)(to_:TAccount)(why:Int)(next:Int)(w:World):Prop:=(
 Al w (.cells #[vu from_.Kind,vi from_.Id] 40) fun b1 w1=>
 Al w1 (.cells #[vu to_.Kind,vi to_.Id] 40) fun b2 w2=>
 Cl Pg 167 #[vP l,vi id,vu state] w2 (fun v w3=>∃r1_a r1_n r1_c,v=vl r1_a r1_n r1_c∧Kp b1 w2 w3∧Kp b2 w2 w3∧∃k,iH.l1 Q l from_ to_ why next b1 b2 r1_a r1_n k none 0 0 0 w3))
theorem iH.ok{Q:Option Addr→Nat→Nat→World→Prop}{l:Option Addr}{id:Int}{state:Int}{from_:TAccount}{to_:TAccount}{why:Int}{next:Int}{w:World}(h:iH.R Q l id state from_ to_ why next w):Cl Pg 169 #[vP l,vi id,vu state,vg (TAccount.enc from_),vg (TAccount.enc to_),vu why,vu next] w (fun v w'=>∃r0a r0n r0c,v=vl r0a r0n r0c∧Q r0a r0n r0c w'):=by
 refine aI (args:=[vP l,vi id,vu state,vg (TAccount.enc from_),vg (TAccount.enc to_),vu why,vu next]) Tryz.func169 ?_
 unfold iH.R at h
 refine aC<|zq h fun b1 w1 _ _ q1 h=>zq h fun b2 w2 eb ew q2 h=>?_
 have o1:=q1
 replace q1:=fQ ew q1
 have n1_2:b1≠b2:=lR o1 eb
 clear o1
 clear eb ew
 refine zp 1<|aD<|aC<|zp 1<|aD<|aC<|zp 3<|zk h ?_
 rintro _ w3 ⟨r1_a,r1_n,r1_c,rfl,hk0,hk1,h⟩
 replace q1:=bG hk0 q1
 replace q2:=bG hk1 q2
 refine zp 1<|aD<|aL<|aC<|zp 1<|aD<|aR ?_
 obtain⟨nl1,h⟩:=h
 refine bS (fun k e w4=>∃(e0:Env) (v1_a:Option Addr) (v1_n:Nat) (v1_c:Nat) (v2:Int),e=upds e0 [(0,vP l),(5,vu why),(6,vu next),(10,vp ⟨b1,0,none⟩),(11,vp ⟨b2,0,none⟩),(15,vl v1_a v1_n v1_c),(16,vl r1_a r1_n r1_c),(17,vi v2)]∧w4.heap[b1]? =some (.cells #[vu from_.Kind,vi from_.Id] 40 (0,0))∧w4.heap[b2]? =some (.cells #[vu to_.Kind,vi to_.Id] 40 (0,0))∧b1≠b2∧iH.l1 Q l from_ to_ why next b1 b2 r1_a r1_n k v1_a v1_n v1_c v2 w4) nl1 ?_ ?_ ?_
 rintro _ _ ⟨_,_,_,_,_,_,_,_,_,h⟩
 exact h
 exact⟨_,none,0,0,0,ag,q1,q2,n1_2,h⟩
 clear h nl1 q1 q2 n1_2
 rintro nl1 _ w4 ⟨e0,v1_a,v1_n,v1_c,v2,rfl,q1,q2,n1_2,h⟩
 unfold iH.l1 at h
 refine aL<|aC<|zp 4<|aD<|zc h (fun h=>?_) fun h=>?_
 refine aJ<|aL<|aR<|drs iG [[],[],[],[],[],[],[],[],[3,7],[3,7],[],[3,7,9]] [.p 0,.p 1,.p 2,.l 3,.p 4,.p 5,.p 6,.l 7,.p 8,.l 9,.e 10,.e 11] h fun w5 ew h=>?_
 replace q1:=dN ew q1
 replace q2:=dN ew q2
 refine zP 1<|zO h fun p1 h=>zP 1<|zR iU h fun x1_a x1_n x1_c hx1 h=>zP 2<|zI xB h fun p2 h=>zD tk3 h fun x2 hx2 h=>zI dX h fun p3 h=>?_
 obtain⟨x3,hx3,h⟩:=h
 refine zN jU hx3<|zQ h fun b3 w6 eb ew q3 h=>?_
 have o1:=q1
 have o2:=q2
 replace q1:=fQ ew q1
 replace q2:=fQ ew q2
 replace hx1:=oE ew hx1
 replace hx2:=oE ew hx2
 replace hx3:=aG3 ew hx3
 have n1_3:b1≠b3:=lR o1 eb
 have n2_3:b2≠b3:=lR o2 eb
 clear o1
 clear o2
 clear eb ew
 refine⟨AllOk.cons (jW (jO rfl rfl (bT jU rfl hx3)))<|zf tk3 hx2<|zf iU hx1<|AllOk.nil,?_⟩
 refine zT jU q3 h fun w7 ew q h=>?_
 replace q1:=dC ew n1_3 q1
 replace q2:=dC ew n2_3 q2
 replace q3:=q
 refine⟨AllOk.nil,?_⟩
 refine bF<|drs iG [[],[],[],[],[],[],[],[],[],[],[],[],[],[],[4,6,8,9,10,13]] [.p 0,.p 1,.p 2,.p 3,.l 4,.p 5,.l 6,.p 7,.l 8,.l 9,.l 10,.p 11,.p 12,.l 13,.e 14] h fun w8 ew h=>?_
 replace q1:=dN ew q1
 replace q2:=dN ew q2
 replace q3:=dN ew q3
 refine zP 2<|zO h fun p4 h=>zP 1<|zD tk3 h fun x4 hx4 h=>zP 1<|zB tk9 q3<|zP 1<|zB tk3 q3<|zM j8 q1<|zM j8 q2<|zP 2<|zB tk3 q3<|zK h ?_
 rintro _ w9 ⟨rfl,hk0,hk1,hk2,h⟩
 replace q1:=bG hk0 q1
 replace q2:=bG hk1 q2
 replace q3:=bG hk2 q3
 refine⟨AllOk.nil,?_⟩
 refine bF<|aC<|zp 2<|zb tk9 q3<|zp 1<|zb tk3 q3<|zk h ?_
 rintro _ w10 ⟨r2_a,r2_n,r2_c,rfl,hk0,hk1,h⟩
 replace q1:=bG hk0 q1
 replace q2:=bG hk1 q2
 refine zp 1<|aD<|drs iG [[],[],[],[],[],[],[],[],[],[3,7],[3,7],[3,7]] [.p 0,.p 1,.p 2,.l 3,.p 4,.p 5,.p 6,.l 7,.p 8,.p 9,.p 10,.e 11] h fun w11 ew h=>?_
 replace q1:=dN ew q1
 replace q2:=dN ew q2
 refine zP 1<|zO h fun p5 h=>zP 1<|zR iU h fun x5_a x5_n x5_c hx5 h=>zP 2<|zI xB h fun p6 h=>zD tk3 h fun x6 hx6 h=>zP 1<|zI dX h fun p7 h=>zP 1<|zU tk5 h ?_
 rintro w12 ⟨hk0,hk1,h⟩
 replace q1:=bG hk0 q1
 replace q2:=bG hk1 q2
 refine⟨AllOk.nil,?_⟩
 refine bF<|aC<|zp 2<|aD<|zc h (fun h=>?_) fun h=>?_
 refine drw iG [[],[],[],[],[],[],[],[],[3,7],[3,7],[3,7]] [.p 0,.p 1,.p 2,.l 3,.p 4,.p 5,.p 6,.l 7,.p 8,.p 9,.e 10] h fun w13 ew h=>?_
 replace q1:=dN ew q1
 replace q2:=dN ew q2
 refine zP 1<|zO h fun p8 h=>zP 1<|zR iU h fun x7_a x7_n x7_c hx7 h=>zP 2<|zI xB h fun p9 h=>zD tk3 h fun x8 hx8 h=>zI dX h fun p10 h=>zP 1<|zU tk3 h ?_
 rintro w14 ⟨hk0,hk1,h⟩
 replace q1:=bG hk0 q1
 replace q2:=bG hk1 q2
 refine⟨AllOk.nil,?_⟩
 exact bF<|aG<|aW<|zp 3<|aD<|⟨_,r2_a,r2_n,r2_c,IntKind.wrap .i64 (v2+1),ag,q1,q2,n1_2,h⟩
 exact aJ<|aG<|aW<|zp 3<|aD<|⟨_,r2_a,r2_n,r2_c,IntKind.wrap .i64 (v2+1),ag,q1,q2,n1_2,h⟩
 exact dE<|aU<|aC<|zp 2<|aD<|aN<|z1 ⟨_,_,_,rfl,h⟩
end Go.Proofs.YtcbijkakoepglaaGreat
