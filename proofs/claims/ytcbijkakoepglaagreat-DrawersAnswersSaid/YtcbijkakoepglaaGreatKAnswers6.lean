/- The law DrawersAnswers holds. Conditions: none. -/
import Derived.Test.YtcbijkakoepglaaGreatKAnswers5
set_option linter.all false
namespace Go.Proofs.YtcbijkakoepglaaGreat
open Go Go.Wx
theorem push{α:Type}{T t sz by_:Nat}{enc:α→List Value}(hap:apk Pg t=some (T,sz,by_))(he:∀x,(enc x).length=sz)(h1:∀x,∀u∈enc x,u.oneCell'=true)(hby:by_≤1000){w0 w:World}(E:Ext w0 w){a:Option Addr}{n c:Nat}{l:List α}
 (ho:Own T sz enc w a n c l) (hk:∀k,obk a c=some k→w0.heap.size≤k) (hn:n≤1000000) (y:α) {K:World→Option Addr→Nat→Nat→World→Prop}
 (hK:∀w1 a2 c2 w2,(∀k,k<w0.heap.size→Kp k w1 w2)→Ext w0 w2→Own T sz enc w2 a2 (n+1) c2 (l++[y])→(∀k,obk a2 c2=some k→w0.heap.size≤k)→K w1 a2 (n+1) c2 w2):
 Al w (.cells (enc y).toArray T) fun b1 w3=>Ap Pg w3 #[t,t] t (vl a n c) (vl (some ⟨b1,0,none⟩) 1 1) (K w3):=
 bW E fun b1 w2 hb1 hat1 E2 e2 _=>jT hap he h1 (ho.ext e2) (Rd.one (enc:=enc) (sz:=sz) y hat1) (Nat.le_trans (Nat.mul_le_mul (show(n+1)+(n+1) / 4+192≤2000000 by omega) hby) (by decide)) (by simp only[maxLen];omega) fun a2 c2 w3 ho3 F3 hb3=>
  hK w2 a2 c2 w3 (fun k hk'=>F3.blk k (Nat.lt_of_lt_of_le hk' E2.size) fun e=>by have:=hk k e;omega) (Frm.trans E2 F3 fun k hk' e=>by have:=hk k e;omega) ho3 fun k hk'=>(hb3 k hk').elim (hk k) fun h=>Nat.le_trans E2.size h
section
variable {w : World} {b k : Nat} {s : RSt} {us : List RUnit} {vals : List RVal} {ts : List TTerm} {M : MState}
theorem aFi{a:TAccount}{name:ByteArray}{day v:Int}{x:TPosting}(c:(!dF x.Unit name||decide (x.Day>day))=true):(if x.Day≤day then aAG a name v x else v)=v:=by
 unfold aAG;cases hq:dF x.Unit name with
 | false=>simp
 | true=>
  rw[hq]at c;have c:x.Day>day:=by simpa using c
  rw[if_neg (by omega)]
theorem step_eq{a:TAccount}{name:ByteArray}{v:Int}{x:TPosting}(hf:oQ x=true)(hq:dF x.Unit name=true):aAG a name v x=if j0 a x then wr ((if pL a x then wr (v+x.N)else v)-x.N)else if pL a x then wr (v+x.N)else v:=by
 have hb:=aBL (a:=a) hf;unfold aAG;rw[hq];cases h1:j0 a x with
 | true=>
  cases h2:pL a x with
  | true=>exact absurd ⟨h1,h2⟩ hb
  | false=>simp
 | false=>
  cases h2:pL a x with
  | true=>simp
  | false=>simp
theorem aBD(h:RIs w b k M)(hP:PO M)(hp:M.postings.length≤100000){a:TAccount}{name:ByteArray}{day:Int}{Q:Int→World→Prop}(hQ:∀w',Ext w w'→Q (M.balance a name day) w'):
 Cl Pg 57 #[vP (some ⟨b,0,none⟩),vg [vu a.Kind,vi a.Id],vs name,vi day] w (fun v w'=>∃r,v=vi r∧Q r w'):=by
 obtain⟨s,us,vals,ts,h,hr,hv⟩:=h;have hl:=h.moves.1;rw[aAR hP]at hQ;generalize hS:aCZ a name day 0 M.postings=S at hQ;refine bP.ok (a:=a) (bW (er w) fun b1 w1 hb1 hat1 E1 _ _=>⟨s.mn+1,?_⟩);have key:∀m i w' v,i+m=s.mn→Ext w w'→aCZ a name day v (M.postings.drop i)=S→bP.l1 Q (some ⟨b,0,none⟩) a name day (m+1) v (i:Nat) w':=by
  intro m;induction m with
  | zero=>
   intro i w' v hi E hb;unfold bP.l1;rw[List.drop_of_length_le (by omega)]at hb;exact⟨_,rfl,_,_,_,(h.ext E).cells.at 5 rfl,dK (by omega) (by rw[show v=_ from hb];exact hQ w' E)⟩
  | succ m ih=>
   intro i w' v hi E hb;unfold bP.l1;obtain⟨x,hx⟩:∃x,M.postings[i]? =some x:=⟨_,List.getElem?_eq_getElem (by omega)⟩;obtain⟨hxl,hx'⟩:=List.getElem?_eq_some_iff.1 hx;rw[List.drop_eq_getElem_cons hxl,hx']at hb;unfold aCZ at hb;have hf:=hP.fine x (List.mem_of_getElem? hx);have ew:IntKind.wrap .i64 (((i:Nat):Int)+1)=((i+1:Nat):Int):=nG (by omega)
   refine⟨_,rfl,_,_,_,(h.ext E).cells.at 5 rfl,dQ (by omega) ⟨_,rfl,_,_,_,(h.ext E).cells.at 5 rfl,(h.ext E).moves.rix m0 hx fun a0 _ hc=>⟨x,by rw[Int.toNat_natCast];exact hc,bW E fun b2 w2 hb2 hat2 E2 e2 _=>lW E2 hat2 hb2 fun w3 hat3 E3 f3=>ifb ?_⟩⟩⟩;split
   ·rename_i c;rw[aFi c]at hb;rw[ew];exact ih (i+1) w3 v (by omega) E3 hb
   rename_i c;have c:dF x.Unit name=true∧x.Day≤day:=by
    simp only[Bool.or_eq_true,Bool.not_eq_true',decide_eq_true_eq,not_or,Bool.not_eq_false]at c;exact⟨c.1,by omega⟩
   rw[if_pos c.2,step_eq hf c.1]at hb;have fin:∀v1,v1=(if pL a x then wr (v+x.N)else v)→bP.j1 Q a (i:Nat) (bP.l1 Q (some ⟨b,0,none⟩) a name day (m+1)) x v1 w3:=fun v1 e=>by
    rw[←e]at hb;unfold bP.j1;rw[ew];refine ifb ?_;split
    ·rename_i t;rw[if_pos (show j0 a x=true from t)]at hb;exact ih (i+1) w3 _ (by omega) E3 hb
    ·rename_i t;rw[if_neg (show ¬j0 a x=true from t)]at hb;exact ih (i+1) w3 _ (by omega) E3 hb
   refine ifb ?_;split
   ·rename_i t;exact fin _ (by rw[if_pos (show pL a x=true from t)])
   ·rename_i t;exact fin _ (by rw[if_neg (show ¬pL a x=true from t)])
 exact key s.mn 0 w1 0 (by omega) E1 hS
def aDb(x:ByteArray):List Value:=[vs x]
theorem aDa(x:ByteArray):(aDb x).length=1:=rfl
theorem aFq(h:RLed w b s us vals ts M)(hn:us.length≤100000){Q:Option Addr→Nat→Nat→World→Prop}
 (hQ:∀a n c w',Own 9 1 aDb w' a n c (oU [] us)→(∀k,obk a c=some k→w.heap.size≤k)→Ext w w'→Q a n c w'):Cl Pg 121 #[vP (some ⟨b,0,none⟩)] w (fun v w'=>∃a n c,v=vl a n c∧Q a n c w'):=by
 have hl:=h.units.1;refine aY.ok ⟨s.un+1,?_⟩;have key:∀m i w' a n c out,i+m=s.un→Ext w w'→n≤i→Own 9 1 aDb w' a n c out→(∀k,obk a c=some k→w.heap.size≤k)→oU out (us.drop i)=oU [] us→aY.l1 Q (some ⟨b,0,none⟩) (m+1) a n c (i:Nat) w':=by
  intro m;induction m with
  | zero=>
   intro i w' a n c out hi E hni ho hk hu;unfold aY.l1;rw[List.drop_of_length_le (by omega)]at hu;refine⟨_,rfl,_,_,_,(h.ext E).cells.at 1 rfl,dK (by omega) (hQ a n c w' ?_ hk E)⟩;rw[←hu];exact ho
  | succ m ih=>
   intro i w' a n c out hi E hni ho hk hu;unfold aY.l1;obtain⟨x,hx⟩:∃x,us[i]? =some x:=⟨_,List.getElem?_eq_getElem (by omega)⟩;obtain⟨hxl,hx'⟩:=List.getElem?_eq_some_iff.1 hx;rw[List.drop_eq_getElem_cons hxl,hx']at hu;rw[show oU out (x::us.drop (i+1))=oU (wX x.name out) (us.drop (i+1))from rfl]at hu;have ew:IntKind.wrap .i64 (((i:Nat):Int)+1)=((i+1:Nat):Int):=nG (by omega);have hol:=ho.1
   have name:∀{w1:World} {K:ByteArray→Prop},Ext w w1→K x.name→NN (some ⟨b,0,none⟩) fun p=>dU w1 (Addr.add p 1) fun xa xn _=>Ix xa xn (i:Nat) fun p1=>LdS w1 (Addr.add p1 (((i:Nat):Int).toNat*2)) K:=fun{w1 K} E1 hK=>
    ⟨_,rfl,_,_,_,(h.ext E1).cells.at 1 rfl,(h.ext E1).units.rix aCJ hx fun a0 _ hc=>⟨_,by rw[Int.toNat_natCast];exact rd0 hc rfl,hK⟩⟩
   refine⟨_,rfl,_,_,_,(h.ext E).cells.at 1 rfl,dQ (by omega) ⟨n+1,?_⟩⟩;have key2:∀q j w2 a2 n2 c2 (d:Bool) acc,j+q=n→Ext w' w2→n2≤j+1→(d=false→n2≤j)→Own 9 1 aDb w2 a2 n2 c2 acc→(∀k,obk a2 c2=some k→w'.heap.size≤k)→(if d=true then acc++out.drop j else acc++wX x.name (out.drop j))=wX x.name out→
    aY.l2 Q (some ⟨b,0,none⟩) a n (i:Nat) (aY.l1 Q (some ⟨b,0,none⟩) (m+1)) (q+1) a2 n2 c2 d (j:Nat) w2:=by
    intro q;induction q with
    | zero=>
     intro j w2 a2 n2 c2 d acc hj e2 hn2 hnd ho2 hk2 hb;unfold aY.l2;rw[List.drop_of_length_le (by omega)]at hb;refine dK (by omega) ?_;rw[ew];have hs:=E.size;cases d with
     | true=>
      rw[if_pos rfl,List.append_nil]at hb;exact jJ (ih (i+1) w2 a2 n2 c2 acc (by omega) (E.ext e2) (by omega) ho2 (fun k h=>Nat.le_trans hs (hk2 k h)) (by rw[hb];exact hu))
     | false=>
      rw[if_neg (by decide)]at hb;have:=hnd rfl;refine jM (name (E.ext e2) ?_);refine push (enc:=aDb) aG2 aDa (fun x=>iN rfl) (by decide) e2 ho2 hk2 (by omega) x.name fun _ a3 c3 w3 _ e3 ho3 hk3=>?_;exact ih (i+1) w3 a3 (n2+1) c3 _ (by omega) (E.ext e3) (by omega) ho3 (fun k h=>Nat.le_trans hs (hk3 k h)) (by rw[show acc++[x.name]=_ from hb];exact hu)
    | succ q ih2=>
     intro j w2 a2 n2 c2 d acc hj e2 hn2 hnd ho2 hk2 hb;unfold aY.l2;obtain⟨y,hy⟩:∃y,out[j]? =some y:=⟨_,List.getElem?_eq_getElem (by omega)⟩;obtain⟨hyl,hy'⟩:=List.getElem?_eq_some_iff.1 hy;rw[List.drop_eq_getElem_cons hyl,hy']at hb;have ew2:IntKind.wrap .i64 (((j:Nat):Int)+1)=((j+1:Nat):Int):=nG (by omega);refine dQ (by omega) (iS e2 fun w9 E9 e9=>?_);have ho9:=ho2.ext e9
     have at_:∀{w1:World} {K:ByteArray→Prop},Ext w' w1→K y→Ix a n (j:Nat) fun p1=>LdS w1 (Addr.add p1 (((j:Nat):Int).toNat*1)) K:=fun{w1 K} E1 hK=>
      (ho.ext E1).rix aDa hy fun a0 _ hc=>⟨_,by rw[Int.toNat_natCast];exact rd0 hc rfl,hK⟩
     have tail:∀{w1:World} {a3:Option Addr} {n3 c3:Nat} (d':Bool) {acc3:List ByteArray},Ext w' w1→n3≤j+1→(d'=false→n3≤j)→Own 9 1 aDb w1 a3 n3 c3 acc3→(∀k,obk a3 c3=some k→w'.heap.size≤k)→
      (if d'=true then(acc3++[y])++out.drop (j+1)else(acc3++[y])++wX x.name (out.drop (j+1)))=wX x.name out→
      aY.j1 Q a n (j:Nat) (aY.l2 Q (some ⟨b,0,none⟩) a n (i:Nat) (aY.l1 Q (some ⟨b,0,none⟩) (m+1)) (q+1)) a3 n3 c3 d' w1:=fun{w1 a3 n3 c3} d' {acc3} e1 hn3 hnd3 ho3 hk3 hb3=>by
      unfold aY.j1;refine at_ e1 ?_;refine push (enc:=aDb) aG2 aDa (fun x=>iN rfl) (by decide) e1 ho3 hk3 (by omega) y fun _ a4 c4 w4 _ e4 ho4 hk4=>?_;rw[ew2];exact ih2 (j+1) w4 a4 (n3+1) c4 d' _ (by omega) e4 (by omega) (fun e=>by have:=hnd3 e;omega) ho4 hk4 hb3
     cases d with
     | true=>
      rw[if_pos rfl]at hb;refine jJ ?_;unfold aY.j2;exact jJ (tail true E9 hn2 (fun e=>by cases e) ho9 hk2 (by rw[if_pos rfl,List.append_assoc];exact hb))
     | false=>
      have hnd:=hnd rfl;rw[if_neg (by decide)]at hb;rw[show wX x.name (y::out.drop (j+1))=if iO x.name y=true then x.name::y::out.drop (j+1)else y::wX x.name (out.drop (j+1))from rfl]at hb;refine jM (name (E.ext E9) (at_ E9 ?_));unfold aY.j2;refine ifb ?_;split
      ·rename_i c;rw[if_pos c]at hb;refine name (E.ext E9) ?_;refine push (enc:=aDb) aG2 aDa (fun x=>iN rfl) (by decide) E9 ho9 hk2 (by omega) x.name fun _ a3 c3 w3 _ e3 ho3 hk3=>?_;exact tail true e3 (by omega) (fun e=>by cases e) ho3 hk3 (by rw[if_pos rfl,←hb];simp)
      ·rename_i c;rw[if_neg c]at hb;exact tail false E9 hn2 (fun _=>hnd) ho9 hk2 (by rw[if_neg (by decide),List.append_assoc];exact hb)
   exact key2 n 0 w' none 0 0 false [] (by omega) (er w') (by omega) (fun _=>Nat.le_refl _) Own.nil (fun k hk=>by cases hk) rfl
 exact key s.un 0 w none 0 0 [] (by omega) (er w) (Nat.le_refl _) Own.nil (fun k hk=>by cases hk) rfl
end
end Go.Proofs.YtcbijkakoepglaaGreat
namespace Go.Proofs.YtcbijkakoepglaaGreat
open Go Go.Wx
set_option maxRecDepth 100000
def iV.l1(Q:Option Addr→Nat→Nat→World→Prop)(until_:Int)(r1:Option Addr):Nat→Option Addr→Nat→Nat→Int→World→Prop
 | 0,_,_,_,_,_=>False
 | nl1+1,v1_a,v1_n,v1_c,v2,w3=>(
 Ifb (decide (v2≥0))
 (NN r1 fun p1=>
 dU w3 (Addr.add p1 4) fun x1_a x1_n x1_c=>
 Ix x1_a x1_n v2 fun p2=>
 LdT TLot.enc w3 (Addr.add p2 (v2.toNat*10)) fun x2=>
 Al w3 (.cells #[vi x2.Id,vi x2.Thing,vi x2.Layer,vi x2.Day,vi x2.Due,vs x2.Unit,vi x2.N,vi x2.Left,vu x2.State,vi x2.Bag] 45) fun b1 w4=>
 Ap Pg w4 #[46,46] 46 (vl v1_a v1_n v1_c) (vl (some ⟨b1,0,none⟩) 1 1) fun a1_a a1_n a1_c w5=>
 NN r1 fun p3=>
 dU w5 (Addr.add p3 4) fun x3_a x3_n x3_c=>
 Ix x3_a x3_n v2 fun p4=>
 St w5 (Addr.add (Addr.add p4 (v2.toNat*10)) 8) ([vu 3]) fun w6=>
 Cl Pg 120 #[vP r1,vi until_] w6 (fun v w7=>∃r3,v=vi r3∧(iV.l1 Q until_ r1 nl1) a1_a a1_n a1_c r3 w7))
 (Q v1_a v1_n v1_c w3))
def iV.R(Q:Option Addr→Nat→Nat→World→Prop)(l:Option Addr)(until_:Int)(w:World):Prop:=(
 Cl Pg 119 #[vP l] w (fun v w1=>∃r1,v=vP r1∧Cl Pg 120 #[vP r1,vi until_] w1 (fun v w2=>∃r2,v=vi r2∧∃k,iV.l1 Q until_ r1 k none 0 0 r2 w2)))
theorem iV.ok{Q:Option Addr→Nat→Nat→World→Prop}{l:Option Addr}{until_:Int}{w:World}(h:iV.R Q l until_ w):Cl Pg 59 #[vP l,vi until_] w (fun v w'=>∃r0a r0n r0c,v=vl r0a r0n r0c∧Q r0a r0n r0c w'):=by
 refine aI (args:=[vP l,vi until_]) Tryz.func59 ?_
 unfold iV.R at h
 refine aC<|zp 1<|aD<|aC<|zp 1<|zk h ?_
 rintro _ w1 ⟨r1,rfl,h⟩
 refine zp 1<|aD<|aC<|zp 1<|aD<|aC<|zp 2<|zk h ?_
 rintro _ w2 ⟨r2,rfl,h⟩
 refine zp 1<|aD<|aL<|aR ?_
 obtain⟨nl1,h⟩:=h
 refine bS (fun k e w3=>∃(e0:Env) (v1_a:Option Addr) (v1_n:Nat) (v1_c:Nat) (v2:Int),e=upds e0 [(1,vi until_),(5,vP r1),(6,vl v1_a v1_n v1_c),(7,vi v2)]∧iV.l1 Q until_ r1 k v1_a v1_n v1_c v2 w3) nl1 ?_ ?_ ?_
 rintro _ _ ⟨_,_,_,_,_,_,h⟩
 exact h
 exact⟨_,none,0,0,r2,ag,h⟩
 clear h nl1
 rintro nl1 _ w3 ⟨e0,v1_a,v1_n,v1_c,v2,rfl,h⟩
 unfold iV.l1 at h
 refine aL<|aC<|zp 2<|aD<|zc h (fun h=>?_) fun h=>?_
 refine aJ<|aR<|aC<|zp 2<|zo h fun p1 h=>zp 1<|zr iU h fun x1_a x1_n x1_c hx1 h=>zp 1<|zi dX h fun p2 h=>?_
 obtain⟨x2,hx2,h⟩:=h
 refine zn jU hx2<|zv 1 h fun b1 w4 _ _ _ h=>za h ?_
 rintro a1_a a1_n a1_c w5 h
 refine zp 1<|aD<|aC<|zp 1<|zo h fun p3 h=>zp 1<|zr iU h fun x3_a x3_n x3_c hx3 h=>zp 1<|zi dX h fun p4 h=>zp 1<|zu tk5 h ?_
 rintro w6 h
 refine aD<|aW<|zp 2<|zk h ?_
 rintro _ w7 ⟨r3,rfl,h⟩
 exact zp 1<|aD<|aG<|⟨_,a1_a,a1_n,a1_c,r3,ag,h⟩
 exact dE<|aU<|aC<|zp 2<|aD<|aN<|z1 ⟨_,_,_,rfl,h⟩
end Go.Proofs.YtcbijkakoepglaaGreat
namespace Go.Proofs.YtcbijkakoepglaaGreat
open Go Go.Wx
section
variable {w : World} {b k : Nat} {M : MState}
theorem aAI(hR:RIs w b k M)(hP:PO M)(hU:UP M)(hp:M.postings.length≤100000)(hu:M.units.length≤100000){a:TAccount}{day:Int}{Q:Option Addr→Nat→Nat→World→Prop}
 (hQ:∀a2 n c w',Own 58 2 TAmount.enc w' a2 n c (M.balances a day)→(∀k,obk a2 c=some k→w.heap.size≤k)→Ext w w'→Q a2 n c w'):Cl Pg 60 #[vP (some ⟨b,0,none⟩),vg [vu a.Kind,vi a.Id],vi day] w (fun v w'=>∃a n c,v=vl a n c∧Q a n c w'):=by
 have hR':=hR;obtain⟨s,us,vals,ts,h,hr,hv⟩:=hR';have hul:us.length=M.units.length:=by have:=congrArg List.length hr.names;simpa using this
 refine dW.ok (a:=a) (bW (er w) fun b1 w1 hb1 hat1 E1 _ _=>aFq (h.ext E1) (by omega) fun ra rn rc w2 hra hka E2=>⟨E2.blk _ hat1.lt id,rn+1,?_⟩);have E12:=E1.ext E2;have hat2:=hat1.ext E2;have hll:=aAA us [];have hra1:=hra.1;rw[←aDG hP hU hr.names hr.nd a day]at hQ;generalize oU [] us=L at*;rw[List.length_nil]at hll
 have key:∀m i w' a2 n c,i+m=rn→Ext w2 w'→n≤i→Own 58 2 TAmount.enc w' a2 n c (((L.take i).filter fun u=>M.balance a u day !=0).map fun u=>⟨u,M.balance a u day⟩)→(∀k,obk a2 c=some k→w2.heap.size≤k)→dW.l1 Q (some ⟨b,0,none⟩) a day b1 ra rn (m+1) a2 n c (i:Nat) w':=by
  intro m;induction m with
  | zero=>
   intro i w' a2 n c hi E hni ho hk;unfold dW.l1;rw[List.take_of_length_le (by omega)]at ho;exact dK (by omega) (hQ _ _ _ _ ho (fun k h=>Nat.le_trans E12.size (hk k h)) (E12.ext E))
  | succ m ih=>
   intro i w' a2 n c hi E hni ho hk;unfold dW.l1;obtain⟨y,hy⟩:∃y,L[i]? =some y:=⟨_,List.getElem?_eq_getElem (by omega)⟩;have htk:((L.take (i+1)).filter fun u=>M.balance a u day !=0).map (fun u=>(⟨u,M.balance a u day⟩:TAmount))=((L.take i).filter fun u=>M.balance a u day !=0).map (fun u=>⟨u,M.balance a u day⟩)++if(M.balance a y day !=0)=true then [⟨y,M.balance a y day⟩]else []:=by
    rw[mD hy,List.filter_append,List.map_append];congr 1;simp only[List.filter_cons,List.filter_nil];split<;>rfl
   have ew:IntKind.wrap .i64 (((i:Nat):Int)+1)=((i+1:Nat):Int):=nG (by omega);have at_:∀{w1:World} {K:ByteArray→Prop},Ext w2 w1→K y→Ix ra rn (i:Nat) fun p1=>LdS w1 (Addr.add p1 (((i:Nat):Int).toNat*1)) K:=fun{w1 K} E1 hK=>
    (hra.ext E1).rix aDa hy fun a0 _ hc=>⟨_,by rw[Int.toNat_natCast];exact rd0 hc rfl,hK⟩
   refine dQ (by omega) (iS E fun w4 E4 e4=>at_ E4 (aBD (hR.ext (E12.ext E4)) hP hp fun w5 e5=>⟨e5.blk _ (hat2.ext E4).lt id,ifb ?_⟩));have E5:=E4.ext e5;have ho5:=(ho.ext e4).ext e5;rw[ew];split
   ·rename_i c0;rw[if_pos c0]at htk;refine at_ E5 (push (enc:=TAmount.enc) aF9 lS (fun x=>iN rfl) (by decide) E5 ho5 hk (by omega) ⟨y,M.balance a y day⟩ fun w6 a3 c3 w7 kp E7 ho7 hk7=>⟨kp _ hat2.lt,?_⟩);exact ih (i+1) w7 a3 (n+1) c3 (by omega) E7 (by omega) (by rw[htk];exact ho7) hk7
   ·rename_i c0;rw[if_neg c0,List.append_nil]at htk;exact ih (i+1) w5 a2 n c (by omega) E5 (by omega) (by rw[htk];exact ho5) hk
 exact key rn 0 w2 none 0 0 (by omega) (er w2) (Nat.le_refl _) Own.nil fun k hk=>by cases hk
theorem aFp(hR:RIs w b k M)(hP:PO M)(hU:UP M)(hp:M.postings.length≤100000)(hu:M.units.length≤100000)(hk:k≤1000000){a:TAccount}{day:Int}{Q:Int→World→Prop}
 (hQ:∀w',Ext w w'→Q (M.worth a day) w'):Cl Pg 58 #[vP (some ⟨b,0,none⟩),vg [vu a.Kind,vi a.Id],vi day] w (fun v w'=>∃r,v=vi r∧Q r w'):=by
 have hR':=hR;obtain⟨s,us,vals,ts,h,hr,hv⟩:=hR';refine iB.ok (a:=a) (bW (er w) fun b1 w1 hb1 hat1 E1 _ _=>aAI (hR.ext E1) hP hU hp hu fun ra rn rc w2 hra hka E2=>⟨rn+1,?_⟩);have E12:=E1.ext E2;have hl:=hra.1;have hbl:=vB M a day;unfold MState.worth at hQ;generalize M.balances a day=L at*;generalize hS:rU M day 0 L=S at hQ;have key:∀m i w' v,i+m=rn→Ext w2 w'→rU M day v (L.drop i)=S→iB.l1 Q (some ⟨b,0,none⟩) day ra rn (m+1) v (i:Nat) w':=by
  intro m;induction m with
  | zero=>
   intro i w' v hi E hb;unfold iB.l1;rw[List.drop_of_length_le (by omega)]at hb;exact dK (by omega) (by rw[show v=_ from hb];exact hQ w' (E12.ext E))
  | succ m ih=>
   intro i w' v hi E hb;unfold iB.l1;obtain⟨y,hy⟩:∃y,L[i]? =some y:=⟨_,List.getElem?_eq_getElem (by omega)⟩;obtain⟨hyl,hy'⟩:=List.getElem?_eq_some_iff.1 hy;rw[List.drop_eq_getElem_cons hyl,hy']at hb;unfold rU at hb;rw[nG (i:=i) (by omega)];refine dQ (by omega) ((hra.ext E).rix lS hy fun a0 _ hc=>⟨_,by rw[Int.toNat_natCast];exact rd0 hc rfl,xY (h.ext (E12.ext E)) (by omega) ((hra.ext E).rix lS hy fun a1 _ hc1=>⟨_,by rw[Int.toNat_natCast];exact hc1.at 1 rfl,?_⟩)⟩);rw[hr.value]
   exact ih (i+1) w' _ (by omega) E hb
 exact key rn 0 w2 0 (by omega) (er w2) hS
theorem rdue_c(hR:RIs w b k M)(hI:IdOk M)(hlt:M.lots.length≤100000)(hp:M.postings.length≤100000)(hu:M.units.length≤100000)(ht:M.terms.length≤100000)(hk:k≤1000000){day:Int}{Q:Option Addr→Nat→Nat→World→Prop}
 (hQ:∀a n c w',Own 45 10 TLot.enc w' a n c (M.due day)→(∀k,obk a c=some k→w.heap.size≤k)→Ext w w'→Q a n c w'):Cl Pg 59 #[vP (some ⟨b,0,none⟩),vi day] w (fun v w'=>∃a n c,v=vl a n c∧Q a n c w'):=by
 obtain⟨s,us,vals,ts,h,hr,hv⟩:=hR;have hul:us.length=M.units.length:=by have:=congrArg List.length hr.names;simpa using this
 have htl:ts.length=M.terms.length:=by have:=congrArg List.length hr.terms;simpa using this
 have hdl:(M.due day).length≤100000:=by rw[M.due_len];exact Nat.le_trans (List.length_filter_le _ _) hlt
 refine iV.ok (aEW h (by omega) (by omega) (by omega) (by omega) (by omega) fun w1 bc sc hc hN E1=>rR hc (by omega) fun r w2 hf E2=>⟨(M.due day).length+1,?_⟩);have key:∀m w' A r a n c acc,RLed w' bc sc us vals ts A→Ext w w'→IsFirst (oC day) A.lots r→IdOk A→A.lots.length=M.lots.length→(A.due day).length=m→acc++A.due day=M.due day→Own 45 10 TLot.enc w' a n c acc→(∀k,obk a c=some k→w.heap.size≤k∧¬(k=bc∨sc.own k))→
  iV.l1 Q day (some ⟨bc,0,none⟩) (m+1) a n c r w':=by
  intro m;induction m with
  | zero=>
   intro w' A r a n c acc hA E hf hIA hlen hm hacc ho hd;unfold iV.l1;have h0:A.due day=[]:=List.eq_nil_of_length_eq_zero hm;rcases hf.head hIA with⟨h1,_⟩ | ⟨i,x,h1,h2,h3,h4⟩
   ·rw[h0,List.append_nil]at hacc;exact dK (by omega) (hQ a n c w' (by rw[←hacc];exact ho) (fun k h=>(hd k h).1) E)
   ·have:=h4 {x with State:=3} rfl rfl;unfold MState.due at h0;rw[h0]at this;cases this
  | succ m ih=>
   intro w' A r a n c acc hA E hf hIA hlen hm hacc ho hd;unfold iV.l1;rcases hf.head hIA with⟨h1,h0⟩ | ⟨i,x,h1,h2,h3,h4⟩
   ·unfold MState.due at hm;rw[h0]at hm;cases hm
   subst h1;have h5:A.due day=x::(A.setLot i {x with State:=3}).due day:=h4 {x with State:=3} rfl rfl;have hnl:n≤100000:=by
    have h6:=congrArg List.length hacc;rw[List.length_append]at h6;have:=ho.1;omega
   refine dQ (by omega) ⟨_,rfl,_,_,_,hA.cells.at 4 rfl,jY hA h2 fun a0 _ hc=>⟨x,by rw[Int.toNat_natCast];exact hc,?_⟩⟩;refine bW E fun b1 w4 hb1 hat1 E4 e4 _=>jT aBa iQ (fun x=>iN rfl) (ho.ext e4) (Rd.one (enc:=TLot.enc) (sz:=10) x hat1) (by omega) (by simp only[maxLen];omega) fun a2 c2 w5 ho5 F5 hb5=>?_;have hA4:=hA.ext e4;have hA5:=hA4.frm F5 (fun e=>(hd _ e).2 (.inl rfl)) fun k hk e=>(hd k e).2 (.inr hk);have E5:Ext w w5:=Frm.trans E4 F5 fun k hk' e=>by have:=(hd k e).1;omega
   have hd5:∀k,obk a2 c2=some k→w.heap.size≤k∧¬(k=bc∨sc.own k):=fun k hk=>(hb5 k hk).elim (hd k) fun hge=>⟨Nat.le_trans E4.size hge,fun e=>by
    rcases e with e | e
    ·have:=hA4.blk.lt;omega
    ·have:=hA4.lt k e;omega⟩
   refine⟨_,rfl,_,_,_,hA5.cells.at 4 rfl,jY hA5 h2 fun a3 ha3 _=>?_⟩;rw[Int.toNat_natCast];refine pS hA5 {x with State:=3} h2 (by simp) aEA ha3 fun w6 hA6 st6=>rR hA6 (by simp[MState.setLot];omega) fun r7 w7 hf7 e7=>?_;have E6:Ext w w6:=Frm.trans E5 st6.frm fun k hk hs=>hs.elim (fun e=>by have:=hN.b;omega) fun ho=>by have:=hN.own k ho;omega
   refine ih w7 _ r7 a2 (n+1) c2 (acc++[x]) (hA6.ext e7) (E6.ext e7) hf7 (hIA.setLot h2 rfl) (by simp[MState.setLot];exact hlen) ?_ ?_ ((ho5.frm st6.frm fun k hk hs=>(hd5 k hk).2 hs).ext e7) hd5
   ·rw[h5]at hm;simpa using hm
   ·rw[←hacc,h5,List.append_assoc];rfl
 exact key _ w2 M r none 0 0 [] (hc.ext E2) (E1.ext E2) hf hI rfl rfl rfl Own.nil fun k hk=>by cases hk
end
end Go.Proofs.YtcbijkakoepglaaGreat
namespace Go.Proofs.YtcbijkakoepglaaGreat
open Go Go.Wx
set_option maxRecDepth 100000
def fS.l1(Q:Option Addr→Nat→Nat→World→Prop)(l:Option Addr)(day:Int):Nat→Option Addr→Nat→Nat→Int→World→Prop
 | 0,_,_,_,_,_=>False
 | nl1+1,v1_a,v1_n,v1_c,v2,w1=>(
 NN l fun p1=>
 dU w1 (Addr.add p1 5) fun x1_a x1_n x1_c=>
 Ifb (decide (v2<((x1_n:Nat):Int)))
 (NN l fun p2=>
 dU w1 (Addr.add p2 5) fun x2_a x2_n x2_c=>
 Ix x2_a x2_n v2 fun p3=>
 LdT TPosting.enc w1 (Addr.add p3 (v2.toNat*9)) fun x3=>
 Al w1 (.cells #[vi 0,vs (ByteArray.mk #[]),vi 0,vu 0,vi 0,vu 0,vi 0,vu 0,vi 0] 42) fun b1 w2=>
 Sb w2 b1 (.cells #[vi x3.Day,vs x3.Unit,vi x3.N,vu x3.From_Kind,vi x3.From_Id,vu x3.To_Kind,vi x3.To_Id,vu x3.Why,vi x3.Lot] 42 (0,0)) fun w3=>
 Ifb (decide (x3.Day≤day))
 (Cl Pg 72 #[vl v1_a v1_n v1_c,vg [vu x3.From_Kind,vi x3.From_Id],vs x3.Unit,vi (IntKind.wrap .i64 (0-x3.N))] w3 (fun v w4=>∃r1_a r1_n r1_c,v=vl r1_a r1_n r1_c∧Kp b1 w3 w4∧Cl Pg 72 #[vl r1_a r1_n r1_c,vg [vu x3.To_Kind,vi x3.To_Id],vs x3.Unit,vi x3.N] w4 (fun v w5=>∃r2_a r2_n r2_c,v=vl r2_a r2_n r2_c∧(fS.l1 Q l day nl1) r2_a r2_n r2_c (IntKind.wrap .i64 (v2+1)) w5)))
 ((fS.l1 Q l day nl1) v1_a v1_n v1_c (IntKind.wrap .i64 (v2+1)) w3))
 (Cl Pg 74 #[vl v1_a v1_n v1_c] w1 (fun v w6=>∃r3_a r3_n r3_c,v=vl r3_a r3_n r3_c∧Q r3_a r3_n r3_c w6)))
def fS.R(Q:Option Addr→Nat→Nat→World→Prop)(l:Option Addr)(day:Int)(w:World):Prop:=(
 ∃k,fS.l1 Q l day k none 0 0 0 w)
theorem fS.ok{Q:Option Addr→Nat→Nat→World→Prop}{l:Option Addr}{day:Int}{w:World}(h:fS.R Q l day w):Cl Pg 61 #[vP l,vi day] w (fun v w'=>∃r0a r0n r0c,v=vl r0a r0n r0c∧Q r0a r0n r0c w'):=by
 refine aI (args:=[vP l,vi day]) Tryz.func61 ?_
 unfold fS.R at h
 refine aC<|zp 1<|aD<|aC<|zp 1<|aD<|aL<|aC<|zp 1<|aD<|aR ?_
 obtain⟨nl1,h⟩:=h
 refine bS (fun k e w1=>∃(e0:Env) (v1_a:Option Addr) (v1_n:Nat) (v1_c:Nat) (v2:Int),e=upds e0 [(0,vP l),(1,vi day),(5,vl v1_a v1_n v1_c),(6,vi v2)]∧fS.l1 Q l day k v1_a v1_n v1_c v2 w1) nl1 ?_ ?_ ?_
 rintro _ _ ⟨_,_,_,_,_,_,h⟩
 exact h
 exact⟨_,none,0,0,0,ag,h⟩
 clear h nl1
 rintro nl1 _ w1 ⟨e0,v1_a,v1_n,v1_c,v2,rfl,h⟩
 unfold fS.l1 at h
 refine aL<|aC<|zp 2<|zo h fun p1 h=>zp 1<|zr sT h fun x1_a x1_n x1_c hx1 h=>zp 2<|aD<|zc h (fun h=>?_) fun h=>?_
 refine aJ<|aL<|aR<|aC<|zp 1<|zo h fun p2 h=>zp 1<|zr sT h fun x2_a x2_n x2_c hx2 h=>zp 1<|zi aAw h fun p3 h=>?_
 obtain⟨x3,hx3,h⟩:=h
 refine zn aAV hx3<|zq h fun b1 w2 _ _ q1 h=>zt aAV q1 h fun w3 ew q h=>?_
 replace q1:=q
 refine aD<|aC<|zp 1<|zb tk3 q1<|zp 2<|aD<|zc h (fun h=>?_) fun h=>?_
 refine aC<|zp 2<|zm j8 q1<|zp 1<|zb tk9 q1<|zp 1<|zb tk3 q1<|zp 1<|zk h ?_
 rintro _ w4 ⟨r1_a,r1_n,r1_c,rfl,hk0,h⟩
 replace q1:=bG hk0 q1
 refine zp 1<|aD<|aW<|zp 2<|zm j8 q1<|zp 1<|zb tk9 q1<|zp 1<|zb tk3 q1<|zk h ?_
 rintro _ w5 ⟨r2_a,r2_n,r2_c,rfl,h⟩
 exact zp 1<|aD<|aG<|aW<|zp 3<|aD<|⟨_,r2_a,r2_n,r2_c,IntKind.wrap .i64 (v2+1),ag,h⟩
 exact aJ<|aG<|aW<|zp 3<|aD<|⟨_,v1_a,v1_n,v1_c,IntKind.wrap .i64 (v2+1),ag,h⟩
 refine dE<|aU<|aC<|zp 1<|zk h ?_
 rintro _ w6 ⟨r3_a,r3_n,r3_c,rfl,h⟩
 exact zp 1<|aD<|aN<|z1 ⟨_,_,_,rfl,h⟩
def aS.j3(Q:Option Addr→Nat→Nat→World→Prop)(from_:Int)(until_:Int)(b1:Nat)(v1_a:Option Addr)(v1_n:Nat)(v1_c:Nat)(v3:Int)(kl1:Option Addr→Nat→Nat→Int→Int→World→Prop)(x3:TPosting)(v6:Int)(w7:World):Prop:=(
 Ifb ((decide (x3.Day≥from_))&&(decide (x3.Day≤until_)))
 (Al w7 (.cells #[vi v3,vi v6] 97) fun b3 w8=>
 Ap Pg w8 #[94,94] 94 (vl v1_a v1_n v1_c) (vl (some ⟨b3,0,none⟩) 1 1) fun a1_a a1_n a1_c w9=>
 Kp b1 w8 w9∧kl1 a1_a a1_n a1_c v6 (IntKind.wrap .i64 (v3+1)) w9)
 (kl1 v1_a v1_n v1_c v6 (IntKind.wrap .i64 (v3+1)) w7))
def aS.j2(Q:Option Addr→Nat→Nat→World→Prop)(a:TAccount)(from_:Int)(until_:Int)(b1:Nat)(v1_a:Option Addr)(v1_n:Nat)(v1_c:Nat)(v3:Int)(kl1:Option Addr→Nat→Nat→Int→Int→World→Prop)(x3:TPosting)(v5:Int)(w6:World):Prop:=(
 Ifb ((x3.From_Kind==a.Kind)&&((x3.From_Id==a.Id)&&true))
 (aS.j3 Q from_ until_ b1 v1_a v1_n v1_c v3 kl1 x3 (IntKind.wrap .i64 (v5-x3.N)) w6)
 (aS.j3 Q from_ until_ b1 v1_a v1_n v1_c v3 kl1 x3 v5 w6))
def aS.j1(Q:Option Addr→Nat→Nat→World→Prop)(a:TAccount)(from_:Int)(until_:Int)(b1:Nat)(v1_a:Option Addr)(v1_n:Nat)(v1_c:Nat)(v2:Int)(v3:Int)(kl1:Option Addr→Nat→Nat→Int→Int→World→Prop)(x3:TPosting)(v4:Bool)(w5:World):Prop:=(
 Ifb v4
 (kl1 v1_a v1_n v1_c v2 (IntKind.wrap .i64 (v3+1)) w5)
 (Ifb ((x3.To_Kind==a.Kind)&&((x3.To_Id==a.Id)&&true))
 (aS.j2 Q a from_ until_ b1 v1_a v1_n v1_c v3 kl1 x3 (IntKind.wrap .i64 (v2+x3.N)) w5)
 (aS.j2 Q a from_ until_ b1 v1_a v1_n v1_c v3 kl1 x3 v2 w5)))
def aS.l1(Q:Option Addr→Nat→Nat→World→Prop)(l:Option Addr)(a:TAccount)(unit:ByteArray)(from_:Int)(until_:Int)(b1:Nat):Nat→Option Addr→Nat→Nat→Int→Int→World→Prop
 | 0,_,_,_,_,_,_=>False
 | nl1+1,v1_a,v1_n,v1_c,v2,v3,w2=>(
 NN l fun p1=>
 dU w2 (Addr.add p1 5) fun x1_a x1_n x1_c=>
 Ifb (decide (v3<((x1_n:Nat):Int)))
 (NN l fun p2=>
 dU w2 (Addr.add p2 5) fun x2_a x2_n x2_c=>
 Ix x2_a x2_n v3 fun p3=>
 LdT TPosting.enc w2 (Addr.add p3 (v3.toNat*9)) fun x3=>
 Al w2 (.cells #[vi 0,vs (ByteArray.mk #[]),vi 0,vu 0,vi 0,vu 0,vi 0,vu 0,vi 0] 42) fun b2 w3=>
 Sb w3 b2 (.cells #[vi x3.Day,vs x3.Unit,vi x3.N,vu x3.From_Kind,vi x3.From_Id,vu x3.To_Kind,vi x3.To_Id,vu x3.Why,vi x3.Lot] 42 (0,0)) fun w4=>
 Ifb (!dF x3.Unit unit)
 (aS.j1 Q a from_ until_ b1 v1_a v1_n v1_c v2 v3 (aS.l1 Q l a unit from_ until_ b1 nl1) x3 true w4)
 (Ifb (!((x3.From_Kind==a.Kind)&&((x3.From_Id==a.Id)&&true)))
 (aS.j1 Q a from_ until_ b1 v1_a v1_n v1_c v2 v3 (aS.l1 Q l a unit from_ until_ b1 nl1) x3 (!((x3.To_Kind==a.Kind)&&((x3.To_Id==a.Id)&&true))) w4)
 (aS.j1 Q a from_ until_ b1 v1_a v1_n v1_c v2 v3 (aS.l1 Q l a unit from_ until_ b1 nl1) x3 false w4)))
 (Q v1_a v1_n v1_c w2))
def aS.R(Q:Option Addr→Nat→Nat→World→Prop)(l:Option Addr)(a:TAccount)(unit:ByteArray)(from_:Int)(until_:Int)(w:World):Prop:=(
 Al w (.cells #[vu a.Kind,vi a.Id] 40) fun b1 w1=>
 ∃k,aS.l1 Q l a unit from_ until_ b1 k none 0 0 0 0 w1)
theorem aS.ok{Q:Option Addr→Nat→Nat→World→Prop}{l:Option Addr}{a:TAccount}{unit:ByteArray}{from_:Int}{until_:Int}{w:World}(h:aS.R Q l a unit from_ until_ w):Cl Pg 63 #[vP l,vg (TAccount.enc a),vs unit,vi from_,vi until_] w (fun v w'=>∃r0a r0n r0c,v=vl r0a r0n r0c∧Q r0a r0n r0c w'):=by
 refine aI (args:=[vP l,vg (TAccount.enc a),vs unit,vi from_,vi until_]) Tryz.func63 ?_
 unfold aS.R at h
 refine aC<|zq h fun b1 w1 _ _ q1 h=>zp 1<|aD<|aC<|zp 1<|aD<|aC<|zp 1<|aD<|aL<|aC<|zp 1<|aD<|aR ?_
 obtain⟨nl1,h⟩:=h
 refine bS (fun k e w2=>∃(e0:Env) (v1_a:Option Addr) (v1_n:Nat) (v1_c:Nat) (v2:Int) (v3:Int),e=upds e0 [(0,vP l),(2,vs unit),(3,vi from_),(4,vi until_),(6,vp ⟨b1,0,none⟩),(11,vl v1_a v1_n v1_c),(12,vi v2),(13,vi v3)]∧w2.heap[b1]? =some (.cells #[vu a.Kind,vi a.Id] 40 (0,0))∧aS.l1 Q l a unit from_ until_ b1 k v1_a v1_n v1_c v2 v3 w2) nl1 ?_ ?_ ?_
 rintro _ _ ⟨_,_,_,_,_,_,_,_,h⟩
 exact h
 exact⟨_,none,0,0,0,0,ag,q1,h⟩
 clear h nl1 q1
 rintro nl1 _ w2 ⟨e0,v1_a,v1_n,v1_c,v2,v3,rfl,q1,h⟩
 unfold aS.l1 at h
 refine aL<|aC<|zp 2<|zo h fun p1 h=>zp 1<|zr sT h fun x1_a x1_n x1_c hx1 h=>zp 2<|aD<|zc h (fun h=>?_) fun h=>?_
 refine aJ<|aL<|aR<|aC<|zp 1<|zo h fun p2 h=>zp 1<|zr sT h fun x2_a x2_n x2_c hx2 h=>zp 1<|zi aAw h fun p3 h=>?_
 obtain⟨x3,hx3,h⟩:=h
 refine zn aAV hx3<|zq h fun b2 w3 eb ew q2 h=>?_
 have o1:=q1
 replace q1:=fQ ew q1
 have n1_2:b1≠b2:=lR o1 eb
 clear o1
 clear eb ew
 refine zt aAV q2 h fun w4 ew q h=>?_
 replace q1:=dC ew n1_2 q1
 replace q2:=q
 refine aD<|aL<|fD (fun e w5=>∃(e0:Env) (v4:Bool),e=upds e0 [(0,vP l),(2,vs unit),(3,vi from_),(4,vi until_),(6,vp ⟨b1,0,none⟩),(11,vl v1_a v1_n v1_c),(12,vi v2),(13,vi v3),(14,vp ⟨b2,0,none⟩),(46,vb v4)]∧w5.heap[b1]? =some (.cells #[vu a.Kind,vi a.Id] 40 (0,0))∧w5.heap[b2]? =some (.cells #[vi x3.Day,vs x3.Unit,vi x3.N,vu x3.From_Kind,vi x3.From_Id,vu x3.To_Kind,vi x3.To_Id,vu x3.Why,vi x3.Lot] 42 (0,0))∧b1≠b2∧aS.j1 Q a from_ until_ b1 v1_a v1_n v1_c v2 v3 (aS.l1 Q l a unit from_ until_ b1 nl1) x3 v4 w5) ?_ ?_
 refine aW<|zp 1<|zb tk9 q2<|zp 3<|zs 35 h (fun h=>?_) fun h=>?_
 exact zp 11<|aD<|⟨_,true,ag,q1,q2,n1_2,h⟩
 refine zp 1<|zm j8 q2<|zm j8 q1<|wG rfl rfl (v:=vb (!((x3.From_Kind==a.Kind)&&((x3.From_Id==a.Id)&&true)))) (sB (by kernel_rfl) (fun w=>tL (d:=9998)) rfl rfl rfl)<|zp 1<|zs 40 h (fun h=>?_) fun h=>?_
 exact zp 1<|zm j8 q2<|zm j8 q1<|wG rfl rfl (v:=vb (!((x3.To_Kind==a.Kind)&&((x3.To_Id==a.Id)&&true)))) (sB (by kernel_rfl) (fun w=>tL (d:=9998)) rfl rfl rfl)<|zp 2<|aD<|⟨_,(!((x3.To_Kind==a.Kind)&&((x3.To_Id==a.Id)&&true))),ag,q1,q2,n1_2,h⟩
 exact zp 6<|aD<|⟨_,false,ag,q1,q2,n1_2,h⟩
 clear h q1 q2 n1_2
 rintro _ w5 ⟨e0,v4,rfl,q1,q2,n1_2,h⟩
 unfold aS.j1 at h
 refine zc h (fun h=>?_) fun h=>?_
 exact dE<|aU<|aW<|zp 3<|aD<|⟨_,v1_a,v1_n,v1_c,v2,IntKind.wrap .i64 (v3+1),ag,q1,h⟩
 refine aJ<|fD (fun e w6=>∃(e0:Env) (v5:Int),e=upds e0 [(0,vP l),(2,vs unit),(3,vi from_),(4,vi until_),(6,vp ⟨b1,0,none⟩),(11,vl v1_a v1_n v1_c),(12,vi v5),(13,vi v3),(14,vp ⟨b2,0,none⟩)]∧w6.heap[b1]? =some (.cells #[vu a.Kind,vi a.Id] 40 (0,0))∧w6.heap[b2]? =some (.cells #[vi x3.Day,vs x3.Unit,vi x3.N,vu x3.From_Kind,vi x3.From_Id,vu x3.To_Kind,vi x3.To_Id,vu x3.Why,vi x3.Lot] 42 (0,0))∧b1≠b2∧aS.j2 Q a from_ until_ b1 v1_a v1_n v1_c v3 (aS.l1 Q l a unit from_ until_ b1 nl1) x3 v5 w6) ?_ ?_
 refine aC<|zp 1<|zm j8 q2<|zm j8 q1<|wG rfl rfl (v:=vb ((x3.To_Kind==a.Kind)&&((x3.To_Id==a.Id)&&true))) (rE (by kernel_rfl) (fun w=>tL (d:=9998)) rfl rfl rfl)<|aD<|zc h (fun h=>?_) fun h=>?_
 exact aW<|zp 2<|zb tk3 q2<|zp 2<|aD<|⟨_,IntKind.wrap .i64 (v2+x3.N),ag,q1,q2,n1_2,h⟩
 exact aJ<|⟨_,v2,ag,q1,q2,n1_2,h⟩
 clear h q1 q2 n1_2
 rintro _ w6 ⟨e0,v5,rfl,q1,q2,n1_2,h⟩
 unfold aS.j2 at h
 refine fD (fun e w7=>∃(e0:Env) (v6:Int),e=upds e0 [(0,vP l),(2,vs unit),(3,vi from_),(4,vi until_),(6,vp ⟨b1,0,none⟩),(11,vl v1_a v1_n v1_c),(12,vi v6),(13,vi v3),(14,vp ⟨b2,0,none⟩)]∧w7.heap[b1]? =some (.cells #[vu a.Kind,vi a.Id] 40 (0,0))∧w7.heap[b2]? =some (.cells #[vi x3.Day,vs x3.Unit,vi x3.N,vu x3.From_Kind,vi x3.From_Id,vu x3.To_Kind,vi x3.To_Id,vu x3.Why,vi x3.Lot] 42 (0,0))∧b1≠b2∧aS.j3 Q from_ until_ b1 v1_a v1_n v1_c v3 (aS.l1 Q l a unit from_ until_ b1 nl1) x3 v6 w7) ?_ ?_
 refine aC<|zp 1<|zm j8 q2<|zm j8 q1<|wG rfl rfl (v:=vb ((x3.From_Kind==a.Kind)&&((x3.From_Id==a.Id)&&true))) (rE (by kernel_rfl) (fun w=>tL (d:=9998)) rfl rfl rfl)<|aD<|zc h (fun h=>?_) fun h=>?_
 exact aW<|zp 2<|zb tk3 q2<|zp 2<|aD<|⟨_,IntKind.wrap .i64 (v5-x3.N),ag,q1,q2,n1_2,h⟩
 exact aJ<|⟨_,v5,ag,q1,q2,n1_2,h⟩
 clear h q1 q2 n1_2
 rintro _ w7 ⟨e0,v6,rfl,q1,q2,n1_2,h⟩
 unfold aS.j3 at h
 refine aC<|zp 1<|zb tk3 q2<|zp 3<|jV (fun e w_=>∃(e0:Env),e=upds e0 [(0,vP l),(2,vs unit),(3,vi from_),(4,vi until_),(6,vp ⟨b1,0,none⟩),(11,vl v1_a v1_n v1_c),(12,vi v6),(13,vi v3),(72,vb ((decide (x3.Day≥from_))&&(decide (x3.Day≤until_))))]∧w7=w_) ?_ ?_
 clear h
 refine dO 67 (b:=decide (x3.Day≥from_)) rfl (fun hb0=>?_) (fun hb0=>?_)
 refine zp 1<|zb tk3 q2<|zp 3 ?_
 rw[hb0]
 exact aD ⟨_,ag,rfl⟩
 refine zp 5 ?_
 rw[hb0]
 exact aD ⟨_,ag,rfl⟩
 rintro _ _ ⟨e0,rfl,rfl⟩
 refine zc h (fun h=>?_) fun h=>?_
 refine aW<|zp 4<|zv 1 h fun b3 w8 eb ew q3 h=>?_
 replace q1:=fQ ew q1
 clear eb ew q3
 refine za h ?_
 rintro a1_a a1_n a1_c w9 ⟨hk0,h⟩
 replace q1:=bG hk0 q1
 exact zp 1<|aD<|aG<|aW<|zp 3<|aD<|⟨_,a1_a,a1_n,a1_c,v6,IntKind.wrap .i64 (v3+1),ag,q1,h⟩
 exact aJ<|aG<|aW<|zp 3<|aD<|⟨_,v1_a,v1_n,v1_c,v6,IntKind.wrap .i64 (v3+1),ag,q1,h⟩
 exact dE<|aU<|aC<|zp 2<|aD<|aN<|z1 ⟨_,_,_,rfl,h⟩
end Go.Proofs.YtcbijkakoepglaaGreat
namespace Go.Proofs.YtcbijkakoepglaaGreat
open Go Go.Wx
section
variable {w : World} {b k : Nat} {M : MState}
theorem aFs(hR:RIs w b k M)(hP:PO M)(hp:M.postings.length≤20000){day:Int}{Q:Option Addr→Nat→Nat→World→Prop}
 (hQ:∀a n c w',Own 49 4 TTrialLine.enc w' a n c (M.trial day)→(∀k,obk a c=some k→w.heap.size≤k)→Ext w w'→Q a n c w'):Cl Pg 61 #[vP (some ⟨b,0,none⟩),vi day] w (fun v w'=>∃a n c,v=vl a n c∧Q a n c w'):=by
 obtain⟨s,us,vals,ts,h,hr,hv⟩:=hR;have hl:=h.moves.1;unfold MState.trial at hQ;generalize hS:oD day [] M.postings=S at hQ;refine fS.ok ⟨s.mn+1,?_⟩;have key:∀m i w' mp a n c,i+m=s.mn→Ext w w'→n≤2*i→(mp.Pairwise fun x y=>x.1≠y.1)→Own 49 4 TTrialLine.enc w' a n c (jF mp)→(∀k,obk a c=some k→w.heap.size≤k)→oD day mp (M.postings.drop i)=S→fS.l1 Q (some ⟨b,0,none⟩) day (m+1) a n c (i:Nat) w':=by
  intro m;induction m with
  | zero=>
   intro i w' mp a n c hi E hni hpw ho hk hb;unfold fS.l1;rw[List.drop_of_length_le (by omega)]at hb;have hb:mp=S:=hb;subst hb;refine⟨_,rfl,_,_,_,(h.ext E).cells.at 5 rfl,dK (by omega) (aFv (ho.rd qH) (by omega) fun a3 n3 c3 w2 ho3 hk3 E2=>?_)⟩;rw[aC0 hpw]at ho3;exact hQ a3 n3 c3 w2 ho3 (fun k h=>Nat.le_trans E.size (hk3 k h)) (E.ext E2)
  | succ m ih=>
   intro i w' mp a n c hi E hni hpw ho hk hb;unfold fS.l1;obtain⟨x,hx⟩:∃x,M.postings[i]? =some x:=⟨_,List.getElem?_eq_getElem (by omega)⟩;obtain⟨hxl,hx'⟩:=List.getElem?_eq_some_iff.1 hx;rw[List.drop_eq_getElem_cons hxl,hx']at hb;unfold oD at hb;have hf:=hP.fine x (List.mem_of_getElem? hx);rw[nG (i:=i) (by omega)]
   refine⟨_,rfl,_,_,_,(h.ext E).cells.at 5 rfl,dQ (by omega) ⟨_,rfl,_,_,_,(h.ext E).cells.at 5 rfl,(h.ext E).moves.rix m0 hx fun a0 _ hc=>⟨x,by rw[Int.toNat_natCast];exact hc,bW E fun b1 w2 hb1 hat1 E2 e2 _=>lW E2 hat1 hb1 fun w3 hat3 E3 f3=>ifb ?_⟩⟩⟩;have ho3:=(ho.ext e2).frm f3 fun b h e=>(ho.ext e2).neT hat1 (by simp[tyO]) (by rw[h,e]);split
   ·rename_i hd;rw[if_pos (of_decide_eq_true hd)]at hb;have h1:=wE ⟨x.From_Kind,x.From_Id,x.Unit,wr (0-x.N)⟩ (jF mp);have h4:=ho.1;refine aEw (p:=⟨x.From_Kind,x.From_Id,x.Unit⟩) (ho3.rd qH) (by omega) fun a3 n3 c3 w6 ho6 hk6 e6=>⟨e6.blk _ hat3.lt id,?_⟩;have h5:n3=(jC ⟨x.From_Kind,x.From_Id,x.Unit,wr (0-x.N)⟩ (jF mp)).length:=ho6.1;refine aEw (p:=⟨x.To_Kind,x.To_Id,x.Unit⟩) (ho6.rd qH) (by omega) fun a4 n4 c4 w7 ho7 hk7 e7=>?_;have hn4:n4≤2*(i+1):=by
     have h2:=wE ⟨x.To_Kind,x.To_Id,x.Unit,x.N⟩ (jC ⟨x.From_Kind,x.From_Id,x.Unit,wr (0-x.N)⟩ (jF mp));have h3:n4=(jC ⟨x.To_Kind,x.To_Id,x.Unit,x.N⟩ (jC ⟨x.From_Kind,x.From_Id,x.Unit,wr (0-x.N)⟩ (jF mp))).length:=ho7.1;omega
    have ho7:Own 49 4 TTrialLine.enc w7 a4 n4 c4 (jC ⟨x.To_Kind,x.To_Id,x.Unit,x.N⟩ (jC ⟨x.From_Kind,x.From_Id,x.Unit,wr (0-x.N)⟩ (jF mp))):=ho7;rw[subAdd hpw x hf]at ho7;have E6:=E3.ext e6;exact ih (i+1) w7 _ a4 n4 c4 (by omega) (E6.ext e7) hn4 (uP (uP hpw)) ho7 (fun k h=>Nat.le_trans E6.size (hk7 k h)) hb
   ·rename_i hd;rw[if_neg (fun e=>hd (decide_eq_true e))]at hb;exact ih (i+1) w3 mp a n c (by omega) E3 (by omega) hpw ho3 hk hb
 exact key s.mn 0 w [] none 0 0 (by omega) (er w) (by omega) .nil Own.nil (fun k hk=>by cases hk) hS
theorem aC6(hR:RIs w b k M)(hP:PO M)(hp:M.postings.length≤20000){a:TAccount}{unit:ByteArray}{from_ until_:Int}{Q:Option Addr→Nat→Nat→World→Prop}
 (hQ:∀a2 n c w',Own 97 2 TStatementLine.enc w' a2 n c (M.statement a unit from_ until_)→(∀k,obk a2 c=some k→w.heap.size≤k)→Ext w w'→Q a2 n c w'):
 Cl Pg 63 #[vP (some ⟨b,0,none⟩),vg [vu a.Kind,vi a.Id],vs unit,vi from_,vi until_] w (fun v w'=>∃a n c,v=vl a n c∧Q a n c w'):=by
 obtain⟨s,us,vals,ts,h,hr,hv⟩:=hR;have hl:=h.moves.1;unfold MState.statement at hQ;generalize hS:sD a unit from_ until_ 0 0 M.postings=S at hQ;refine aS.ok (a:=a) (bW (er w) fun b1 w1 hb1 hat1 E1 _ _=>⟨s.mn+1,?_⟩);have key:∀m i w' v a2 n c acc,i+m=s.mn→Ext w1 w'→n≤i→Own 97 2 TStatementLine.enc w' a2 n c acc→(∀k,obk a2 c=some k→w1.heap.size≤k)→acc++sD a unit from_ until_ v (i:Nat) (M.postings.drop i)=S→
  aS.l1 Q (some ⟨b,0,none⟩) a unit from_ until_ b1 (m+1) a2 n c v (i:Nat) w':=by
  intro m;induction m with
  | zero=>
   intro i w' v a2 n c acc hi E hni ho hk hb;unfold aS.l1;rw[List.drop_of_length_le (by omega)]at hb;have hb:acc++[]=S:=hb;rw[List.append_nil]at hb;subst hb;exact⟨_,rfl,_,_,_,(h.ext (E1.ext E)).cells.at 5 rfl,dK (by omega) (hQ a2 n c w' ho (fun k h=>Nat.le_trans E1.size (hk k h)) (E1.ext E))⟩
  | succ m ih=>
   intro i w' v a2 n c acc hi E hni ho hk hb;unfold aS.l1;obtain⟨x,hx⟩:∃x,M.postings[i]? =some x:=⟨_,List.getElem?_eq_getElem (by omega)⟩;obtain⟨hxl,hx'⟩:=List.getElem?_eq_some_iff.1 hx;rw[List.drop_eq_getElem_cons hxl,hx']at hb;unfold sD at hb;have hf:=hP.fine x (List.mem_of_getElem? hx);have ew:IntKind.wrap .i64 (((i:Nat):Int)+1)=((i+1:Nat):Int):=nG (by omega);have hi1:((i:Nat):Int)+1=((i+1:Nat):Int):=by omega
   rw[hi1]at hb;have h':=h.ext (E1.ext E);refine⟨_,rfl,_,_,_,h'.cells.at 5 rfl,dQ (by omega) ⟨_,rfl,_,_,_,h'.cells.at 5 rfl,h'.moves.rix m0 hx fun a0 _ hc=>⟨x,by rw[Int.toNat_natCast];exact hc,bW E fun b2 w2 hb2 hat2 E2 e2 _=>lW E2 hat2 hb2 fun w3 hat3 E3 f3=>?_⟩⟩⟩;have ho3:=(ho.ext e2).frm f3 fun b h e=>(ho.ext e2).neT hat2 (by simp[tyO]) (by rw[h,e])
   have j1:∀v4,v4=(!dF x.Unit unit||(!j0 a x&& !pL a x))→aS.j1 Q a from_ until_ b1 a2 n c v (i:Nat) (aS.l1 Q (some ⟨b,0,none⟩) a unit from_ until_ b1 (m+1)) x v4 w3:=fun v4 e4=>by
    unfold aS.j1;rw[ew];cases v4 with
    | true=>
     rw[←e4,if_pos rfl]at hb;exact jM (ih (i+1) w3 v a2 n c acc (by omega) E3 (by omega) ho3 hk hb)
    | false=>
     rw[←e4,if_neg (by decide)]at hb;have hs2:(!j0 a x&& !pL a x)=false:=by
      cases hq:(!j0 a x&& !pL a x)with
      | true=>rw[hq,Bool.or_true]at e4;cases e4
      | false=>rfl
     simp only at hb;rw[stmt_v2 hf v hs2]at hb;have j3:∀v6,v6=(if pL a x=true then wr (v+x.N)else wr (v-x.N))→aS.j3 Q from_ until_ b1 a2 n c (i:Nat) (aS.l1 Q (some ⟨b,0,none⟩) a unit from_ until_ b1 (m+1)) x v6 w3:=fun v6 e6=>by
      rw[←e6]at hb;unfold aS.j3;rw[ew];refine ifb ?_;split
      ·rename_i hd;rw[if_pos hd]at hb;refine push (enc:=TStatementLine.enc) ap94 aAa (fun x=>iN rfl) (by decide) E3 ho3 hk (by omega) ⟨(i:Nat),v6⟩ fun w8 a3 c3 w9 kp E9 ho9 hk9=>⟨kp _ hat1.lt,?_⟩;exact ih (i+1) w9 v6 a3 (n+1) c3 _ (by omega) E9 (by omega) ho9 hk9 (by rw[List.append_assoc];exact hb)
      ·rename_i hd;rw[if_neg hd,List.nil_append]at hb;exact ih (i+1) w3 v6 a2 n c acc (by omega) E3 (by omega) ho3 hk hb
     refine jJ (ifb ?_);split
     ·rename_i t;have t:pL a x=true:=t;unfold aS.j2;refine ifb ?_;split
      ·rename_i f;exact absurd ⟨(show j0 a x=true from f),t⟩ (aBL hf)
      ·exact j3 _ (by rw[if_pos t])
     ·rename_i t;have t:pL a x=false:=by simpa[pL]using t
      unfold aS.j2;refine ifb ?_;split
      ·exact j3 _ (by rw[t];rfl)
      ·rename_i f;have f:j0 a x=false:=by simpa[j0]using f
       rw[t,f]at hs2;cases hs2
   refine ifb ?_;split
   ·rename_i hq;exact j1 true (by rw[hq];rfl)
   rename_i hq;have hq:(!dF x.Unit unit)=false:=by simpa using hq
   refine ifb ?_;split
   ·rename_i f;have f:(!j0 a x)=true:=f;exact j1 _ (by rw[hq,f];rfl)
   ·rename_i f;have f:(!j0 a x)=false:=by simpa[j0]using f
    exact j1 false (by rw[hq,f];rfl)
 exact key s.mn 0 w1 0 none 0 0 [] (by omega) (er w1) (by omega) Own.nil (fun k hk=>by cases hk) hS
end
end Go.Proofs.YtcbijkakoepglaaGreat
namespace Go.Proofs.YtcbijkakoepglaaGreat
open Go Go.Wx
set_option maxRecDepth 100000
def bC.j3(Q:Bool→World→Prop)(a:TAccount)(unit:ByteArray)(day:Int)(until_:Int)(b1:Nat)(r2:Option Addr)(r3:Option Addr)(v3:Bool)(v4:Bool)(w11:World):Prop:=(
 Dr w11 fun w12=>
 Cl Pg 18 #[] w12 (fun v w13=>∃r5,v=vb r5∧Kp b1 w12 w13∧Ifb r5
 (Ifb v3
 (Ifb v4
 (Cl Pg 53 #[vP r2,vg [vu a.Kind,vi a.Id],vs unit,vi day,vi until_] w13 (fun v w14=>∃r6_a r6_n r6_c,v=vl r6_a r6_n r6_c∧Kp b1 w13 w14∧Cl Pg 63 #[vP r3,vg [vu a.Kind,vi a.Id],vs unit,vi day,vi until_] w14 (fun v w15=>∃r7_a r7_n r7_c,v=vl r7_a r7_n r7_c∧Cl Pg 62 #[vl r6_a r6_n r6_c,vl r7_a r7_n r7_c] w15 (fun v w16=>∃r8,v=vb r8∧Q r8 w16))))
 (Q false w13))
 (Q false w13))
 (Q false w13)))
def bC.j2(Q:Bool→World→Prop)(a:TAccount)(unit:ByteArray)(day:Int)(until_:Int)(b1:Nat)(r2:Option Addr)(r3:Option Addr)(v3:Bool)(w10:World):Prop:=(
 Dr w10 fun w17=>
 Cl Pg 32 #[vP r2,vg [vu a.Kind,vi a.Id],vi day] w17 (fun v w18=>∃r9_a r9_n r9_c,v=vl r9_a r9_n r9_c∧Kp b1 w17 w18∧Cl Pg 60 #[vP r3,vg [vu a.Kind,vi a.Id],vi day] w18 (fun v w19=>∃r10_a r10_n r10_c,v=vl r10_a r10_n r10_c∧Kp b1 w18 w19∧Cl Pg 36 #[vl r9_a r9_n r9_c,vl r10_a r10_n r10_c] w19 (fun v w20=>∃r11,v=vb r11∧Kp b1 w19 w20∧Ifb r11
 (Cl Pg 25 #[vP r2,vi day] w20 (fun v w21=>∃r12_a r12_n r12_c,v=vl r12_a r12_n r12_c∧Kp b1 w20 w21∧Cl Pg 61 #[vP r3,vi day] w21 (fun v w22=>∃r13_a r13_n r13_c,v=vl r13_a r13_n r13_c∧Kp b1 w21 w22∧Cl Pg 21 #[vl r12_a r12_n r12_c,vl r13_a r13_n r13_c] w22 (fun v w23=>∃r14,v=vb r14∧Kp b1 w22 w23∧bC.j3 Q a unit day until_ b1 r2 r3 v3 r14 w23))))
 (bC.j3 Q a unit day until_ b1 r2 r3 v3 false w20)))))
def bC.j1(Q:Bool→World→Prop)(a:TAccount)(unit:ByteArray)(day:Int)(until_:Int)(b1:Nat)(r2:Option Addr)(r3:Option Addr)(v2:Bool)(w9:World):Prop:=(
 Ifb v2
 (Q false w9)
 (Dr w9 fun w24=>
 Cl Pg 52 #[vP r2,vi until_] w24 (fun v w25=>∃r15_a r15_n r15_c,v=vl r15_a r15_n r15_c∧Kp b1 w24 w25∧Cl Pg 59 #[vP r3,vi until_] w25 (fun v w26=>∃r16_a r16_n r16_c,v=vl r16_a r16_n r16_c∧Kp b1 w25 w26∧Cl Pg 38 #[vl r15_a r15_n r15_c,vl r16_a r16_n r16_c] w26 (fun v w27=>∃r17,v=vb r17∧Kp b1 w26 w27∧Ifb r17
 (Cl Pg 28 #[vP r2,vi a.Id] w27 (fun v w28=>∃r18_a r18_n r18_c,v=vl r18_a r18_n r18_c∧Kp b1 w27 w28∧Cl Pg 46 #[vP r3,vi a.Id] w28 (fun v w29=>∃r19_a r19_n r19_c,v=vl r19_a r19_n r19_c∧Kp b1 w28 w29∧Cl Pg 38 #[vl r18_a r18_n r18_c,vl r19_a r19_n r19_c] w29 (fun v w30=>∃r20,v=vb r20∧Kp b1 w29 w30∧bC.j2 Q a unit day until_ b1 r2 r3 r20 w30))))
 (bC.j2 Q a unit day until_ b1 r2 r3 false w27))))))
def bC.l1(Q:Bool→World→Prop)(script_a:Option Addr)(script_n:Nat)(a:TAccount)(unit:ByteArray)(n:Int)(day:Int)(until_:Int)(b1:Nat)(r2:Option Addr)(r3:Option Addr):Nat→Int→World→Prop
 | 0,_,_=>False
 | nl1+1,v1,w5=>(
 Ifb (decide (v1<((script_n:Nat):Int)))
 (Ix script_a script_n v1 fun p1=>
 LdT TOp.enc w5 (Addr.add p1 (v1.toNat*9)) fun x1=>
 Al w5 (.cells #[vu 0,vi 0,vs (ByteArray.mk #[]),vs (ByteArray.mk #[]),vi 0,vi 0,vi 0,vl none 0 0,vl none 0 0] 77) fun b2 w6=>
 Sb w6 b2 (.cells #[vu x1.Kind,vi x1.Day,vs x1.Unit,vs x1.To,vi x1.A,vi x1.B,vi x1.C,vl x1.Goods_a x1.Goods_n x1.Goods_c,vl x1.Lots_a x1.Lots_n x1.Lots_c] 77 (0,0)) fun w7=>
 Cl Pg 43 #[vP r3,vg (TOp.enc x1)] w7 (fun v w8=>∃r4,v=vg (TResult.enc r4)∧Kp b1 w7 w8∧(bC.l1 Q script_a script_n a unit n day until_ b1 r2 r3 nl1) (IntKind.wrap .i64 (v1+1)) w8))
 (Dr w5 fun w31=>
 Ifb r2.isNone
 (bC.j1 Q a unit day until_ b1 r2 r3 true w31)
 (Cl Pg 27 #[vP r2,vs unit,vi day] w31 (fun v w32=>∃r21,v=vi r21∧Kp b1 w31 w32∧Cl Pg 54 #[vP r3,vs unit,vi day] w32 (fun v w33=>∃r22,v=vi r22∧Kp b1 w32 w33∧Ifb (r21 !=r22)
 (bC.j1 Q a unit day until_ b1 r2 r3 true w33)
 (Cl Pg 55 #[vP r2,vs unit,vi n,vi day] w33 (fun v w34=>∃r23,v=vi r23∧Kp b1 w33 w34∧Cl Pg 56 #[vP r3,vs unit,vi n,vi day] w34 (fun v w35=>∃r24,v=vi r24∧Kp b1 w34 w35∧Ifb (r23 !=r24)
 (bC.j1 Q a unit day until_ b1 r2 r3 true w35)
 (Cl Pg 48 #[vP r2,vg [vu a.Kind,vi a.Id],vs unit,vi day] w35 (fun v w36=>∃r25,v=vi r25∧Kp b1 w35 w36∧Cl Pg 57 #[vP r3,vg [vu a.Kind,vi a.Id],vs unit,vi day] w36 (fun v w37=>∃r26,v=vi r26∧Kp b1 w36 w37∧Ifb (r25 !=r26)
 (bC.j1 Q a unit day until_ b1 r2 r3 true w37)
 (Cl Pg 29 #[vP r2,vg [vu a.Kind,vi a.Id],vi day] w37 (fun v w38=>∃r27,v=vi r27∧Kp b1 w37 w38∧Cl Pg 58 #[vP r3,vg [vu a.Kind,vi a.Id],vi day] w38 (fun v w39=>∃r28,v=vi r28∧Kp b1 w38 w39∧bC.j1 Q a unit day until_ b1 r2 r3 (r27 !=r28) w39))))))))))))))
def bC.R(Q:Bool→World→Prop)(script_a:Option Addr)(script_n:Nat)(script_c:Nat)(a:TAccount)(unit:ByteArray)(n:Int)(day:Int)(until_:Int)(w:World):Prop:=(
 Al w (.cells #[vu a.Kind,vi a.Id] 40) fun b1 w1=>
 Ifb (decide (((script_n:Nat):Int)>60))
 (Cl Pg 18 #[] w1 (fun v w2=>∃r1,v=vb r1∧Q r1 w2))
 (Cl Pg 22 #[vl script_a script_n script_c] w1 (fun v w3=>∃r2,v=vP r2∧Kp b1 w1 w3∧Cl Pg 40 #[] w3 (fun v w4=>∃r3,v=vP r3∧Kp b1 w3 w4∧∃k,bC.l1 Q script_a script_n a unit n day until_ b1 r2 r3 k 0 w4))))
theorem bC.ok{Q:Bool→World→Prop}{script_a:Option Addr}{script_n:Nat}{script_c:Nat}{a:TAccount}{unit:ByteArray}{n:Int}{day:Int}{until_:Int}{w:World}(h:bC.R Q script_a script_n script_c a unit n day until_ w):Cl Pg 16 #[vl script_a script_n script_c,vg (TAccount.enc a),vs unit,vi n,vi day,vi until_] w (fun v w'=>∃r0,v=vb r0∧Q r0 w'):=by
 refine aI (args:=[vl script_a script_n script_c,vg (TAccount.enc a),vs unit,vi n,vi day,vi until_]) Tryz.func16 ?_
 unfold bC.R at h
 refine aC<|zq h fun b1 w1 _ _ q1 h=>zp 1<|aD<|aL<|aC<|zp 3<|aD<|zc h (fun h=>?_) fun h=>?_
 refine aC<|zk h ?_
 rintro _ w2 ⟨r1,rfl,h⟩
 exact zp 1<|aD<|aN<|aH<|z1 ⟨_,rfl,h⟩
 refine aJ<|aC<|zp 1<|zk h ?_
 rintro _ w3 ⟨r2,rfl,hk0,h⟩
 replace q1:=bG hk0 q1
 refine zp 1<|aD<|aC<|zk h ?_
 rintro _ w4 ⟨r3,rfl,hk0,h⟩
 replace q1:=bG hk0 q1
 refine zp 1<|aD<|aL<|aC<|zp 3<|aD<|aR ?_
 obtain⟨nl1,h⟩:=h
 refine bS (fun k e w5=>∃(e0:Env) (v1:Int),e=upds e0 [(2,vs unit),(3,vi n),(4,vi day),(5,vi until_),(7,vp ⟨b1,0,none⟩),(13,vP r2),(14,vP r3),(26,vl script_a script_n script_c),(27,vi (script_n:Nat)),(28,vi v1)]∧w5.heap[b1]? =some (.cells #[vu a.Kind,vi a.Id] 40 (0,0))∧bC.l1 Q script_a script_n a unit n day until_ b1 r2 r3 k v1 w5) nl1 ?_ ?_ ?_
 rintro _ _ ⟨_,_,_,_,h⟩
 exact h
 exact⟨_,0,ag,q1,h⟩
 clear h nl1 q1
 rintro nl1 _ w5 ⟨e0,v1,rfl,q1,h⟩
 unfold bC.l1 at h
 refine aC<|zp 1<|aD<|aL<|zc h (fun h=>?_) fun h=>?_
 refine aJ<|aL<|aR<|aC<|zi aFl h fun p1 h=>?_
 obtain⟨x1,hx1,h⟩:=h
 refine zn aCX hx1<|zq h fun b2 w6 eb ew q2 h=>?_
 have o1:=q1
 replace q1:=fQ ew q1
 have n1_2:b1≠b2:=lR o1 eb
 clear o1
 clear eb ew
 refine zt aCX q2 h fun w7 ew q h=>?_
 replace q1:=dC ew n1_2 q1
 replace q2:=q
 refine aD<|aW<|zp 1<|zm aCX q2<|zk h ?_
 rintro _ w8 ⟨r4,rfl,hk0,h⟩
 replace q1:=bG hk0 q1
 exact aD<|aG<|aW<|zp 2<|aD<|⟨_,IntKind.wrap .i64 (v1+1),ag,q1,h⟩
 refine dE<|aU<|aL<|fD (fun e w9=>∃(e0:Env) (v2:Bool),e=upds e0 [(2,vs unit),(4,vi day),(5,vi until_),(7,vp ⟨b1,0,none⟩),(13,vP r2),(14,vP r3),(85,vb v2)]∧w9.heap[b1]? =some (.cells #[vu a.Kind,vi a.Id] 40 (0,0))∧bC.j1 Q a unit day until_ b1 r2 r3 v2 w9) ?_ ?_
 refine drw iG [[],[],[],[],[],[],[],[],[],[],[],[],[],[],[],[],[],[],[],[],[],[],[],[],[],[],[],[],[],[],[],[28],[],[],[],[],[28,33],[28,33],[28,33],[28,33],[28,33],[28,33],[28,33],[28,33,41],[28,33],[28,33],[28,33],[28,33,41,45],[28,33,41,45],[28,33,41,45]] [.p 0,.p 1,.p 2,.p 3,.p 4,.p 5,.p 7,.p 8,.p 9,.e 6,.e 10,.p 11,.p 12,.p 13,.p 14,.p 15,.p 16,.p 17,.p 19,.p 20,.p 21,.p 22,.e 18,.e 23,.p 24,.p 25,.p 26,.p 27,.l 28,.p 29,.p 30,.p 32,.l 33,.p 34,.p 35,.e 31,.e 36,.p 37,.p 38,.p 39,.p 40,.l 41,.p 42,.p 44,.l 45,.p 46,.e 43,.e 47,.p 48,.p 49] h fun w31 ew h=>?_
 replace q1:=dN ew q1
 refine zP 1<|aA1 rfl rfl rfl (v:=vb r2.isNone) (jE (by kernel_rfl) rfl rfl rfl)<|zP 1<|zS 38 h (fun h=>?_) fun h=>?_
 exact zP 6<|zE<|zE<|zP 11<|zE<|zE<|zP 4<|ze<|zP 3<|ze<|zP 2<|zE<|zE<|zP 4<|ze<|zP 2<|ze<|zP 1<|zE<|zE<|zP 2<|bF<|⟨_,true,ag,q1,h⟩
 refine zP 6<|zK h ?_
 rintro _ w32 ⟨r21,rfl,hk0,h⟩
 replace q1:=bG hk0 q1
 refine⟨AllOk.nil,?_⟩
 refine zK h ?_
 rintro _ w33 ⟨r22,rfl,hk0,h⟩
 replace q1:=bG hk0 q1
 refine⟨AllOk.nil,?_⟩
 refine zP 3<|zS 49 h (fun h=>?_) fun h=>?_
 exact zP 8<|zE<|zE<|zP 4<|ze<|zP 3<|ze<|zP 2<|zE<|zE<|zP 4<|ze<|zP 2<|ze<|zP 1<|zE<|zE<|zP 2<|bF<|⟨_,true,ag,q1,h⟩
 refine zP 8<|zK h ?_
 rintro _ w34 ⟨r23,rfl,hk0,h⟩
 replace q1:=bG hk0 q1
 refine⟨AllOk.nil,?_⟩
 refine zK h ?_
 rintro _ w35 ⟨r24,rfl,hk0,h⟩
 replace q1:=bG hk0 q1
 refine⟨AllOk.nil,?_⟩
 refine zP 3<|zS 62 h (fun h=>?_) fun h=>?_
 exact zP 1<|ze<|zP 3<|ze<|zP 2<|zE<|zE<|zP 4<|ze<|zP 2<|ze<|zP 1<|zE<|zE<|zP 2<|bF<|⟨_,true,ag,q1,h⟩
 refine zP 1<|zM j8 q1<|zP 3<|zM j8 q1<|zP 2<|zK h ?_
 rintro _ w36 ⟨r25,rfl,hk0,h⟩
 replace q1:=bG hk0 q1
 refine⟨AllOk.cons (jW (jO rfl rfl (bT j8 (vs:=[vu a.Kind,vi a.Id]) rfl (dS q1 rfl))))<|AllOk.nil,?_⟩
 refine zK h ?_
 rintro _ w37 ⟨r26,rfl,hk0,h⟩
 replace q1:=bG hk0 q1
 refine⟨AllOk.nil,?_⟩
 refine zP 3<|zS 75 h (fun h=>?_) fun h=>?_
 exact zP 1<|ze<|zP 2<|ze<|zP 1<|zE<|zE<|zP 2<|bF<|⟨_,true,ag,q1,h⟩
 refine zP 1<|zM j8 q1<|zP 2<|zM j8 q1<|zP 1<|zK h ?_
 rintro _ w38 ⟨r27,rfl,hk0,h⟩
 replace q1:=bG hk0 q1
 refine⟨AllOk.cons (jW (jO rfl rfl (bT j8 (vs:=[vu a.Kind,vi a.Id]) rfl (dS q1 rfl))))<|AllOk.nil,?_⟩
 refine zK h ?_
 rintro _ w39 ⟨r28,rfl,hk0,h⟩
 replace q1:=bG hk0 q1
 refine⟨AllOk.nil,?_⟩
 exact zP 2<|bF<|⟨_,(r27 !=r28),ag,q1,h⟩
 clear h q1
 rintro _ w9 ⟨e0,v2,rfl,q1,h⟩
 unfold bC.j1 at h
 refine zc h (fun h=>?_) fun h=>?_
 exact aC<|zp 1<|aD<|aN<|aH<|z1 ⟨_,rfl,h⟩
 refine aJ<|fD (fun e w10=>∃(e0:Env) (v3:Bool),e=upds e0 [(2,vs unit),(4,vi day),(5,vi until_),(7,vp ⟨b1,0,none⟩),(13,vP r2),(14,vP r3),(17,vb v3)]∧w10.heap[b1]? =some (.cells #[vu a.Kind,vi a.Id] 40 (0,0))∧bC.j2 Q a unit day until_ b1 r2 r3 v3 w10) ?_ ?_
 refine drw iG [[],[],[],[],[],[],[],[],[],[],[],[10],[],[],[],[10,14],[10,14],[10,14],[10,14]] [.p 0,.p 1,.p 3,.p 4,.e 2,.e 5,.e 6,.p 7,.p 8,.p 9,.l 10,.p 12,.p 13,.l 14,.e 11,.e 15,.e 16,.p 17,.p 18] h fun w24 ew h=>?_
 replace q1:=dN ew q1
 refine zP 4<|zK h ?_
 rintro _ w25 ⟨r15_a,r15_n,r15_c,rfl,hk0,h⟩
 replace q1:=bG hk0 q1
 refine⟨AllOk.nil,?_⟩
 refine zK h ?_
 rintro _ w26 ⟨r16_a,r16_n,r16_c,rfl,hk0,h⟩
 replace q1:=bG hk0 q1
 refine⟨AllOk.nil,?_⟩
 refine zK h ?_
 rintro _ w27 ⟨r17,rfl,hk0,h⟩
 replace q1:=bG hk0 q1
 refine⟨AllOk.nil,?_⟩
 refine zP 1<|zS 93 h (fun h=>?_) fun h=>?_
 refine zP 2<|zB tk3 q1<|zP 2<|zB tk3 q1<|zK h ?_
 rintro _ w28 ⟨r18_a,r18_n,r18_c,rfl,hk0,h⟩
 replace q1:=bG hk0 q1
 refine⟨AllOk.cons (jW (jO rfl rfl (fW tk3 (aV q1 rfl))))<|AllOk.nil,?_⟩
 refine zK h ?_
 rintro _ w29 ⟨r19_a,r19_n,r19_c,rfl,hk0,h⟩
 replace q1:=bG hk0 q1
 refine⟨AllOk.nil,?_⟩
 refine zK h ?_
 rintro _ w30 ⟨r20,rfl,hk0,h⟩
 replace q1:=bG hk0 q1
 refine⟨AllOk.nil,?_⟩
 exact zP 2<|bF<|⟨_,r20,ag,q1,h⟩
 exact zP 2<|ze<|zP 2<|ze<|zE<|zE<|zE<|zP 2<|bF<|⟨_,false,ag,q1,h⟩
 clear h q1
 rintro _ w10 ⟨e0,v3,rfl,q1,h⟩
 unfold bC.j2 at h
 refine fD (fun e w11=>∃(e0:Env) (v4:Bool),e=upds e0 [(2,vs unit),(4,vi day),(5,vi until_),(7,vp ⟨b1,0,none⟩),(13,vP r2),(14,vP r3),(17,vb v3),(18,vb v4)]∧w11.heap[b1]? =some (.cells #[vu a.Kind,vi a.Id] 40 (0,0))∧bC.j3 Q a unit day until_ b1 r2 r3 v3 v4 w11) ?_ ?_
 refine drw iG [[],[],[],[1],[],[],[],[1,5],[1,5],[1,5],[1,5],[1,5],[1,5],[1,5],[1,5],[1,5],[1,5],[1,5],[1,5]] [.p 0,.l 1,.p 2,.p 4,.l 5,.p 6,.e 3,.e 7,.e 8,.p 9,.p 10,.p 11,.p 13,.p 14,.e 12,.e 15,.e 16,.p 17,.p 18] h fun w17 ew h=>?_
 replace q1:=dN ew q1
 refine zP 1<|zM j8 q1<|zP 2<|zM j8 q1<|zP 1<|zK h ?_
 rintro _ w18 ⟨r9_a,r9_n,r9_c,rfl,hk0,h⟩
 replace q1:=bG hk0 q1
 refine⟨AllOk.cons (jW (jO rfl rfl (bT j8 (vs:=[vu a.Kind,vi a.Id]) rfl (dS q1 rfl))))<|AllOk.nil,?_⟩
 refine zK h ?_
 rintro _ w19 ⟨r10_a,r10_n,r10_c,rfl,hk0,h⟩
 replace q1:=bG hk0 q1
 refine⟨AllOk.nil,?_⟩
 refine zK h ?_
 rintro _ w20 ⟨r11,rfl,hk0,h⟩
 replace q1:=bG hk0 q1
 refine⟨AllOk.nil,?_⟩
 refine zP 1<|zS 113 h (fun h=>?_) fun h=>?_
 refine zP 4<|zK h ?_
 rintro _ w21 ⟨r12_a,r12_n,r12_c,rfl,hk0,h⟩
 replace q1:=bG hk0 q1
 refine⟨AllOk.nil,?_⟩
 refine zK h ?_
 rintro _ w22 ⟨r13_a,r13_n,r13_c,rfl,hk0,h⟩
 replace q1:=bG hk0 q1
 refine⟨AllOk.nil,?_⟩
 refine zK h ?_
 rintro _ w23 ⟨r14,rfl,hk0,h⟩
 replace q1:=bG hk0 q1
 refine⟨AllOk.nil,?_⟩
 exact zP 2<|bF<|⟨_,r14,ag,q1,h⟩
 exact zP 4<|zE<|zE<|zE<|zP 2<|bF<|⟨_,false,ag,q1,h⟩
 clear h q1
 rintro _ w11 ⟨e0,v4,rfl,q1,h⟩
 unfold bC.j3 at h
 refine drs iG [[],[],[],[],[],[],[],[],[],[],[],[],[],[9],[],[],[],[],[],[9,15],[9,15],[9,15],[9,15]] [.e 0,.p 1,.p 2,.p 3,.p 4,.p 5,.p 6,.p 7,.p 8,.l 9,.p 10,.p 11,.p 12,.p 14,.l 15,.p 16,.p 17,.p 18,.e 13,.e 19,.e 20,.p 21,.p 22] h fun w12 ew h=>?_
 replace q1:=dN ew q1
 refine zK h ?_
 rintro _ w13 ⟨r5,rfl,hk0,h⟩
 replace q1:=bG hk0 q1
 refine⟨AllOk.nil,?_⟩
 refine zP 1<|zS 123 h (fun h=>?_) fun h=>?_
 refine zP 3<|zS 126 h (fun h=>?_) fun h=>?_
 refine zP 3<|zS 129 h (fun h=>?_) fun h=>?_
 refine zP 1<|zM j8 q1<|zP 4<|zM j8 q1<|zP 3<|zK h ?_
 rintro _ w14 ⟨r6_a,r6_n,r6_c,rfl,hk0,h⟩
 replace q1:=bG hk0 q1
 refine⟨AllOk.cons (jW (jO rfl rfl (bT j8 (vs:=[vu a.Kind,vi a.Id]) rfl (dS q1 rfl))))<|AllOk.nil,?_⟩
 refine zK h ?_
 rintro _ w15 ⟨r7_a,r7_n,r7_c,rfl,h⟩
 refine⟨AllOk.nil,?_⟩
 refine zK h ?_
 rintro _ w16 ⟨r8,rfl,h⟩
 refine⟨AllOk.nil,?_⟩
 exact zP 2<|bF<|aN<|z1 ⟨_,rfl,h⟩
 exact zP 1<|ze<|zP 4<|ze<|zP 3<|zE<|zE<|zE<|zP 2<|bF<|aN<|z1 ⟨_,rfl,h⟩
 exact zP 4<|ze<|zP 4<|ze<|zP 3<|zE<|zE<|zE<|zP 2<|bF<|aN<|z1 ⟨_,rfl,h⟩
 exact zP 7<|ze<|zP 4<|ze<|zP 3<|zE<|zE<|zE<|zP 2<|bF<|aN<|z1 ⟨_,rfl,h⟩
end Go.Proofs.YtcbijkakoepglaaGreat
namespace Go.Proofs.YtcbijkakoepglaaGreat
open Go Go.Wx
section
variable {w : World} {b k : Nat} {M : MState}
theorem rvalueI(h:RIs w b k M)(hk:k≤1000000){name:ByteArray}{day:Int}{Q:Int→World→Prop}(hQ:Q (M.value name day) w):Cl Pg 54 #[vP (some ⟨b,0,none⟩),vs name,vi day] w (fun v w'=>∃r,v=vi r∧Q r w'):=by
 obtain⟨s,us,vals,ts,h,hr,hv⟩:=h;exact xY h (by omega) (by rw[hr.value];exact hQ)
theorem rtermI(h:RIs w b k M)(ht:M.terms.length≤1000000){name:ByteArray}{n day:Int}{Q:Int→World→Prop}(hQ:∀w',Ext w w'→Q (M.term name n day) w'):Cl Pg 56 #[vP (some ⟨b,0,none⟩),vs name,vi n,vi day] w (fun v w'=>∃r,v=vi r∧Q r w'):=by
 obtain⟨s,us,vals,ts,h,hr,hv⟩:=h;have htl:ts.length=M.terms.length:=by have:=congrArg List.length hr.terms;simpa using this
 exact aE7 h (by omega) fun w' E=>by rw[hr.term];exact hQ w' E
end
theorem aCj{w:World}{a:Option Addr}{n c:Nat}{ms:List MOp}(ho:OpsIs w a n ms){acc:TAccount}{unit:ByteArray}{nn day until_:Int}:
 Cl Pg 16 #[vl a n c,vg [vu acc.Kind,vi acc.Id],vs unit,vi nn,vi day,vi until_] w (Yes w):=by
 refine Cl.yes (bC.ok (a:=acc) (Q:=fun b w'=>b=true∧Ext w w') (bW (er w) fun b1 w1 hb1 hat1 E1 e1 n1=>ifb ?_));split
 ·exact aEv fun w3 E3=>⟨rfl,E1.ext E3⟩
 rename_i hlong;have hlong:n≤60:=by simp at hlong;omega
 have hl1:=ho.len;refine aGA (ho.ext E1) hlong fun bl w2 R st hL hbl hR E2=>⟨E2.blk _ hat1.lt id,rnew_c fun br w3 hRI hbr E3=>⟨E3.blk _ (hat1.ext E2).lt id,n+1,?_⟩⟩;obtain⟨_,os,hos,hop⟩:=ho;have hat3:=(hat1.ext E2).ext E3;have E13:=(E1.ext E2).ext E3;have nb1:¬b1=br:=by have:=(hat1.ext E2).lt;omega
 have hblr:¬bl=br:=by have:=hL.blk.lt;omega
 have hRr:∀k,R k→¬k=br:=fun k hk e=>by have:=hL.free.rLt k hk;omega
 have hbw:w.heap.size≤br:=Nat.le_trans (E1.ext E2).size hbr;have key:∀m i w' M,i+m=n→Ext w w'→At w' b1 (.cells #[vu acc.Kind,vi acc.Id] 40 (0,0))→Led w' R bl st (M0.runs ms)→RIs w' br i M→GoodK i M→J M→OL M→PO M→UP M→M.runs (ms.drop i)=M0.runs ms→
  bC.l1 (fun b w'=>b=true∧Ext w w') a n acc unit nn day until_ b1 (some ⟨bl,0,none⟩) (some ⟨br,0,none⟩) (m+1) (i:Nat) w':=by
  intro m;induction m with
  | zero=>
   intro i w' M hi E hat hL hI hGK hJ hO hPO hUP hb;unfold bC.l1;rw[List.drop_of_length_le (by omega)]at hb;have hb:M=M0.runs ms:=hb;rw[←hb]at hL;have hG:=hGK.good (by omega);have hS:=hG.small;have hF:=hS.fits;have gu:=hG.units;have gt:=hG.terms;have gl:=hG.lots;have gp:=hG.postings;have l1:(M.due until_).length≤2000:=by rw[M.due_len];exact Nat.le_trans (List.length_filter_le _ _) gl
   have l2:(M.lotsOf acc.Id).length≤2000:=Nat.le_trans (List.length_filter_le _ _) gl;have l3:=vB M acc day;have l4:=wI M day;have l5:(M.statement acc unit day until_).length≤M.postings.length:=aAr _ _ _;refine dK (by omega) (iS (er w') fun w0 X0 _=>jJ (aBM (hL.ext X0).rd hF fun w1 e=>?_));have X1:=X0.ext e;refine⟨e.blk _ (hat.ext X0).lt id,rvalueI (hI.ext X1) (by omega) ⟨rfl,?_⟩⟩;rw[bne_self_eq_false];refine jJ (aEg (hL.ext X1).rd hF fun w2 e=>?_);have X2:=X1.ext e
   refine⟨e.blk _ (hat.ext X1).lt id,rtermI (hI.ext X2) (by omega) fun w3 e=>?_⟩;have X3:=X2.ext e;refine⟨e.blk _ (hat.ext X2).lt id,?_⟩;rw[bne_self_eq_false];refine jJ (aF7 (hL.ext X3).rd hF fun w4 e=>?_);have X4:=X3.ext e;refine⟨e.blk _ (hat.ext X3).lt id,aBD (hI.ext X4) hPO (by omega) fun w5 e=>?_⟩;have X5:=X4.ext e;refine⟨e.blk _ (hat.ext X4).lt id,?_⟩;rw[bne_self_eq_false];refine jJ (aE4 (hL.ext X5).rd hF (by omega) fun w6 e=>?_);have X6:=X5.ext e
   refine⟨e.blk _ (hat.ext X5).lt id,aFp (hI.ext X6) hPO hUP (by omega) (by omega) (by omega) fun w7 e=>?_⟩;have X7:=X6.ext e;refine⟨e.blk _ (hat.ext X6).lt id,?_⟩;rw[bne_self_eq_false];unfold bC.j1;refine jJ (iS X7 fun w8 X8 _=>ldue_c (hL.ext X8).rd hS hJ.ids fun a1 n1 c1 w9 ho1 hk1 e=>?_);have X9:=X8.ext e;refine⟨e.blk _ (hat.ext X8).lt id,rdue_c (hI.ext X9) hJ.ids (by omega) (by omega) (by omega) (by omega) (by omega) fun a2 n2 c2 w10 ho2 hk2 e=>?_⟩;have X10:=X9.ext e
   refine⟨e.blk _ (hat.ext X9).lt id,aAy ((ho1.ext e).rd iQ) (ho2.rd iQ) (by rw[ho1.1];simp only[maxLen];omega) fun w11 e=>?_⟩;have X11:=X10.ext e;refine⟨e.blk _ (hat.ext X10).lt id,?_⟩;rw[decide_eq_true rfl];refine jM (lots_c (hL.ext X11).rd hF fun a1 n1 c1 w12 ho1 hk1 e=>?_);have X12:=X11.ext e;refine⟨e.blk _ (hat.ext X11).lt id,rlots_c (hI.ext X12) (by omega) fun a2 n2 c2 w13 ho2 hk2 e=>?_⟩;have X13:=X12.ext e
   refine⟨e.blk _ (hat.ext X12).lt id,aAy ((ho1.ext e).rd iQ) (ho2.rd iQ) (by rw[ho1.1];simp only[maxLen];omega) fun w14 e=>?_⟩;have X14:=X13.ext e;refine⟨e.blk _ (hat.ext X13).lt id,?_⟩;rw[decide_eq_true rfl];unfold bC.j2;refine iS X14 fun w15 X15 _=>aAM (hL.ext X15).rd (by omega) fun a1 n1 c1 w16 ho1 hk1 e=>?_;have X16:=X15.ext e;refine⟨e.blk _ (hat.ext X15).lt id,aAI (hI.ext X16) hPO hUP (by omega) (by omega) fun a2 n2 c2 w17 ho2 hk2 e=>?_⟩;have X17:=X16.ext e
   refine⟨e.blk _ (hat.ext X16).lt id,aBe ((ho1.ext e).rd lS) (ho2.rd lS) (by rw[ho1.1];simp only[maxLen];omega) fun w18 e=>?_⟩;have X18:=X17.ext e;refine⟨e.blk _ (hat.ext X17).lt id,?_⟩;rw[decide_eq_true rfl];refine jM (aCW (hL.ext X18).rd (by omega) fun a1 n1 c1 w19 ho1 hk1 e=>?_);have X19:=X18.ext e;refine⟨e.blk _ (hat.ext X18).lt id,aFs (hI.ext X19) hPO (by omega) fun a2 n2 c2 w20 ho2 hk2 e=>?_⟩;have X20:=X19.ext e
   refine⟨e.blk _ (hat.ext X19).lt id,aAH ((ho1.ext e).rd qH) (ho2.rd qH) (by rw[ho1.1];simp only[maxLen];omega) fun w21 e=>?_⟩;have X21:=X20.ext e;refine⟨e.blk _ (hat.ext X20).lt id,?_⟩;rw[decide_eq_true rfl];unfold bC.j3;refine iS X21 fun w22 X22 _=>aEv fun w23 e=>?_;have X23:=X22.ext e;refine⟨e.blk _ (hat.ext X22).lt id,jM (jM (jM (aDB (hL.ext X23).rd hF fun a1 n1 c1 w24 ho1 hk1 e=>?_)))⟩;have X24:=X23.ext e
   refine⟨e.blk _ (hat.ext X23).lt id,aC6 (hI.ext X24) hPO (by omega) fun a2 n2 c2 w25 ho2 hk2 e=>?_⟩;have X25:=X24.ext e;refine aAX ((ho1.ext e).rd aAa) (ho2.rd aAa) (by rw[ho1.1];simp only[maxLen];omega) fun w26 e=>?_;rw[decide_eq_true rfl];exact⟨rfl,E.ext (X25.ext e)⟩
  | succ m ih=>
   intro i w' M hi E hat hL hI hGK hJ hO hPO hUP hb;unfold bC.l1;have hG:=hGK.good (by omega);refine dQ (by omega) ((hos.ext E).ix (by omega) (by omega) fun a0 o ha hx hc=>⟨o,hc,?_⟩);simp only[Int.toNat_natCast]at hx;obtain⟨mo,hmo⟩:∃mo,ms[i]? =some mo:=⟨_,List.getElem?_eq_getElem (by omega)⟩;have hoi:=hop i o mo hx hmo;obtain⟨hml,hm'⟩:=List.getElem?_eq_some_iff.1 hmo;rw[List.drop_eq_getElem_cons hml,hm']at hb;refine bW (er w') fun b2 w5 hb2 hat2 E5 e5 g5=>lW E5 hat2 hb2 fun w6 hat6 E6 f6=>?_;have hat':=hat.ext E6
   refine aFr (hI.ext E6) hG hJ hO (by omega) (hoi.ext (E.ext E6)) fun r2 w10 hI10 F10 hr10=>⟨F10.blk _ hat'.lt nb1,?_⟩;rw[nG (by omega)];obtain⟨m1,hO'⟩:=aFJ hJ hO mo;have E10:Ext w w10:=Frm.trans (E.ext E6) F10 fun k hk e=>by have e:k=br:=e;omega
   exact ih (i+1) w10 _ (by omega) E10 (hat'.frm F10 nb1) ((hL.ext E6).frm F10 hRr hblr) hI10 (rZ hGK mo) (m1.j hJ) hO' (m1.po hJ hPO) (m1.up hJ hUP) hb
 exact key n 0 w3 M0 (by omega) E13 hat3 (hL.ext E3) hRI aA7 j_M0 ol_M0 po_M0 up_M0 rfl
end Go.Proofs.YtcbijkakoepglaaGreat
