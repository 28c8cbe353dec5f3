/- The law DrawersAnswers holds. Conditions: none. -/
import Derived.WalkKit
import Derived.KernelRfl
import Derived.OrdersHeld
import Derived.Laws.ResultCell
import Derived.Laws.StructEq
import Derived.Test.YtcbijkakoepglaaGreatProg
import Derived.Deep.Upon
import Derived.Deep.DeepAppendWide
import Derived.Laws.BitsLemmas
import Derived.Sort.LotA
import Derived.Sort.Walk0
import Derived.Laws.RangeAny
import Derived.Shelf.SlSortCmp.NoneTotal
import Derived.Shelf.SlGeneric
import Derived.Ground.SlsfProg
import Derived.MapKept
import Derived.ProofKit
import Derived.OpenShut
import Derived.ShutString
import Derived.ChangeOld
import Derived.Below
import Derived.Carry
import Derived.SizedLaws
import Derived.ChangeSlices
import Derived.Deep.Slices
import Derived.Test.YtcbijkakoepglaaGreatRows
import Derived.JoinedOf
set_option linter.all false
namespace Go.Wx
open Go
abbrev Env:=Nat→Value
def upd(e:Env)(d:Nat)(v:Value):Env:=fun t=>cond (Nat.beq t d) v (e t)
def upds(e:Env):List (Nat × Value)→Env
 |[]=>e
 | p::l=>upds (upd e p.1 p.2) l
def pute(e:Env):Option Nat→Value→Env
 | some d,v=>upd e d v
 | none,_=>e
def evl(e:Env):Operand→Value
 | .tmp t=>e t
 | .const v=>v
 | .global g=> .pointer (some ⟨g,0,none⟩)
 | .func f=> .func (.func f) #[] #[]
def iW(n:Nat):Option Nat→Bool
 | some d=>Nat.blt d n
 | none=>true
theorem aCw{a b:Nat}(h:a≠b):Nat.beq a b=false:=by
 cases hb:Nat.beq a b with
 | false=>rfl
 | true=>exact absurd (Nat.eq_of_beq_eq_true hb) h
theorem tX{e:Env}{d:Nat}{v:Value}(h:e d=v):upd e d v=e:=by
 funext t;unfold upd;by_cases ht:t=d
 ·subst ht;simp[h]
 ·simp[aCw ht]
structure Rep(n:Nat)(a:Act)(e:Env):Prop where
 size:a.tmps.size=n
 defers:a.defers=[]
 get:∀t,a.tmps.getD t undef=e t
theorem Rep.eval{n:Nat}{a:Act}{e:Env}(h:Rep n a e):a.eval=evl e:=by
 funext x;cases x with
 | tmp t=>exact h.get t
 | _=>rfl
theorem Rep.put{n:Nat}{a:Act}{e:Env}(h:Rep n a e){d:Option Nat}(hd:iW n d=true)(v:Value):Rep n (a.put d v) (pute e d v):=by
 cases d with
 | none=>exact h
 | some d=>
  have hd':d<n:=by simpa[iW,Nat.blt_eq]using hd
  refine⟨by simpa[Act.put]using h.size,h.defers,fun t=>?_⟩;simp only[Act.put,pute,upd];by_cases ht:t=d
  ·subst ht;simp[Array.getD,h.size,hd']
  ·have hb:Nat.beq t d=false:=aCw ht;have:=h.get t;simp only[hb,cond_false];rw[←this];simp[Array.getElem?_setIfInBounds_ne (Ne.symm ht)]
def bK(ops:Array Oper)(o:Oper)(e:Env):Bool:=
 match o.guard with
 | none=>true
 | some (j,want)=>match(ops[j]?).bind (·.dst)with
  | some d=>(match e d with | .bool b=>b==want | _=>false)
  | none=>false
theorem Rep.wanted{n:Nat}{a:Act}{e:Env}(h:Rep n a e)(ops:Array Oper)(o:Oper):Region.wanted o (yielded ops a.tmps)=bK ops o e:=by
 unfold Region.wanted bK;cases o.guard with
 | none=>rfl
 | some gw=>
  obtain⟨j,want⟩:=gw;simp only[yielded];cases (ops[j]?).bind (·.dst)with
  | none=>simp
  | some d=>
   simp only[Option.bind_some];have hg:=h.get d;by_cases hlt:d<a.tmps.size
   ·simp only[Array.getD,hlt,dite_true]at hg;simp only[Array.getElem?_eq_getElem hlt];rw[show a.tmps[d]=e d from hg];cases e d<;>simp
   ·simp only[Array.getD,hlt,dite_false]at hg;simp only[Array.getElem?_eq_none (Nat.not_lt.1 hlt)];rw[←hg];simp[undef]
abbrev rJ:=Exit→Env→World→Prop
def Kx(n:Nat)(K:rJ):Exit→Act→World→Prop:=fun ex a w=>∃e,Rep n a e∧K ex e w
def W(P:Program)(n:Nat)(c:Code)(K:rJ)(e:Env)(w:World):Prop:=∀a,Rep n a e→c.wp P (Kx n K) a w
@[reducible] def aEB (A : Env → World → Prop) (K : rJ) : rJ
 | .normal=>A
 | ex=>K ex
@[reducible] def vZ (id : Nat) (K : rJ) : rJ
 | .exit id'=>fun e w=>if id'=id then K .normal e w else K (.exit id') e w
 | ex=>K ex
section
variable {P : Program} {n : Nat} {K : rJ} {e : Env} {w : World}
theorem aG4{c:Code}{K':rJ}(h:W P n c K e w)(hk:∀ex e w,K ex e w→K' ex e w):W P n c K' e w:=
 fun a ha=>wp_mono (h a ha) fun _ _ _ ⟨e,r,k⟩=>⟨e,r,hk _ _ _ k⟩
theorem aJ(h:K .normal e w):W P n .skip K e w:=fun _ ha=>wp_skip ⟨e,ha,h⟩
theorem aN(h:K .ret e w):W P n .ret K e w:=fun _ ha=>wp_ret ⟨e,ha,h⟩
theorem dE{id:Nat}(h:K (.exit id) e w):W P n (.exit id) K e w:=fun _ ha=>wp_exit ⟨e,ha,h⟩
theorem aL{x y:Code}(h:W P n x (aEB (W P n y K) K) e w):W P n (.seq x y) K e w:=by
 intro a ha;refine wp_seq (wp_mono (h a ha) ?_);rintro ex a' w' ⟨e',hr,hk⟩;cases ex<;>first | exact hk a' hr | exact⟨e',hr,hk⟩
theorem wF{c:Operand}{x y:Code}{t:Bool}(hc:evl e c= .bool t)(h:W P n (if t then x else y) K e w):W P n (.cond c x y) K e w:=
 fun a ha=>wp_cond (by rw[ha.eval];exact hc) (h a ha)
theorem aR{id:Nat}{c:Code}(h:W P n c (vZ id K) e w):W P n (.block id c) K e w:=by
 intro a ha;refine wp_block (wp_mono (h a ha) ?_);rintro ex a' w' ⟨e',hr,hk⟩;cases ex with
 | exit id'=>
  simp only[vZ]at hk;simp only[Exit.inBlock];by_cases hid:id'=id
  ·simp only[hid,if_true]at hk ⊢;exact⟨e',hr,hk⟩
  ·simp only[hid,if_false]at hk ⊢;exact⟨e',hr,hk⟩
 | _=>exact⟨e',hr,hk⟩
def WL(P:Program)(n:Nat)(c:Code)(K:rJ):Nat→Env→World→Prop
 | 0,_,_=>False
 | k+1,e,w=>W P n c (aEB (WL P n c K k) K) e w
theorem W_loop{c:Code}{k:Nat}(h:WL P n c K k e w):W P n (.loop c) K e w:=by
 have key:∀k e w,WL P n c K k e w→∀a,Rep n a e→∀(b:Frame) (kk:List Item) (cs:List Frame),
  ∃ex a' w',Kx n K ex a' w'∧Arrives P (lone (b.at a (.code c:: .inLoop c::kk)) cs w) b kk cs ex a' w':=by
  intro k;induction k with
  | zero=>intro e w h;exact h.elim
  | succ k ih=>
   intro e w h a ha b kk cs;obtain⟨ex,a₁,w₁,⟨e₁,hr,hk⟩,harr⟩:=h a ha b (.inLoop c::kk) cs;cases ex with
   | normal=>
    obtain⟨e₂,a₂,w₂,hq₂,harr₂⟩:=ih e₁ w₁ hk a₁ hr b kk cs;exact⟨e₂,a₂,w₂,hq₂,.of_steps (Steps.trans harr (.one step_inLoop)) harr₂⟩
   | exit id=>exact⟨_,a₁,w₁,⟨e₁,hr,hk⟩,.pass (x:= .inLoop c) rfl (fun _ _=> .inl (by simp)) harr⟩
   | goto l=>exact⟨_,a₁,w₁,⟨e₁,hr,hk⟩,.pass (x:= .inLoop c) rfl (fun _ _=> .inl (by simp)) harr⟩
   | ret=>exact⟨_,a₁,w₁,⟨e₁,hr,hk⟩,.pass (x:= .inLoop c) rfl (fun _ _=> .inl (by simp)) harr⟩
   | panic ch=>exact⟨_,a₁,w₁,⟨e₁,hr,hk⟩,.pass (x:= .inLoop c) rfl (fun _ _=> .inl (by simp)) harr⟩
   | outgrown=>exact⟨_,a₁,w₁,⟨e₁,hr,hk⟩,.pass (x:= .inLoop c) rfl (fun _ _=> .inl (by simp)) harr⟩
 intro a ha b kk cs;obtain⟨ex,a',w',hq,harr⟩:=key k e w h a ha b kk cs;exact⟨ex,a',w',hq,.of_steps (.one step_loop) harr⟩
end
def iY{α:Type}(P:Program):Sem α→Option α
 | .pure a=>some a
 | .program k=>iY P (k P)
 | .mark _ k=>iY P k
 | _=>none
theorem tE{α:Type}(P:Program)(s:Sem α):∀{a:α},iY P s=some a→∀w,s.run P w= .ok a w:=by
 induction s with
 | pure a=>intro b h w;simp only[iY,Option.some.injEq]at h;subst h;rfl
 | program k ih=>intro b h w;simp only[iY]at h;simp only[Sem.run];exact ih P h w
 | mark m k ih=>intro b h w;simp only[iY]at h;simp only[Sem.run];exact ih h w
 | _=>intro b h;simp[iY]at h
def pE(P:Program)(s:Sem Next)(w:World)(K:Value→World→Prop):Prop:=
 match s.run P w with
 | .ok (.value v) w'=>K v w'
 | .ok .skip w'=>K undef w'
 | .ok (.enter f args) w'=>Calls P f args w' fun en w''=>∃v,en= .returned v∧K v w''
 | _=>False
theorem xK{P:Program}{s:Sem Next}{w:World}{K K':Value→World→Prop}(h:pE P s w K)(hk:∀v w,K v w→K' v w):pE P s w K':=by
 unfold pE at*;split at h
 ·exact hk _ _ h
 ·exact hk _ _ h
 ·exact h.mono fun en w'' ⟨v,he,hv⟩=>⟨v,he,hk _ _ hv⟩
 ·exact h.elim
def Qr(n:Nat)(K:Env→World→Prop):Exit→Act→World→Prop
 | .normal,a,w=>∃e,Rep n a e∧K e w
 | _,_,_=>False
theorem aC9{P:Program}{n:Nat}{o:Oper}{e:Env}{w:World}{a:Act}{K:Env→World→Prop}{Q:Exit→Act→World→Prop}{next:Act→World→Prop}
 (ha:Rep n a e) (hd:iW n o.dst=true) (hnext:∀a' e' w',Rep n a' e'→K e' w'→next a' w')
 (h:pE P (execOp (evl e) o) w fun v w'=>K (pute e o.dst v) w'):o.wp P a w next Q:=by
 unfold Oper.wp;rw[ha.eval];unfold pE at h;split at h
 ·rename_i v w' hr;rw[hr];exact hnext _ _ _ (ha.put hd v) h
 ·rename_i w' hr;rw[hr];exact hnext _ _ _ (ha.put hd undef) h
 ·rename_i f args w' hr;rw[hr];refine Calls.mono h fun en w'' ⟨v,he,hv⟩=>?_;subst he;exact hnext _ _ _ (ha.put hd v) hv
 ·exact h.elim
def WO(P:Program)(n:Nat)(ops:Array Oper)(K:Env→World→Prop)(rest:List Oper)(e:Env)(w:World):Prop:=
 ∀a,Rep n a e→wpList P ops (Qr n K) rest a w
section
variable {P : Program} {n : Nat} {ops : Array Oper} {K : Env → World → Prop} {rest : List Oper} {o : Oper} {e : Env} {w : World}
theorem aD(h:K e w):WO P n ops K [] e w:=fun _ ha=>wpList_nil ⟨e,ha,h⟩
theorem WO_skip(hw:bK ops o e=false)(hd:iW n o.dst=true)(h:WO P n ops K rest (pute e o.dst undef) w):WO P n ops K (o::rest) e w:=by
 intro a ha;refine wpList_step fun K' hK'=>?_;rw[ha.wanted,hw];exact hK' _ _ (h _ (ha.put hd undef))
theorem aAc(hw:bK ops o e=true)(hd:iW n o.dst=true)(h:pE P (execOp (evl e) o) w fun v w'=>WO P n ops K rest (pute e o.dst v) w'):WO P n ops K (o::rest) e w:=by
 intro a ha;refine wpList_step fun K' hK'=>?_;rw[ha.wanted,hw];exact aC9 ha hd (fun a' e' w' hr hk=>hK' _ _ (hk a' hr)) h
def psteps(P:Program)(n:Nat)(ops:Array Oper):List Oper→Env→Option Env
 |[],e=>some e
 | o::l,e=>cond (iW n o.dst)
  (cond (bK ops o e)
   (match iY P (execOp (evl e) o)with
   | some (.value v)=>psteps P n ops l (pute e o.dst v)
   | _=>none)
   (psteps P n ops l (pute e o.dst undef)))
  none
theorem wW:∀(l:List Oper) {e e':Env},psteps P n ops l e=some e'→WO P n ops K rest e' w→WO P n ops K (l++rest) e w
 |[],e,e',h,hk=>by simp only[psteps,Option.some.injEq]at h;subst h;exact hk
 | o::l,e,e',h,hk=>by
  simp only[psteps]at h;cases hd:iW n o.dst with
  | false=>rw[hd]at h;cases h
  | true=>
   rw[hd]at h;simp only[cond_true]at h;cases hw:bK ops o e with
   | false=>
    rw[hw]at h;exact WO_skip hw hd (wW l h hk)
   | true=>
    rw[hw]at h;simp only[cond_true]at h;split at h
    ·rename_i v hv;refine aAc hw hd ?_;unfold pE;rw[tE P _ hv w];exact wW l h hk
    ·cases h
theorem aG6{l:List Oper}(k:Nat)(u:List (Nat × Value))(h:psteps P n ops (l.take k) e=some (upds e u))(hk:WO P n ops K (l.drop k) (upds e u) w):WO P n ops K l e w:=by
 have:=wW (rest:=l.drop k) (l.take k) h hk;rwa[List.take_append_drop]at this
theorem m5{v:Value}{w':World}(hw:bK ops o e=true)(hd:iW n o.dst=true)(hr:(execOp (evl e) o).run P w= .ok (.value v) w')(h:WO P n ops K rest (pute e o.dst v) w'):WO P n ops K (o::rest) e w:=by
 refine aAc hw hd ?_;unfold pE;rw[hr];exact h
theorem aCy{w':World}(hw:bK ops o e=true)(hd:iW n o.dst=true)(hr:(execOp (evl e) o).run P w= .ok .skip w')(h:WO P n ops K rest (pute e o.dst undef) w'):WO P n ops K (o::rest) e w:=by
 refine aAc hw hd ?_;unfold pE;rw[hr];exact h
theorem aEx{f:FuncId}{args:Array Value}(hw:bK ops o e=true)(hd:iW n o.dst=true)(hr:(execOp (evl e) o).run P w= .ok (.enter f args) w)
 (h:Calls P f args w fun en w''=>∃v,en= .returned v∧WO P n ops K rest (pute e o.dst v) w''):WO P n ops K (o::rest) e w:=by
 refine aAc hw hd ?_;unfold pE;rw[hr];exact h
theorem aGd{K':rJ}(h:∀e w,K e w→K' .normal e w):∀ex a w,Qr n K ex a w→Kx n K' ex a w:=by
 intro ex a w hq;cases ex<;>first | exact hq.elim | (obtain⟨e,hr,hk⟩:=hq;exact⟨e,hr,h _ _ hk⟩)
theorem aDp{id:Nat}{K':rJ}(h:WO P n ops (K' .normal) ops.toList e w):W P n (.region id ops false) K' e w:=
 fun a ha=>wp_mono (wp_region_list (h a ha)) (aGd fun _ _ h=>h)
theorem aC{id:Nat}{y:Code}{K':rJ}{l:List Oper}(h:WO P n l.toArray (W P n y K') l e w):W P n (.seq (.region id l.toArray false) y) K' e w:=
 aL (aDp (K':=aEB (W P n y K') K') (by simpa using h))
theorem aW{id:Nat}{K':rJ}{l:List Oper}(h:WO P n l.toArray (K' .normal) l e w):W P n (.region id l.toArray false) K' e w:=
 aDp (by simpa using h)
end
structure Pend where
 i:Nat
 s:Sem Next
 v:Value
def Pend.ok(P:Program)(p:Pend)(w:World):Prop:=p.s.run P w= .ok (.value p.v) w
def later(T:List (List Nat))(j i:Nat):Bool:=(T.getD j []).any (Nat.beq i)
def aCY(ops:Array Oper)(T:List (List Nat)):Bool:=
 (List.range ops.size).all fun j=>match ops[j]? with
  | none=>true
  | some oj=>(T.getD j []).all fun i=>oj.after.any fun e=>Region.binds .any e&&(Nat.blt e.on j&&(Nat.beq i e.on||later T e.on i))
def zZ(ops:Array Oper)(listed:Array Bool):Prop:=
 ∀(j:Nat) (oj:Oper),ops[j]? =some oj→listed.getD j false=true→∀e∈oj.after,Region.binds .any e=true→listed.getD e.on false=true
theorem aCk{ops:Array Oper}{T:List (List Nat)}(hT:aCY ops T=true){listed:Array Bool}(hc:zZ ops listed):
 ∀(j:Nat) (oj:Oper) (i:Nat),ops[j]? =some oj→(∀e∈oj.after,Region.binds .any e=true→listed.getD e.on false=true)→later T j i=true→listed.getD i false=true:=by
 intro j;induction j using Nat.strongRecOn with
 | _ j ih=>
  intro oj i hj hall hl;have hlt:j<ops.size:=(Array.getElem?_eq_some_iff.1 hj).1;have h1:=List.all_eq_true.1 hT j (List.mem_range.2 hlt);simp only[hj]at h1;obtain⟨i',hi',hb⟩:=List.any_eq_true.1 hl;have hii:i=i':=Nat.eq_of_beq_eq_true hb;subst hii;have h2:=List.all_eq_true.1 h1 i hi';obtain⟨e,he,h3⟩:=Array.any_eq_true'.1 h2;simp only[Bool.and_eq_true,Bool.or_eq_true]at h3;obtain⟨hbind,hblt,h4⟩:=h3;have hle:=hall e he hbind;rcases h4 with h4 | h4
  ·have:i=e.on:=Nat.eq_of_beq_eq_true h4;subst this;exact hle
  ·have helt:e.on<j:=by simpa[Nat.blt_eq]using hblt
   have heo:e.on<ops.size:=by omega
   exact ih e.on helt ops[e.on] i (Array.getElem?_eq_getElem heo) (hc e.on _ (Array.getElem?_eq_getElem heo) hle) h4
def wpG(P:Program)(ops:Array Oper)(Q:Exit→Act→World→Prop)(T:List (List Nat)):Nat→Array Bool→List Pend→Act→World→Prop
 | 0,listed,_,a,w=>Region.ready .any ops listed=[]∧Q .normal a w
 | f+1,listed,pend,a,w=>
  (Region.ready .any ops listed=[]→Q .normal a w)∧
  ∀j∈Region.ready .any ops listed,wpOp P ops Q j (fun a' w'=>(∀p∈pend,later T j p.i=false→p.ok P w')∧
   wpG P ops Q T f (listed.setIfInBounds j true) (pend.filter fun p=> !later T j p.i) a' w') a w
section
variable {P : Program} {ops : Array Oper} {Q : Exit → Act → World → Prop} {T : List (List Nat)}
theorem aAd:∀(f:Nat) (listed:Array Bool) (pend:List Pend) (a:Act) (w:World),wpG P ops Q T f listed pend a w→wpAny P .any ops Q f listed a w
 | 0,_,_,_,_,h=>h
 | f+1,_,_,_,_,h=>⟨h.1,fun j hj=>wpOp_mono (fun a' w' h'=>aAd f _ _ a' w' h'.2) (h.2 j hj)⟩
theorem aCT:∀(f:Nat) (listed:Array Bool) (p1 p2:List Pend) (a:Act) (w:World),(∀p∈p1,p∈p2)→wpG P ops Q T f listed p2 a w→wpG P ops Q T f listed p1 a w
 | 0,_,_,_,_,_,_,h=>h
 | f+1,_,p1,p2,_,_,hs,h=>⟨h.1,fun j hj=>wpOp_mono (fun a' w' h'=>⟨fun p hp=>h'.1 p (hs p hp),aCT f _ _ _ a' w' (fun p hp=>by
  rw[List.mem_filter]at hp ⊢;exact⟨hs p hp.1,hp.2⟩) h'.2⟩) (h.2 j hj)⟩
theorem aA3{q:Pend}(hq:∀w,q.ok P w):∀(f:Nat) (listed:Array Bool) (pend:List Pend) (a:Act) (w:World),wpG P ops Q T f listed pend a w→wpG P ops Q T f listed (q::pend) a w
 | 0,_,_,_,_,h=>h
 | f+1,listed,pend,_,_,h=>⟨h.1,fun j hj=>wpOp_mono (fun a' w' h'=>⟨fun p hp=>by
  rcases List.mem_cons.1 hp with rfl | hp
  ·exact fun _=>hq w'
  ·exact h'.1 p hp,by
  simp only[List.filter_cons];split
  ·exact aA3 hq f _ _ a' w' h'.2
  ·exact h'.2⟩) (h.2 j hj)⟩
theorem qO{listed:Array Bool}(hc:zZ ops listed){i:Nat}(hi:i∈Region.ready .any ops listed):zZ ops (listed.setIfInBounds i true):=by
 obtain⟨_,oi,hoi,hall⟩:=mem_ready.1 hi;intro j oj hj hl e he hb;by_cases hij:i=j
 ·subst hij;have:oj=oi:=Option.some.inj (hj.symm.trans hoi);subst this;exact getD_set_true (hall e he hb)
 ·rw[getD_set_ne false hij]at hl;exact getD_set_true (hc j oj hj hl e he hb)
theorem aCE{listed:Array Bool}{i:Nat}(h:listed.getD i true=false):listed.getD i false=false:=by
 rcases Nat.lt_or_ge i listed.size with h' | h'
 ·simp[h']at h ⊢;exact h
 ·simp[Array.getElem?_eq_none h']at h
theorem wH(hT:aCY ops T=true){i:Nat}{oi:Oper}{q:Pend}(hqi:q.i=i)(hi:ops[i]? =some oi)(hsel:∀(j:Nat) (o:Oper) cs b,ops[j]? =some o→o.op≠ .select cs b)
 (hQ:∀c a w,¬Q (.panic c) a w):
 ∀(f:Nat) (listed:Array Bool) (pend:List Pend) (a:Act) (w:World),zZ ops listed→
  (∀j oj,ops[j]? =some oj→j≠i→listed.getD j true=false→(∀e∈oj.after,Region.binds .any e=true→e.on≠i)→oi.apart ops oj=true)→
  i∈Region.ready .any ops listed→YieldsIf P ops (q.ok P) oi q.v a→q.ok P w→(∀p∈pend,p.ok P w)→
  wpG P ops Q T f (listed.setIfInBounds i true) (q::pend) (a.put oi.dst q.v) w→wpG P ops Q T (f+1) listed pend a w:=by
 intro f;induction f with
 | zero=>
  intro listed pend a w _ _ hr hy hS hp H;refine⟨fun h=>(by rw[h]at hr;cases hr),fun j hj=>?_⟩;by_cases hji:j=i
  ·subst hji;exact hy.wpOp hi hS ⟨fun p hp' _=>hp p hp',H⟩
  ·have:=ready_mono hj hji;rw[H.1]at this;cases this
 | succ f ih=>
  intro listed pend a w hc hfree hr hy hS hp H;refine⟨fun h=>(by rw[h]at hr;cases hr),fun j hj=>?_⟩;by_cases hji:j=i
  ·subst hji;exact hy.wpOp hi hS ⟨fun p hp' _=>hp p hp',aCT _ _ _ _ _ _ (fun p hp'=>List.mem_cons_of_mem _ (List.mem_filter.1 hp').1) H⟩
  ·have h1:=H.2 j (ready_mono hj hji);obtain⟨hjun,oj,hoj,hall⟩:=mem_ready.1 hj;have hiun:=(mem_ready.1 hr).1;have hnot:∀e∈oj.after,Region.binds .any e=true→e.on≠i:=fun e he hb heq=>by
    have h1:=hall e he hb;rw[heq,aCE hiun]at h1;cases h1
   have hlat:later T j q.i=false:=by
    cases hl:later T j q.i with
    | false=>rfl
    | true=>
     have:=aCk hT hc j oj q.i hoj hall hl;rw[hqi,aCE hiun]at this;cases this
   have h2:=wpOp_putIf hoj (hfree j oj hoj hji hjun hnot) (fun cs b=>hsel i oi cs b hi) (fun cs b=>hsel j oj cs b hoj) (fun c a w h=>(hQ c _ w h).elim) hy h1;have hfree':∀k ok,ops[k]? =some ok→k≠i→(listed.setIfInBounds j true).getD k true=false→
    (∀e∈ok.after,Region.binds .any e=true→e.on≠i)→oi.apart ops ok=true:=fun k ok hk hki hun hno=>by
    refine hfree k ok hk hki ?_ hno;by_cases hjk:j=k
    ·subst hjk;exact hjun
    ·rw[getD_set_ne true hjk]at hun;exact hun
   refine wpOp_mono (fun a' w' h3=>?_) h2;obtain⟨hy',hob,hG⟩:=h3;have hS':q.ok P w':=hob q (List.mem_cons_self ..) hlat;refine⟨fun p hp' hl=>hob p (List.mem_cons_of_mem _ hp') hl,ih (listed.setIfInBounds j true) _ a' w' (qO hc hj) hfree' (ready_mono hr (Ne.symm hji)) hy' hS' (fun p hp'=>?_) ?_⟩
   ·rw[List.mem_filter]at hp';exact hob p (List.mem_cons_of_mem _ hp'.1) (by simpa using hp'.2)
   ·rw[Array.setIfInBounds_comm _ _ hji];simpa[List.filter_cons,hlat]using hG
end
inductive Stp where
 | p (i:Nat)
 | l (i:Nat)
 | e (i:Nat)
def aDn(ops:Array Oper):List Stp→Array Bool→Bool
 |[],listed=>(Region.ready .any ops listed).isEmpty
 | .p i::r,listed | .l i::r,listed=>(Region.ready .any ops listed).contains i&&(Region.free .any ops listed i&&aDn ops r (listed.setIfInBounds i true))
 | .e i::r,listed=>decide (Region.ready .any ops listed=[i])&&aDn ops r (listed.setIfInBounds i true)
def WC(P:Program)(n:Nat)(ops:Array Oper)(T:List (List Nat))(K:Env→World→Prop):List Stp→List Pend→Env→World→Prop
 |[],_,e,w=>K e w
 | .p i::r,pend,e,w=>∃o,ops[i]? =some o∧iW n o.dst=true∧
  if bK ops o e then ∃v,(∀w,(execOp (evl e) o).run P w= .ok (.value v) w)∧WC P n ops T K r pend (pute e o.dst v) w
  else WC P n ops T K r pend (pute e o.dst undef) w
 | .l i::r,pend,e,w=>∃o,ops[i]? =some o∧iW n o.dst=true∧
  if bK ops o e then ∃v,(execOp (evl e) o).run P w= .ok (.value v) w∧WC P n ops T K r (⟨i,execOp (evl e) o,v⟩::pend) (pute e o.dst v) w
  else WC P n ops T K r pend (pute e o.dst undef) w
 | .e i::r,pend,e,w=>∃o,ops[i]? =some o∧iW n o.dst=true∧
  if bK ops o e then pE P (execOp (evl e) o) w fun v w'=>(∀p∈pend.filter fun p=> !later T i p.i,p.ok P w')∧WC P n ops T K r (pend.filter fun p=> !later T i p.i) (pute e o.dst v) w'
  else WC P n ops T K r pend (pute e o.dst undef) w
section
variable {P : Program} {n : Nat} {ops : Array Oper} {T : List (List Nat)} {K : Env → World → Prop}
theorem sR(hT:aCY ops T=true)(hs:Region.noSelect ops=true):∀(σ:List Stp) (listed:Array Bool) (pend:List Pend) (e:Env) (w:World) (a:Act),
 zZ ops listed→aDn ops σ listed=true→(∀p∈pend,p.ok P w)→Rep n a e→WC P n ops T K σ pend e w→wpG P ops (Qr n K) T σ.length listed pend a w
 |[],listed,pend,e,w,a,hc,hB,hp,ha,h=>⟨by simpa[aDn]using hB,e,ha,h⟩
 | .p i::r,listed,pend,e,w,a,hc,hB,hp,ha,h=>by
  simp only[aDn,Bool.and_eq_true]at hB;obtain⟨hr,hf,hB'⟩:=hB;obtain⟨o,ho,hd,h⟩:=h;have hr':i∈Region.ready .any ops listed:=by simpa using hr
  by_cases hw:bK ops o e=true
  ·simp only[hw,if_true]at h;obtain⟨v,hv,h⟩:=h;have hq:∀w,(⟨i,execOp (evl e) o,v⟩:Pend).ok P w:=hv;refine wH (q:=⟨i,execOp (evl e) o,v⟩) hT rfl ho (Region.noSelect_spec hs) (fun _ _ _ h=>h) r.length listed pend a w hc (Region.free_spec ho hf) hr' ?_ (hq w) hp ?_
   ·exact .inl ⟨by rw[ha.wanted];exact hw,fun w hw'=>by rw[ha.eval];exact hw'⟩
   ·exact aA3 hq _ _ _ _ _ (sR hT hs r _ pend _ w _ (qO hc hr') hB' hp (ha.put hd v) h)
  ·simp only[hw,if_false,Bool.false_eq_true]at h;have hq:∀w,(⟨i,.pure (.value undef),undef⟩:Pend).ok P w:=fun w=>rfl;refine wH (q:=⟨i,.pure (.value undef),undef⟩) hT rfl ho (Region.noSelect_spec hs) (fun _ _ _ h=>h) r.length listed pend a w hc (Region.free_spec ho hf) hr' ?_ (hq w) hp ?_
   ·exact .inr ⟨by rw[ha.wanted];simpa using hw,rfl⟩
   ·exact aA3 hq _ _ _ _ _ (sR hT hs r _ pend _ w _ (qO hc hr') hB' hp (ha.put hd undef) h)
 | .l i::r,listed,pend,e,w,a,hc,hB,hp,ha,h=>by
  simp only[aDn,Bool.and_eq_true]at hB;obtain⟨hr,hf,hB'⟩:=hB;obtain⟨o,ho,hd,h⟩:=h;have hr':i∈Region.ready .any ops listed:=by simpa using hr
  by_cases hw:bK ops o e=true
  ·simp only[hw,if_true]at h;obtain⟨v,hv,h⟩:=h;refine wH (q:=⟨i,execOp (evl e) o,v⟩) hT rfl ho (Region.noSelect_spec hs) (fun _ _ _ h=>h) r.length listed pend a w hc (Region.free_spec ho hf) hr' ?_ hv hp ?_
   ·exact .inl ⟨by rw[ha.wanted];exact hw,fun w hw'=>by rw[ha.eval];exact hw'⟩
   ·exact sR hT hs r _ _ _ w _ (qO hc hr') hB' (fun p hp'=>by
     rcases List.mem_cons.1 hp' with rfl | hp'
     ·exact hv
     ·exact hp p hp') (ha.put hd v) h
  ·simp only[hw,if_false,Bool.false_eq_true]at h;have hq:∀w,(⟨i,.pure (.value undef),undef⟩:Pend).ok P w:=fun w=>rfl;refine wH (q:=⟨i,.pure (.value undef),undef⟩) hT rfl ho (Region.noSelect_spec hs) (fun _ _ _ h=>h) r.length listed pend a w hc (Region.free_spec ho hf) hr' ?_ (hq w) hp ?_
   ·exact .inr ⟨by rw[ha.wanted];simpa using hw,rfl⟩
   ·exact aA3 hq _ _ _ _ _ (sR hT hs r _ pend _ w _ (qO hc hr') hB' hp (ha.put hd undef) h)
 | .e i::r,listed,pend,e,w,a,hc,hB,hp,ha,h=>by
  simp only[aDn,Bool.and_eq_true,decide_eq_true_eq]at hB;obtain⟨hr,hB'⟩:=hB;obtain⟨o,ho,hd,h⟩:=h;have hr':i∈Region.ready .any ops listed:=by rw[hr];simp
  refine⟨fun h0=>(by rw[h0]at hr;cases hr),fun j hj=>?_⟩;have hji:j=i:=by rw[hr]at hj;simpa using hj
  subst hji;unfold wpOp;simp only[ho,ha.wanted];by_cases hw:bK ops o e=true
  ·simp only[hw,if_true]at h ⊢;refine .inl (aC9 (K:=fun e' w'=>∃v,e'=pute e o.dst v∧(∀p∈pend.filter fun p=> !later T j p.i,p.ok P w')∧WC P n ops T K r (pend.filter fun p=> !later T j p.i) (pute e o.dst v) w') ha hd ?_ (xK h fun v w' hv=>⟨v,rfl,hv⟩));rintro a' e' w' hrep ⟨v,rfl,hob,hC⟩;exact⟨fun p hp' hl=>hob p (List.mem_filter.2 ⟨hp',by simp[hl]⟩),sR hT hs r _ _ _ w' a' (qO hc hr') hB' hob hrep hC⟩
  ·simp only[hw,if_false,Bool.false_eq_true]at h ⊢;exact⟨fun p hp' _=>hp p hp',aCT _ _ _ _ _ _ (fun p hp'=>(List.mem_filter.1 hp').1) (sR hT hs r _ pend _ w _ (qO hc hr') hB' hp (ha.put hd undef) h)⟩
def aDc(ops:Array Oper)(T:List (List Nat))(σ:List Stp):Bool:=
 Nat.beq σ.length ops.size&&(aCY ops T&&(Region.noSelect ops&&aDn ops σ (Array.replicate ops.size false)))
theorem aCu:zZ ops (Array.replicate ops.size false):=by
 intro j oj _ hl;rcases Nat.lt_or_ge j ops.size with h | h
 ·simp[h]at hl
 ·simp[h]at hl
theorem aG5{id:Nat}{K':rJ}{e:Env}{w:World}(hm:P.follows .mixedOrders=true)(T:List (List Nat))(σ:List Stp)(hB:aDc ops T σ=true)
 (h:WC P n ops T (K' .normal) σ [] e {w with drawn:=w.drawn+1}):W P n (.region id ops true) K' e w:=by
 simp only[aDc,Bool.and_eq_true]at hB;obtain⟨hl,hT,hs,hc⟩:=hB;intro a ha;refine wp_mono (wp_region_any hm ?_) (aGd (K:=K' .normal) fun _ _ h=>h);have:=sR (K:=K' .normal) hT hs σ (Array.replicate ops.size false) [] e _ a aCu hc (fun p hp=>by cases hp) ha h;rw[Nat.eq_of_beq_eq_true hl]at this;exact aAd _ _ _ _ _ this
theorem aFb{id:Nat}{y:Code}{K':rJ}{e:Env}{w:World}(hm:P.follows .mixedOrders=true)(T:List (List Nat))(σ:List Stp)(hB:aDc ops T σ=true)
 (h:WC P n ops T (W P n y K') σ [] e {w with drawn:=w.drawn+1}):W P n (.seq (.region id ops true) y) K' e w:=
 aL (aG5 (K':=aEB (W P n y K') K') hm T σ hB h)
end
@[reducible] def aAY (fn : Func) (P : Program) (n : Nat) (R : Value → World → Prop) : rJ
 | .normal | .ret=>fun e w=>∀a,Rep n a e→∃v,(results fn a.tmps).run P w= .ok v w∧R v w
 | _=>fun _ _=>False
def aCQ(args:List Value):Env:=fun t=>args.getD t undef
theorem calls_W{P:Program}{f:FuncId}{fn:Func}{c:Code}{args:List Value}{w:World}{R:Value→World→Prop}{n:Nat}
 (hf:P.funcs[f]? =some fn) (hb:fn.body=some c) (hn:fn.ntmps=n) (hle:Nat.ble args.length n=true)
 (h:W P n c (aAY fn P n R) (aCQ args) w):Calls P f args.toArray w fun en w'=>∃v,en= .returned v∧R v w':=by
 have hle':args.length≤n:=by simpa using hle
 refine calls_of_wp hf hb (wp_mono (h _ ?_) ?_)
 ·refine⟨by simp[hn];omega,rfl,fun t=>?_⟩;simp only[aCQ];by_cases ht:t<args.length
  ·simp[Array.getElem?_append,ht]
  ·simp[Array.getElem?_append,ht,Array.getElem?_replicate];split<;>rfl
 ·rintro ex a w' ⟨e,hr,hk⟩;cases ex<;>first | exact hk.elim | (obtain⟨v,hv,hR⟩:=hk a hr;exact⟨hr.defers,v,hv,v,rfl,hR⟩)
theorem uA{fn:Func}{P:Program}{n:Nat}{R:Value→World→Prop}{e:Env}{w:World}(h:fn.results= #[])(hR:R (.tuple #[]) w):aAY fn P n R .ret e w:=
 fun a _=>⟨_,results_none h a.tmps P w,hR⟩
theorem ret1{fn:Func}{P:Program}{n:Nat}{R:Value→World→Prop}{e:Env}{w:World}{t:Tmp}(h:fn.results= #[.tmp t]){v:Value}(hv:e t=v)(hR:R v w):aAY fn P n R .ret e w:=
 fun a ha=>⟨_,results_tmp h a.tmps P w,by rw[ha.get,hv];exact hR⟩
theorem ret2{fn:Func}{P:Program}{n:Nat}{R:Value→World→Prop}{e:Env}{w:World}{t u:Tmp}(h:fn.results= #[.tmp t,.tmp u]){v v':Value}(hv:e t=v)(hv':e u=v')(hR:R (.tuple #[v,v']) w):aAY fn P n R .ret e w:=
 fun a ha=>⟨_,results_tmp2 h a.tmps P w,by rw[ha.get,ha.get,hv,hv'];exact hR⟩
theorem ret3{fn:Func}{P:Program}{n:Nat}{R:Value→World→Prop}{e:Env}{w:World}{t u s:Tmp}(h:fn.results= #[.tmp t,.tmp u,.tmp s]){v v' v'':Value}(hv:e t=v)(hv':e u=v')(hv'':e s=v'')(hR:R (.tuple #[v,v',v'']) w):aAY fn P n R .ret e w:=
 fun a ha=>⟨_,results_tmp3 h a.tmps P w,by rw[ha.get,ha.get,ha.get,hv,hv',hv''];exact hR⟩
theorem vG{fn:Func}{P:Program}{n:Nat}{R:Value→World→Prop}{e:Env}{w:World}(h:aAY fn P n R .ret e w):aAY fn P n R .normal e w:=h
end Go.Wx
namespace Go.Wx
open Go
def tyk(P:Program)(t:TypeId):Option (Bool × Nat):=
 match P.underlying t,P.info? t with
 | some (.struct _),some i=>some (true,i.size)
 | some (.array _ _),some i=>some (true,i.size)
 | some _,some i=>some (false,i.size)
 | _,_=>none
section
variable {P : Program} {w : World}
theorem sF{t:TypeId}{b:Bool}{n:Nat}(h:tyk P t=some (b,n)):(isAgg t).run P w= .ok b w∧(sizeOf t).run P w= .ok n w:=by
 unfold tyk at h;unfold isAgg sizeOf underlying typeInfo;simp only[bind,Sem.bind,Go.program,Sem.run];cases hu:P.underlying t with
 | none=>simp[hu]at h
 | some d=>
  cases hi:P.info? t with
  | none=>simp[hu,hi]at h
  | some i=>
   cases d<;>simp_all[pure,Sem.bind]
def Cells(w:World)(a:Addr)(vs:List Value):Prop:=∀i v,vs[i]? =some v→w.cell? (a.add i)=some v
theorem run_bind{α β:Type}(s:Sem α)(f:α→Sem β):∀(w:World),(s>>=f).run P w=match s.run P w with | .ok a w'=>(f a).run P w' | .halt h w'=> .halt h w':=by
 intro w;show(Sem.bind s f).run P w=_;induction s generalizing w with
 | pure a=>rfl
 | load m a k ih=>simp only[Sem.bind,Sem.run];split<;>first | exact ih _ _ | (split<;>first | exact ih _ _ | rfl)
 | store m a v k ih=>
  cases v<;>simp only[Sem.bind,Sem.run]<;>(split<;>first | rfl | (split<;>first | rfl | exact ih _) | skip)
 | new o k ih=>exact ih _ _
 | shape r k ih=>exact ih _ _
 | freeze a n k ih=>exact ih _
 | frozen a k ih=>exact ih _ _
 | getObj r k ih=>simp only[Sem.bind,Sem.run];split<;>first | rfl | exact ih _ _
 | setObj r o k ih=>simp only[Sem.bind,Sem.run];split<;>first | rfl | exact ih _
 | choose q k ih=>simp only[Sem.bind,Sem.run];split<;>exact ih _ _
 | sys c k ih=>exact ih _ _
 | program k ih=>exact ih _ _
 | mark m k ih=>exact ih _
 | halt h=>rfl
theorem iE{α:Type}(a:α)(w:World):(Pure.pure a:Sem α).run P w= .ok a w:=rfl
theorem aDD{a:Addr}{v:Value}(h:w.cell? a=some v):(load a).run P w= .ok v w:=by
 show(Sem.load _ _ _).run P w=_;simp only[Sem.run,h]
theorem sZ{a:Addr}:∀(n i:Nat) (acc:Array Value) (vs:List Value),vs.length=n→(∀j v,vs[j]? =some v→w.cell? (a.add (i+j))=some v)→
 (loadCellsFrom a i n acc).run P w= .ok (acc++vs.toArray) w
 | 0,i,acc,vs,hl,_=>by
  cases vs with
  | nil=>simp only[loadCellsFrom,iE];simp
  | cons _ _=>simp at hl
 | n+1,i,acc,vs,hl,h=>by
  cases vs with
  | nil=>simp at hl
  | cons v vs=>
   have h0:=h 0 v rfl;rw[Nat.add_zero]at h0;simp only[loadCellsFrom,run_bind,aDD h0];rw[sZ n (i+1) (acc.push v) vs (by simpa using hl) (fun j u hu=>by have:=h (j+1) u (by simpa using hu);rwa[show i+1+j=i+(j+1) by omega])];simp
theorem fW{t:TypeId}{n:Nat}(ht:tyk P t=some (false,n)){a:Addr}{v:Value}(h:w.cell? a=some v):(loadVar t a).run P w= .ok v w:=by
 unfold loadVar;simp only[run_bind,(sF (w:=w) ht).1];exact aDD h
theorem bT{t:TypeId}{n:Nat}(ht:tyk P t=some (true,n)){a:Addr}{vs:List Value}(hn:vs.length=n)(h:Cells w a vs):(loadVar t a).run P w= .ok (.agg vs.toArray) w:=by
 unfold loadVar;simp only[run_bind,(sF (w:=w) ht).1,if_true,(sF (w:=w) ht).2];unfold loadCells;simp only[sZ (P:=P) n 0 #[] vs hn (fun j v hv=>by rw[Nat.zero_add];exact h j v hv),iE];simp
def lY(w:World)(b:Nat)(o:Obj):World:={w with heap:=w.heap.setIfInBounds b o}
def oO(c:Array Value)(off:Nat):List Value→Array Value
 |[]=>c
 | v::vs=>oO (c.setIfInBounds off v) (off+1) vs
theorem xN:∀(vs:List Value) (c:Array Value) (off:Nat),(oO c off vs).size=c.size
 |[],_,_=>rfl
 | v::vs,c,off=>by rw[oO,xN vs];simp
theorem yT:∀(vs:List Value) (c:Array Value) (off i:Nat),off+vs.length≤c.size→
 (oO c off vs)[i]? =if off≤i∧i<off+vs.length then vs[i-off]? else c[i]?
 |[],c,off,i,_=>by rw[oO,if_neg];simp
 | v::vs,c,off,i,h=>by
  rw[oO,yT vs _ _ _ (by simp at h ⊢;omega)];simp only[List.length_cons]at h ⊢;by_cases h1:off+1≤i∧i<off+1+vs.length
  ·rw[if_pos h1,if_pos (by omega),show i-off=(i-(off+1))+1 by omega];rfl
  ·rw[if_neg h1];by_cases h2:i=off
   ·subst h2;rw[if_pos (by omega),Array.getElem?_setIfInBounds_self_of_lt (by omega)];simp
   ·rw[if_neg (by omega),Array.getElem?_setIfInBounds_ne (by omega)]
theorem aBu(w:World)(b:Nat)(o o':Obj):lY (lY w b o) b o'=lY w b o':=by simp[lY]
theorem aFH{b:Nat}{o:Obj}(h:w.heap[b]? =some o):lY w b o=w:=by
 unfold lY;congr 1;apply Array.ext_getElem?;intro i;by_cases hi:b=i
 ·subst hi;have hlt:=(Array.getElem?_eq_some_iff.1 h).1;rw[Array.getElem?_setIfInBounds_self_of_lt hlt,h]
 ·rw[Array.getElem?_setIfInBounds_ne hi]
theorem rA{b:Nat}{o o':Obj}(h:w.heap[b]? =some o):(lY w b o').heap[b]? =some o':=by
 have hlt:=(Array.getElem?_eq_some_iff.1 h).1;simp[lY,hlt]
theorem vE{b k:Nat}{o:Obj}(h:k≠b):(lY w b o).heap[k]? =w.heap[k]? :=by
 simp[lY,Array.getElem?_setIfInBounds_ne (Ne.symm h)]
theorem aFE{b:Nat}{o:Obj}:(lY w b o).heap.size=w.heap.size:=by simp[lY]
theorem aV{b i:Nat}{c:Array Value}{T:TypeId}{fr:Nat × Nat}{v:Value}(h:w.heap[b]? =some (.cells c T fr))(hc:c[i]? =some v):w.cell? ⟨b,i,none⟩=some v:=by
 simp[World.cell?,h,hc]
theorem mC(b o n:Nat):(⟨b,o,none⟩:Addr).add n=⟨b,o+n,none⟩:=by
 unfold Addr.add;split<;>simp_all
theorem dS{b off:Nat}{c:Array Value}{T:TypeId}{fr:Nat × Nat}(h:w.heap[b]? =some (.cells c T fr)){vs:List Value}(hv:(c.toList.drop off).take vs.length=vs):Cells w ⟨b,off,none⟩ vs:=by
 intro i v hi;rw[mC];refine aV h ?_;rw[←hv,List.getElem?_take]at hi;split at hi
 ·simpa[List.getElem?_drop]using hi
 ·cases hi
theorem aAW{b off:Nat}{c:Array Value}{T:TypeId}{fr:Nat × Nat}(h:w.heap[b]? =some (.cells c T fr))(v:Value):
 w.setCell ⟨b,off,none⟩ v=lY w b (.cells (c.setIfInBounds off v) T fr):=by
 unfold World.setCell lY;congr 1;apply Array.ext_getElem?;intro i;have hlt:=(Array.getElem?_eq_some_iff.1 h).1;by_cases hi:b=i
 ·subst hi;rw[Array.getElem?_setIfInBounds_self_of_lt hlt,Array.getElem?_modify,if_pos rfl,h];rfl
 ·rw[Array.getElem?_setIfInBounds_ne hi,Array.getElem?_modify,if_neg hi]
theorem sJ:∀(vs:List Value) (i:Nat) {w:World} {b off:Nat} {c:Array Value} {T:TypeId},w.heap[b]? =some (.cells c T (0,0))→off+i+vs.length≤c.size→(∀v∈vs,v.oneCell'=true)→
 (storeCells ⟨b,off,none⟩ vs i).run P w= .ok () (lY w b (.cells (oO c (off+i) vs) T (0,0)))
 |[],i,w,b,off,c,T,h,_,_=>by
  simp only[storeCells,oO,iE];rw[aFH h]
 | v::vs,i,w,b,off,c,T,h,hl,h1=>by
  simp only[List.length_cons]at hl;simp only[storeCells,run_bind];have hcell:w.cell? ((⟨b,off,none⟩:Addr).add i)=some (c[off+i]'(by omega)):=by
   rw[mC];exact aV h (Array.getElem?_eq_getElem (by omega))
  have hfro:w.frozen? ((⟨b,off,none⟩:Addr).add i)=false:=by
   rw[mC];simp[World.frozen?,h]
  have hs:(store ((⟨b,off,none⟩:Addr).add i) v).run P w= .ok () (lY w b (.cells (c.setIfInBounds (off+i) v) T (0,0))):=by
   have hv:v.oneCell'=true:=h1 v (List.mem_cons_self ..);rw[←aAW h];show(Sem.store _ _ v _).run P w=_;cases v<;>first | (simp[Value.oneCell']at hv;done) | (simp only[Sem.run,hcell,hfro];rw[mC];rfl)
  simp only[hs];have h':(lY w b (.cells (c.setIfInBounds (off+i) v) T (0,0))).heap[b]? =some (.cells (c.setIfInBounds (off+i) v) T (0,0)):=rA h;rw[sJ vs (i+1) h' (by simp;omega) (fun u hu=>h1 u (List.mem_cons_of_mem _ hu))];rw[aBu,oO,show off+(i+1)=off+i+1 by omega]
theorem aC4{t:TypeId}{g:Bool}{n:Nat}(ht:tyk P t=some (g,n)){b off:Nat}{c:Array Value}{T:TypeId}(h:w.heap[b]? =some (.cells c T (0,0))){v:Value}
 {vs:List Value} (hv:v.cells.toList=vs) (hn:vs.length=n) (hl:off+vs.length≤c.size) (h1:∀v∈vs,v.oneCell'=true):
 (storeVar t ⟨b,off,none⟩ v).run P w= .ok () (lY w b (.cells (oO c off vs) T (0,0))):=by
 unfold storeVar;subst hv;simp only[run_bind,(sF (w:=w) ht).2];rw[if_neg (by simp at hn;simp[hn])];simpa using sJ (P:=P) v.cells.toList 0 h (by simpa using hl) h1
variable {e : Env} {o : Oper}
theorem jO{t:TypeId}{x:Operand}(ho:o.op= .load t x){a:Addr}(hx:evl e x= .pointer (some a)){v:Value}(h:(loadVar t a).run P w= .ok v w):(execOp (evl e) o).run P w= .ok (.value v) w:=by
 unfold execOp;simp only[ho,hx,run_bind,Instr.loadAt,Instr.sureAddr,iE,h]
theorem vV{t:TypeId}{n:Nat}(ht:tyk P t=some (false,n)){x:Operand}(ho:o.op= .load t x){a:Addr}(hx:evl e x= .pointer (some a)){v:Value}(h:w.cell? a=some v):(execOp (evl e) o).run P w= .ok (.value v) w:=
 jO ho hx (fW ht h)
theorem yJ{t:TypeId}{n:Nat}(ht:tyk P t=some (true,n)){x:Operand}(ho:o.op= .load t x){a:Addr}(hx:evl e x= .pointer (some a)){vs:List Value}(hn:vs.length=n)(h:Cells w a vs):(execOp (evl e) o).run P w= .ok (.value (.agg vs.toArray)) w:=
 jO ho hx (bT ht hn h)
theorem yI{t:TypeId}{g:Bool}{n:Nat}(ht:tyk P t=some (g,n)){x y:Operand}(ho:o.op= .store t x y){b off:Nat}(hx:evl e x= .pointer (some ⟨b,off,none⟩)){v:Value}(hy:evl e y=v)
 {c:Array Value} {T:TypeId} (h:w.heap[b]? =some (.cells c T (0,0))) {vs:List Value} (hv:v.cells.toList=vs) (hn:vs.length=n) (hl:off+vs.length≤c.size) (h1:∀v∈vs,v.oneCell'=true):
 (execOp (evl e) o).run P w= .ok .skip (lY w b (.cells (oO c off vs) T (0,0))):=by
 unfold execOp;simp only[ho,hx,hy,run_bind,Instr.storeAt,Instr.sureAddr,iE,aC4 ht h hv hn hl h1]
def slk(P:Program)(t:TypeId):Option (TypeId × Nat):=
 match P.underlying t with
 | some (.slice e)=>(P.info? e).map fun i=>(e,i.size)
 | _=>none
theorem aFk{t e:TypeId}{n:Nat}(h:slk P t=some (e,n)):P.underlying t=some (.slice e)∧∃i,P.info? e=some i∧i.size=n:=by
 unfold slk at h;split at h
 ·rename_i e' hu;cases hi:P.info? e' with
  | none=>simp[hi]at h
  | some i=>simp[hi]at h;obtain⟨rfl,rfl⟩:=h;exact⟨hu,i,hi,rfl⟩
 ·cases h
theorem aD5{t el:TypeId}{sz:Nat}(ht:slk P t=some (el,sz)){x y:Operand}(ho:o.op= .indexAddr t x y){a:Addr}{n c:Nat}(hx:evl e x= .slice (some a) n c){k:IntKind}{i:Int}(hy:evl e y= .int k i)
 (h0:0≤i) (hn:i<n):iY P (execOp (evl e) o)=some (.value (.pointer (some (a.add (i.toNat*sz))))):=by
 obtain⟨hu,inf,hi,rfl⟩:=aFk ht;unfold execOp;simp[ho,hx,hy,Instr.indexAt,asIntOf,underlying,sizeOf,typeInfo,hu,hi,h0,hn,iY,bind,Sem.bind,pure,Go.program]
theorem aD4{t:TypeId}(ht:P.underlying t=some .string){x y:Operand}(ho:o.op= .index t x y){s:ByteArray}(hx:evl e x= .string s){k:IntKind}{i:Int}(hy:evl e y= .int k i)
 (h0:0≤i) (hn:i<s.size):iY P (execOp (evl e) o)=some (.value (.int .u8 (s[i.toNat]'(by omega)).toNat)):=by
 have hlt:i.toNat<s.size:=by omega
 unfold execOp;simp[ho,hx,hy,Instr.index,asIntOf,underlying,ht,h0,hlt,iY,bind,Sem.bind,pure,Go.program,getElem?_pos]
theorem tV{t t':TypeId}{x y:Operand}(ho:o.op= .binOp .quo t x y t'){k:IntKind}{a b:Int}(hx:evl e x= .int k a)(hy:evl e y= .int k b)(h:b≠0):
 iY P (execOp (evl e) o)=some (.value (.int k (k.wrap (a.tdiv b)))):=by
 unfold execOp;simp[ho,hx,hy,eqGuard,binOp,Op.intDiv,h,iY,bind,Sem.bind,pure]
theorem aGO{t t':TypeId}{x y:Operand}(ho:o.op= .binOp .rem t x y t'){k:IntKind}{a b:Int}(hx:evl e x= .int k a)(hy:evl e y= .int k b)(h:b≠0):
 iY P (execOp (evl e) o)=some (.value (.int k (a.tmod b))):=by
 unfold execOp;simp[ho,hx,hy,eqGuard,binOp,Op.intDiv,h,iY,bind,Sem.bind,pure]
end
section
variable {P : Program} {n : Nat} {ops : Array Oper} {K : Env → World → Prop} {rest : List Oper} {o : Oper} {e : Env} {w : World} {T : List (List Nat)} {pend : List Pend} {r : List Stp}
theorem aAh:∀(l:List (Nat × Value)) (e:Env),(∀p∈l,e p.1=p.2)→upds e l=e
 |[],_,_=>rfl
 | p::l,e,h=>by
  rw[upds,tX (h p (List.mem_cons_self ..))];exact aAh l e fun q hq=>h q (List.mem_cons_of_mem _ hq)
def Agree(e:Env):List (Nat × Value)→Prop
 |[]=>True
 | p::l=>e p.1=p.2∧Agree e l
theorem Agree.eq:∀{l:List (Nat × Value)} {e:Env},Agree e l→e=upds e l
 |[],_,_=>rfl
 | p::l,e,h=>by rw[upds,tX h.1];exact Agree.eq h.2
theorem W_condB{c:Operand}{x y:Code}{b:Bool}{K:rJ}(hc:evl e c= .bool b)(ht:b=true→W P n x K e w)(hf:b=false→W P n y K e w):W P n (.cond c x y) K e w:=by
 cases b with
 | true=>exact wF hc (ht rfl)
 | false=>exact wF hc (hf rfl)
theorem fD{x y:Code}{K:rJ}(J:Env→World→Prop)(h:W P n x (aEB J K) e w)(hJ:∀e w,J e w→W P n y K e w):W P n (.seq x y) K e w:=
 aL (aG4 h fun ex e w hk=>by cases ex<;>first | exact hJ _ _ hk | exact hk)
theorem bS{c:Code}{K:rJ}(I:Nat→Env→World→Prop)(k:Nat)(h0:∀e w,I 0 e w→False)(hI:I k e w)(hr:∀k e w,I (k+1) e w→W P n c (aEB (I k) K) e w):W P n (.loop c) K e w:=by
 refine W_loop (k:=k) ?_;induction k generalizing e w with
 | zero=>exact(h0 _ _ hI).elim
 | succ k ih=>exact aG4 (hr k e w hI) fun ex e w hk=>by cases ex<;>first | exact ih hk | exact hk
theorem aU{id:Nat}{K:rJ}(h:K .normal e w):vZ id K (.exit id) e w:=by simp only[vZ,if_true];exact h
theorem aDo{id id':Nat}{K:rJ}(hne:Nat.beq id' id=false)(h:K (.exit id') e w):vZ id K (.exit id') e w:=by
 have:id'≠id:=fun he=>by subst he;simp at hne
 simp only[vZ,if_neg this];exact h
theorem bD{id:Nat}{K:rJ}(h:K .ret e w):vZ id K .ret e w:=h
theorem aH{A:Env→World→Prop}{K:rJ}(h:K .ret e w):aEB A K .ret e w:=h
theorem aG{id:Nat}{K:rJ}(h:K .normal e w):vZ id K .normal e w:=h
theorem dO(c:Nat){b:Bool}(hc:e c= .bool b)(ht:b=true→WO P n ops K rest (upds e [(c,.bool true)]) w)(hf:b=false→WO P n ops K rest (upds e [(c,.bool false)]) w):WO P n ops K rest e w:=by
 cases b with
 | true=>have:=ht rfl;rwa[upds,upds,tX hc]at this
 | false=>have:=hf rfl;rwa[upds,upds,tX hc]at this
theorem WC_case(c:Nat){b:Bool}(hc:e c= .bool b)(ht:b=true→WC P n ops T K r pend (upds e [(c,.bool true)]) w)(hf:b=false→WC P n ops T K r pend (upds e [(c,.bool false)]) w):WC P n ops T K r pend e w:=by
 cases b with
 | true=>have:=ht rfl;rwa[upds,upds,tX hc]at this
 | false=>have:=hf rfl;rwa[upds,upds,tX hc]at this
theorem sH{v:Value}(hw:bK ops o e=true)(hd:iW n o.dst=true)(hr:iY P (execOp (evl e) o)=some (.value v))(h:WO P n ops K rest (pute e o.dst v) w):WO P n ops K (o::rest) e w:=
 m5 hw hd (tE P _ hr w) h
theorem wG{v:Value}(hw:bK ops o e=true)(hd:iW n o.dst=true)(hr:∀w,(execOp (evl e) o).run P w= .ok (.value v) w)(h:WO P n ops K rest (pute e o.dst v) w):WO P n ops K (o::rest) e w:=
 m5 hw hd (hr w) h
theorem bF(h:K e w):WC P n ops T K [] pend e w:=h
def csteps(P:Program)(n:Nat)(ops:Array Oper):List Stp→Env→Option Env
 |[],e=>some e
 | .p i::r,e=>match ops[i]? with
  | some o=>cond (iW n o.dst)
   (cond (bK ops o e)
    (match iY P (execOp (evl e) o)with
    | some (.value v)=>csteps P n ops r (pute e o.dst v)
    | _=>none)
    (csteps P n ops r (pute e o.dst undef)))
   none
  | none=>none
 | _,_=>none
theorem zJ:∀(l:List Stp) {e e':Env},csteps P n ops l e=some e'→WC P n ops T K r pend e' w→WC P n ops T K (l++r) pend e w
 |[],e,e',h,hk=>by simp only[csteps,Option.some.injEq]at h;subst h;exact hk
 | .l _::l,e,e',h,hk=>by simp[csteps]at h
 | .e _::l,e,e',h,hk=>by simp[csteps]at h
 | .p i::l,e,e',h,hk=>by
  simp only[csteps]at h;split at h
  ·rename_i o ho;cases hd:iW n o.dst with
   | false=>rw[hd]at h;cases h
   | true=>
    rw[hd]at h;simp only[cond_true]at h;refine⟨o,ho,hd,?_⟩;cases hw:bK ops o e with
    | false=>
     rw[hw]at h;exact zJ l h hk
    | true=>
     rw[hw]at h;simp only[cond_true]at h;split at h
     ·rename_i v hv;exact⟨v,tE P _ hv,zJ l h hk⟩
     ·cases h
  ·cases h
theorem aA1{i:Nat}{v:Value}(ho:ops[i]? =some o)(hd:iW n o.dst=true)(hw:bK ops o e=true)(hr:iY P (execOp (evl e) o)=some (.value v))(h:WC P n ops T K r pend (pute e o.dst v) w):WC P n ops T K (.p i::r) pend e w:=
 ⟨o,ho,hd,by rw[hw];exact⟨v,tE P _ hr,h⟩⟩
theorem aCR{i:Nat}{v:Value}(ho:ops[i]? =some o)(hd:iW n o.dst=true)(hw:bK ops o e=true)(hr:∀w,(execOp (evl e) o).run P w= .ok (.value v) w)(h:WC P n ops T K r pend (pute e o.dst v) w):WC P n ops T K (.p i::r) pend e w:=
 ⟨o,ho,hd,by rw[hw];exact⟨v,hr,h⟩⟩
theorem aG9{i:Nat}{v:Value}(ho:ops[i]? =some o)(hd:iW n o.dst=true)(hw:bK ops o e=true)(hr:(execOp (evl e) o).run P w= .ok (.value v) w)(h:WC P n ops T K r (⟨i,execOp (evl e) o,v⟩::pend) (pute e o.dst v) w):WC P n ops T K (.l i::r) pend e w:=
 ⟨o,ho,hd,by rw[hw];exact⟨v,hr,h⟩⟩
theorem aG8{i:Nat}(ho:ops[i]? =some o)(hd:iW n o.dst=true)(hw:bK ops o e=false)(h:WC P n ops T K r pend (pute e o.dst undef) w):WC P n ops T K (.l i::r) pend e w:=
 ⟨o,ho,hd,by rw[hw];exact h⟩
theorem aGb{i:Nat}(ho:ops[i]? =some o)(hd:iW n o.dst=true)(hw:bK ops o e=false)(h:WC P n ops T K r pend (pute e o.dst undef) w):WC P n ops T K (.e i::r) pend e w:=
 ⟨o,ho,hd,by rw[hw];exact h⟩
def pfilter(T:List (List Nat))(i:Nat):List Pend→List Pend
 |[]=>[]
 | p::l=>cond (later T i p.i) (pfilter T i l) (p::pfilter T i l)
theorem aBF(T:List (List Nat))(i:Nat):∀l:List Pend,(l.filter fun p=> !later T i p.i)=pfilter T i l
 |[]=>rfl
 | p::l=>by
  simp only[List.filter_cons,pfilter,aBF T i l];cases later T i p.i<;>simp
def AllOk(P:Program)(w:World):List Pend→Prop
 |[]=>True
 | p::l=>p.ok P w∧AllOk P w l
theorem AllOk.mem{l:List Pend}(h:AllOk P w l):∀p∈l,p.ok P w:=by
 induction l with
 | nil=>intro p hp;cases hp
 | cons q l ih=>
  intro p hp;rcases List.mem_cons.1 hp with rfl | hp
  ·exact h.1
  ·exact ih h.2 p hp
theorem jW{i:Nat}{s:Sem Next}{v:Value}(h:s.run P w= .ok (.value v) w):Pend.ok P ⟨i,s,v⟩ w:=h
theorem AllOk.nil:AllOk P w []:=trivial
theorem AllOk.cons{p:Pend}{l:List Pend}(h:p.ok P w)(k:AllOk P w l):AllOk P w (p::l):=⟨h,k⟩
theorem WC_e{i:Nat}(ho:ops[i]? =some o)(hd:iW n o.dst=true)(hw:bK ops o e=true)
 (h:pE P (execOp (evl e) o) w fun v w'=>AllOk P w' (pfilter T i pend)∧WC P n ops T K r (pfilter T i pend) (pute e o.dst v) w'):WC P n ops T K (.e i::r) pend e w:=
 ⟨o,ho,hd,by rw[hw];exact xK h fun v w' ⟨h1,h2⟩=>by rw[aBF];exact⟨h1.mem,h2⟩⟩
theorem rO{s:Sem Next}{v:Value}{w':World}{K:Value→World→Prop}(h:s.run P w= .ok (.value v) w')(hK:K v w'):pE P s w K:=by unfold pE;rw[h];exact hK
theorem aDv{s:Sem Next}{w':World}{K:Value→World→Prop}(h:s.run P w= .ok .skip w')(hK:K undef w'):pE P s w K:=by unfold pE;rw[h];exact hK
theorem aDw{s:Sem Next}{f:FuncId}{args:Array Value}{K:Value→World→Prop}(h:s.run P w= .ok (.enter f args) w)(hK:Calls P f args w fun en w''=>∃v,en= .returned v∧K v w''):pE P s w K:=by unfold pE;rw[h];exact hK
end
def NN(p:Option Addr)(K:Addr→Prop):Prop:=∃a,p=some a∧K a
def LdI(k:IntKind)(w:World)(a:Addr)(K:Int→Prop):Prop:=∃x,w.cell? a=some (.int k x)∧K x
def LdB(w:World)(a:Addr)(K:Bool→Prop):Prop:=∃x,w.cell? a=some (.bool x)∧K x
def LdS(w:World)(a:Addr)(K:ByteArray→Prop):Prop:=∃x,w.cell? a=some (.string x)∧K x
def LdP(w:World)(a:Addr)(K:Option Addr→Prop):Prop:=∃x,w.cell? a=some (.pointer x)∧K x
def dU(w:World)(a:Addr)(K:Option Addr→Nat→Nat→Prop):Prop:=∃x n c,w.cell? a=some (.slice x n c)∧K x n c
def LdV(w:World)(a:Addr)(K:Value→Prop):Prop:=∃x,w.cell? a=some x∧K x
def LdT{α:Type}(enc:α→List Value)(w:World)(a:Addr)(K:α→Prop):Prop:=∃x,Cells w a (enc x)∧K x
def St(w:World)(a:Addr)(vs:List Value)(K:World→Prop):Prop:=∃b off c T,a=⟨b,off,none⟩∧w.heap[b]? =some (.cells c T (0,0))∧off+vs.length≤c.size∧K (lY w b (.cells (oO c off vs) T (0,0)))
def Al(w:World)(o:Obj)(K:Nat→World→Prop):Prop:=K w.heap.size (w.alloc o)
def Dr(w:World)(K:World→Prop):Prop:=K w.drew
def Ix(a:Option Addr)(n:Nat)(i:Int)(K:Addr→Prop):Prop:=∃b,a=some b∧0≤i∧i<n∧K b
def IxS(s:ByteArray)(i:Int)(K:Int→Prop):Prop:=∃(_:0≤i) (h:i<s.size),K ((s[i.toNat]'(by omega)).toNat)
def Ifb(b:Bool)(A B:Prop):Prop:=(b=true→A)∧(b=false→B)
def Ap(P:Program)(w:World)(ts:Array TypeId)(t:TypeId)(x y:Value)(K:Option Addr→Nat→Nat→World→Prop):Prop:=
 ∃a n c w',(Builtin.append_ ts t #[x,y]).run P w= .ok (.slice a n c) w'∧K a n c w'
def Kp(b:Nat)(w w':World):Prop:=w'.heap[b]? =w.heap[b]?
def dF(x y:ByteArray):Bool:=x.toList==y.toList
def iO(x y:ByteArray):Bool:=Op.bytesLess x.toList y.toList
end Go.Wx
namespace Go.Wx
open Go
def Sb(w:World)(b:Nat)(o:Obj)(K:World→Prop):Prop:=K (lY w b o)
def Cl(P:Program)(f:FuncId)(args:Array Value)(w:World)(R:Value→World→Prop):Prop:=Calls P f args w fun en w'=>∃v,en= .returned v∧R v w'
def aB6(P:Program)(f:FuncId):Bool:=
 match P.funcs[f]? with
 | some fn=> !(fn.name== "runtime.NumGoroutine")&&fn.body.isSome
 | none=>false
def Clv(P:Program)(v:Value)(args:Array Value)(w:World)(R:Value→World→Prop):Prop:=∃g c,v= .func (.func g) #[] c∧aB6 P g=true∧Cl P g (args++c) w R
def aGG:Value→Bool
 | .func _ _ _ | .nilFunc=>true
 | _=>false
def aAO:Value→Bool
 | .agg _ | .tuple _=>false
 | _=>true
def aBQ:Value→Bool
 | .nilFunc=>true
 | _=>false
theorem Cl.mono{P:Program}{f:FuncId}{args:Array Value}{w:World}{R R':Value→World→Prop}(h:Cl P f args w R)(hr:∀v w',R v w'→R' v w'):Cl P f args w R':=
 Calls.mono h fun _ _ ⟨v,he,hv⟩=>⟨v,he,hr _ _ hv⟩
section
variable {P : Program} {n : Nat} {ops : Array Oper} {K : Env → World → Prop} {rest : List Oper} {o : Oper} {e : Env} {w : World} {T : List (List Nat)} {pend : List Pend} {r : List Stp}
theorem jV(J:Env→World→Prop)(h:WO P n ops J rest e w)(hJ:∀e w,J e w→K e w):WO P n ops K rest e w:=by
 intro a ha;have:=h a ha;have hm:∀(l:List Oper) (a:Act) (w:World),wpList P ops (Qr n J) l a w→wpList P ops (Qr n K) l a w:=by
  intro l;induction l with
  | nil=>intro a w h;obtain⟨e,hr,hj⟩:=h;exact⟨e,hr,hJ _ _ hj⟩
  | cons o l ih=>
   intro a w h;simp only[wpList]at h ⊢;split
   ·rename_i hw;rw[if_pos hw]at h;rcases h with h | ⟨h1,a0,w0,h2⟩
    ·refine .inl ?_;have h:=Oper.wp_mono (fun a w=>ih a w) h;unfold Oper.wp at h ⊢;generalize (execOp a.eval o).run P w=rr at h ⊢;cases rr with
     | ok nx w'=>
      cases nx<;>simp only[Oper.upon]at h ⊢<;>first
       | exact h
       | exact Calls.mono h (fun en w'' he=>by cases en<;>first | exact he | exact he.elim | (obtain⟨_,_,hq⟩:=he;exact hq.elim))
     | halt x w'=>cases x<;>simp only[Oper.upon]at h ⊢<;>exact h
    ·exact h2.elim
   ·rename_i hw;rw[if_neg hw]at h;exact ih _ _ h
 exact hm rest a w this
theorem aG7{obj:Obj}{vf:Nat→Value}(hw:bK ops o e=true)(hd:iW n o.dst=true)(hr:(execOp (evl e) o).run P w= .ok (.value (vf w.heap.size)) (w.alloc obj))
 (h:∀b w',b=w.heap.size→w'=w.alloc obj→WO P n ops K rest (pute e o.dst (vf b)) w'):WO P n ops K (o::rest) e w:=m5 hw hd hr (h _ _ rfl rfl)
theorem WO_sb{b:Nat}{c:Array Value}{vs:List Value}{off:Nat}{t:TypeId}{o':Obj}(hw:bK ops o e=true)(hd:iW n o.dst=true)(hr:(execOp (evl e) o).run P w= .ok .skip (lY w b (.cells (oO c off vs) t (0,0))))
 (hc:Obj.cells (oO c off vs) t (0,0)=o') (h:∀w',w'=lY w b o'→WO P n ops K rest (pute e o.dst undef) w'):WO P n ops K (o::rest) e w:=by
 subst hc;exact aCy hw hd hr (h _ rfl)
theorem WO_st{b:Nat}{o':Obj}(hw:bK ops o e=true)(hd:iW n o.dst=true)(hr:(execOp (evl e) o).run P w= .ok .skip (lY w b o'))
 (h:∀w',w'=lY w b o'→WO P n ops K rest (pute e o.dst undef) w'):WO P n ops K (o::rest) e w:=aCy hw hd hr (h _ rfl)
theorem aEy{i:Nat}{v:Value}{w':World}(ho:ops[i]? =some o)(hd:iW n o.dst=true)(hw:bK ops o e=true)(hr:(execOp (evl e) o).run P w= .ok (.value v) w')
 (h:AllOk P w' (pfilter T i pend)∧WC P n ops T K r (pfilter T i pend) (pute e o.dst v) w'):WC P n ops T K (.e i::r) pend e w:=WC_e ho hd hw (rO hr h)
theorem aGa{i:Nat}{w':World}(ho:ops[i]? =some o)(hd:iW n o.dst=true)(hw:bK ops o e=true)(hr:(execOp (evl e) o).run P w= .ok .skip w')
 (h:AllOk P w' (pfilter T i pend)∧WC P n ops T K r (pfilter T i pend) (pute e o.dst undef) w'):WC P n ops T K (.e i::r) pend e w:=WC_e ho hd hw (aDv hr h)
theorem WC_sb{i:Nat}{b:Nat}{c:Array Value}{vs:List Value}{off:Nat}{t:TypeId}{o':Obj}(ho:ops[i]? =some o)(hd:iW n o.dst=true)(hw:bK ops o e=true)(hr:(execOp (evl e) o).run P w= .ok .skip (lY w b (.cells (oO c off vs) t (0,0))))
 (hc:Obj.cells (oO c off vs) t (0,0)=o') (h:∀w',w'=lY w b o'→AllOk P w' (pfilter T i pend)∧WC P n ops T K r (pfilter T i pend) (pute e o.dst undef) w'):WC P n ops T K (.e i::r) pend e w:=by
 subst hc;exact aGa ho hd hw hr (h _ rfl)
theorem WC_st{i:Nat}{b:Nat}{o':Obj}(ho:ops[i]? =some o)(hd:iW n o.dst=true)(hw:bK ops o e=true)(hr:(execOp (evl e) o).run P w= .ok .skip (lY w b o'))
 (h:∀w',w'=lY w b o'→AllOk P w' (pfilter T i pend)∧WC P n ops T K r (pfilter T i pend) (pute e o.dst undef) w'):WC P n ops T K (.e i::r) pend e w:=aGa ho hd hw hr (h _ rfl)
theorem aEz{i:Nat}{f:FuncId}{args:Array Value}(ho:ops[i]? =some o)(hd:iW n o.dst=true)(hw:bK ops o e=true)(hr:(execOp (evl e) o).run P w= .ok (.enter f args) w)
 (h:Calls P f args w fun en w''=>∃v,en= .returned v∧(AllOk P w'' (pfilter T i pend)∧WC P n ops T K r (pfilter T i pend) (pute e o.dst v) w'')):WC P n ops T K (.e i::r) pend e w:=WC_e ho hd hw (aDw hr h)
end
section
variable {P : Program} {w w' : World} {b : Nat} {e : Env} {o : Oper}
theorem Al.at{ob:Obj}{K:Nat→World→Prop}(h:Al w ob K)(eb:b=w.heap.size)(ew:w'=w.alloc ob):K b w':=by subst eb;subst ew;exact h
theorem Sb.at{ob:Obj}{K:World→Prop}(h:Sb w b ob K)(ew:w'=lY w b ob):K w':=by subst ew;exact h
theorem Dr.at{K:World→Prop}(h:Dr w K)(ew:w'=w.drew):K w':=by subst ew;exact h
theorem dN{ob:Option Obj}(ew:w'=w.drew)(h:w.heap[b]? =ob):w'.heap[b]? =ob:=by subst ew;exact h
theorem aEs{ob:Obj}(h:w.heap[b]? =some ob):b<w.heap.size:=(Array.getElem?_eq_some_iff.1 h).1
theorem fQ{ob o2:Obj}(ew:w'=w.alloc o2)(h:w.heap[b]? =some ob):w'.heap[b]? =some ob:=by
 subst ew;rw[heap_alloc_old w o2 (aEs h)];exact h
theorem wC{ob:Obj}(eb:b=w.heap.size)(ew:w'=w.alloc ob):w'.heap[b]? =some ob:=by subst eb;subst ew;exact heap_alloc_new w ob
theorem lR{b2:Nat}{ob:Obj}(h:w.heap[b]? =some ob)(eb:b2=w.heap.size):b≠b2:=by have:=aEs h;omega
theorem aFn{ob o2:Obj}(ew:w'=lY w b o2)(h:w.heap[b]? =some ob):w'.heap[b]? =some o2:=by subst ew;exact rA h
theorem dC{b2:Nat}{ob:Option Obj}{o2:Obj}(ew:w'=lY w b2 o2)(hne:b≠b2)(h:w.heap[b]? =ob):w'.heap[b]? =ob:=by subst ew;rw[vE hne];exact h
theorem bG{ob:Option Obj}(hk:Kp b w w')(h:w.heap[b]? =ob):w'.heap[b]? =ob:=hk.trans h
theorem oE{a:Addr}{v:Value}{ob:Obj}(ew:w'=w.alloc ob)(h:w.cell? a=some v):w'.cell? a=some v:=by
 subst ew;have hlt:=World.block_lt_of_cell? w a h;exact(World.cell?_of_block (heap_alloc_old w ob hlt)).trans h
theorem aG3{a:Addr}{vs:List Value}{ob:Obj}(ew:w'=w.alloc ob)(h:Cells w a vs):Cells w' a vs:=fun i v hv=>oE ew (h i v hv)
theorem ex_nn{x:Operand}(ho:o.op= .nilCheck x){a:Addr}(hx:evl e x= .pointer (some a)):iY P (execOp (evl e) o)=some (.value (.pointer (some a))):=by
 unfold execOp;simp only[ho,hx];rfl
theorem aCq{t:TypeId}{x:Operand}{v:Value}(ho:o.op= .box t x)(hx:evl e x=v)(hv:aAO v=true):(execOp (evl e) o).run P w= .ok (.value (.pointer (some ⟨w.heap.size,0,none⟩))) (w.alloc (.cells #[v] t)):=by
 unfold execOp;cases v<;>first | (simp[aAO]at hv;done) | (simp only[ho,hx];rfl)
theorem yY{ts:Array TypeId}{x y:Operand}{vx vy:Value}{a:Option Addr}{m c:Nat}(ho:o.op= .call {callee:= .builtin .append,args:= #[x,y],argTypes:=ts})(hx:evl e x=vx)(hy:evl e y=vy)
 (h:(Builtin.append_ ts o.type #[vx,vy]).run P w= .ok (.slice a m c) w'):(execOp (evl e) o).run P w= .ok (.value (.slice a m c)) w':=by
 unfold execOp;simp only[ho,resolve,invoke,builtin,run_bind,iE];simp[hx,hy,h]
theorem yX{t:TypeId}{x y:Operand}{vx vy v:Value}{ok:Bool}(ho:o.op= .lookup t x y ok)(hx:evl e x=vx)(hy:evl e y=vy)(h:(Instr.lookup t vx vy ok).run P w= .ok v w'):(execOp (evl e) o).run P w= .ok (.value v) w':=by
 unfold execOp;simp only[ho,hx,hy,run_bind,h,iE]
theorem aD6{x:Operand}{vx v:Value}(ho:o.op= .entry x)(hx:evl e x=vx)(h:(Instr.entry vx).run P w= .ok v w'):(execOp (evl e) o).run P w= .ok (.value v) w':=by
 unfold execOp;simp only[ho,hx,run_bind,h,iE]
theorem aCp{t:TypeId}{x y z:Operand}{vx vy vz:Value}(ho:o.op= .mapUpdate t x y z)(hx:evl e x=vx)(hy:evl e y=vy)(hz:evl e z=vz)(h:(Instr.mapUpdate t vx vy vz).run P w= .ok () w'):(execOp (evl e) o).run P w= .ok .skip w':=by
 unfold execOp;simp only[ho,hx,hy,hz,run_bind,h,iE]
theorem aD3{t:TypeId}{x y:Operand}{vx vy v:Value}(ho:o.op= .mapEntry t x y)(hx:evl e x=vx)(hy:evl e y=vy)(h:(Instr.mapEntry t vx vy).run P w= .ok v w'):(execOp (evl e) o).run P w= .ok (.value v) w':=by
 unfold execOp;simp only[ho,hx,hy,run_bind,h,iE]
theorem aBi{t:TypeId}{x y z:Operand}{vx vy vz:Value}(ho:o.op= .entryStore t x y z)(hx:evl e x=vx)(hy:evl e y=vy)(hz:evl e z=vz)(h:(Instr.entryStore t vx vy vz).run P w= .ok () w'):(execOp (evl e) o).run P w= .ok .skip w':=by
 unfold execOp;simp only[ho,hx,hy,hz,run_bind,h,iE]
theorem aB0{t:TypeId}{x:Operand}{vx v:Value}(ho:o.op= .range t x)(hx:evl e x=vx)(h:(Instr.range t vx).run P w= .ok v w'):(execOp (evl e) o).run P w= .ok (.value v) w':=by
 unfold execOp;simp only[ho,hx,run_bind,h,iE]
theorem wR{x:Operand}{s:Bool}{vx v:Value}(ho:o.op= .next x s)(hx:evl e x=vx)(h:(Instr.next vx s o.type).run P w= .ok v w'):(execOp (evl e) o).run P w= .ok (.value v) w':=by
 unfold execOp;simp only[ho,hx,run_bind,h,iE]
theorem aC5{g:FuncId}(hf:aB6 P g=true)(args:Array Value):(callFunc g args).run P w= .ok (.enter g args) w:=by
 unfold aB6 at hf;unfold callFunc;simp only[run_bind,Go.program,Sem.run];cases hg:P.funcs[g]? with
 | none=>rw[hg]at hf;cases hf
 | some fn=>
  rw[hg]at hf;simp only[Bool.and_eq_true,Bool.not_eq_true']at hf;obtain⟨h1,h2⟩:=hf;have h3:fn.body.isNone=false:=by cases hb:fn.body<;>simp_all
  simp only[h1,h3,iE,if_false,Bool.false_eq_true]
theorem aD7{ts:Array TypeId}{x:Operand}{xs:Array Operand}{args:Array Value}{g:FuncId}{c:Array Value}(ho:o.op= .call {callee:= .value x,args:=xs,argTypes:=ts})
 (hx:evl e x= .func (.func g) #[] c) (ha:xs.map (evl e)=args) (hf:aB6 P g=true):(execOp (evl e) o).run P w= .ok (.enter g (args++c)) w:=by
 unfold execOp;simp only[ho,resolve,hx,ha,Deferred.ofValue,run_bind,iE,invoke];simpa using aC5 hf (args++c)
theorem aC7{fn:Func}{p:Tmp}{ty:TypeId}(h:fn.results= #[.cell p ty])(tmps:Array Value)(P:Program)(w:World):
 (results fn tmps).run P w=((asAddr (tmps.getD p undef)).run P w).andThen fun a w₁=>(loadVar ty a).run P w₁:=by
 simp only[results,h];simp[Sem.run_bind,Result.andThen]
theorem retc{fn:Func}{n:Nat}{R:Value→World→Prop}{t ty:Nat}(h:fn.results= #[.cell t ty]){v:Value}{a:Addr}(ha:e t= .pointer (some a))(hl:(loadVar ty a).run P w= .ok v w)(hR:R v w):aAY fn P n R .ret e w:=fun ac hr=>⟨v,by
 rw[aC7 h,(hr.get t).trans ha];exact hl,hR⟩
theorem tF{α β:Type}(s:Sem α)(f:α→Sem β):iY P (s>>=f)=(iY P s).bind fun a=>iY P (f a):=by
 show iY P (Sem.bind s f)=_;induction s with
 | pure a=>rfl
 | program k ih=>exact ih P
 | mark m k ih=>exact ih
 | _=>rfl
theorem tP{t:TypeId}{d:TypeDesc}(h:P.underlying t=some d):iY P (underlying t)=some d:=by
 unfold underlying;simp only[tF,Go.program,iY,Option.bind_some,h];rfl
inductive NilK | ptr | sl | map | fn | no
def aBf(P:Program)(t:TypeId):NilK:=
 match P.underlying t with
 | some (.pointer _)=> .ptr
 | some (.slice _)=> .sl
 | some (.map _ _)=> .map
 | some (.func _ _ _)=> .fn
 | _=> .no
theorem aB1(t:TypeId)(x y:Value):Op.equal t x y=Op.equalIn (9999+1) t x y:=rfl
theorem yA{t:TypeId}(h:aBf P t= .ptr)(p:Option Addr):iY P (Op.equal t (.pointer p) (.pointer none))=some p.isNone:=by
 unfold aBf at h;split at h<;>try cases h
 rename_i el hu;rw[aB1,Op.equalIn];simp only[tF,tP hu,Option.bind_some];cases p<;>rfl
theorem aDL{t:TypeId}(h:aBf P t= .sl)(p:Option Addr)(n c:Nat):iY P (Op.equal t (.slice p n c) (.slice none 0 0))=some p.isNone:=by
 unfold aBf at h;split at h<;>try cases h
 rename_i el hu;rw[aB1,Op.equalIn];simp only[tF,tP hu,Option.bind_some];cases p<;>rfl
theorem aDM{t:TypeId}(h:aBf P t= .fn){v:Value}(hv:aGG v=true):iY P (Op.equal t v .nilFunc)=some (aBQ v):=by
 unfold aBf at h;split at h<;>try cases h
 rename_i _ _ _ hu;rw[aB1,Op.equalIn];simp only[tF,tP hu,Option.bind_some];cases v<;>first | rfl | (simp[aGG]at hv;done)
theorem jE{t t':TypeId}{x y:Operand}{p:Option Addr}(ht:aBf P t= .ptr)(ho:o.op= .binOp .eql t x y t')(hx:evl e x= .pointer p)(hy:evl e y= .pointer none):iY P (execOp (evl e) o)=some (.value (.bool p.isNone)):=by
 unfold execOp;simp only[ho,hx,hy,eqGuard,binOp,tF,yA ht];rfl
theorem aAZ{t t':TypeId}{x y:Operand}{p:Option Addr}(ht:aBf P t= .ptr)(ho:o.op= .binOp .neq t x y t')(hx:evl e x= .pointer p)(hy:evl e y= .pointer none):iY P (execOp (evl e) o)=some (.value (.bool (!p.isNone))):=by
 unfold execOp;simp only[ho,hx,hy,eqGuard,binOp,tF,yA ht];rfl
theorem pP{t t':TypeId}{x y:Operand}{p:Option Addr}{n c:Nat}(ht:aBf P t= .sl)(ho:o.op= .binOp .eql t x y t')(hx:evl e x= .slice p n c)(hy:evl e y= .slice none 0 0):iY P (execOp (evl e) o)=some (.value (.bool p.isNone)):=by
 unfold execOp;simp only[ho,hx,hy,eqGuard,binOp,tF,aDL ht];rfl
theorem aCo{t t':TypeId}{x y:Operand}{v:Value}(ht:aBf P t= .fn)(ho:o.op= .binOp .neq t x y t')(hx:evl e x=v)(hy:evl e y= .nilFunc)(hv:aGG v=true):iY P (execOp (evl e) o)=some (.value (.bool (!aBQ v))):=by
 have hq:=aDM ht hv;unfold execOp;cases v<;>first | (simp only[ho,hx,hy,eqGuard,binOp,tF,hq];rfl) | (simp[aGG]at hv;done)
theorem rE{t t':TypeId}{x y:Operand}{xs ys:Array Value}{b:Bool}(hg:P.eqGuardType P.depth t=false)(hq:∀w,(Op.equal t (.agg xs) (.agg ys)).run P w= .ok b w)(ho:o.op= .binOp .eql t x y t')
 (hx:evl e x= .agg xs) (hy:evl e y= .agg ys):∀w,(execOp (evl e) o).run P w= .ok (.value (.bool b)) w:=by
 intro w;unfold execOp;simp only[ho,hx,hy,run_bind,run_eqGuard_agg w _ t x y xs ys hg,binOp,hq,iE]
theorem sB{t t':TypeId}{x y:Operand}{xs ys:Array Value}{b:Bool}(hg:P.eqGuardType P.depth t=false)(hq:∀w,(Op.equal t (.agg xs) (.agg ys)).run P w= .ok b w)(ho:o.op= .binOp .neq t x y t')
 (hx:evl e x= .agg xs) (hy:evl e y= .agg ys):∀w,(execOp (evl e) o).run P w= .ok (.value (.bool (!b))) w:=by
 intro w;unfold execOp;simp only[ho,hx,hy,run_bind,run_eqGuard_agg w _ t x y xs ys hg,binOp,hq,iE]
theorem ifnot{r s:Bool}{X:Sem Bool}(hX:X.run P w= .ok s w):(if(!r)=true then(Pure.pure false:Sem Bool)else X).run P w= .ok (r&&s) w:=by
 cases r
 ·rfl
 ·simpa using hX
theorem wS{d:Nat}{xs ys:Array Value}:(Op.eqFields d xs ys []).run P w= .ok true w:=rfl
theorem lC{d:Nat}{xs ys:Array Value}{f:Field}{fs:List Field}{a b:Value}{r s:Bool}(hn:(decide (f.name≠ "_"))=true)(ha:(part f.type xs f.offset).run P w= .ok a w)(hb:(part f.type ys f.offset).run P w= .ok b w)
 (hr:(Op.equalIn d f.type a b).run P w= .ok r w) (hs:(Op.eqFields d xs ys fs).run P w= .ok s w):(Op.eqFields d xs ys (f::fs)).run P w= .ok (r&&s) w:=by
 simp only[Op.eqFields];rw[if_pos (of_decide_eq_true hn)];simp only[run_bind,ha,hb,hr];exact ifnot hs
end
end Go.Wx
namespace Go.Wx
open Go
abbrev vi(x:Int):Value:= .int .i64 x
abbrev vu(x:Int):Value:= .int .u8 x
abbrev vb(x:Bool):Value:= .bool x
abbrev vs(x:ByteArray):Value:= .string x
abbrev vp(a:Addr):Value:= .pointer (some a)
abbrev vP(a:Option Addr):Value:= .pointer a
abbrev vl(a:Option Addr)(n c:Nat):Value:= .slice a n c
abbrev vg(l:List Value):Value:= .agg l.toArray
abbrev wr(x:Int):Int:=IntKind.wrap .i64 x
theorem aBb:∀(l:List Value) (e:Env) (k:Nat),(∀i,i<l.length→e (k+i)=l.getD i undef)→Agree e (l.zipIdx k |>.map fun p=>(p.2,p.1))
 |[],_,_,_=>trivial
 | v::l,e,k,h=>by
  simp only[List.zipIdx_cons,List.map_cons,Agree];refine⟨by simpa using h 0 (by simp),aBb l e (k+1) fun i hi=>?_⟩;have:=h (i+1) (by simp;omega);simpa[Nat.add_assoc,Nat.add_comm 1 i]using this
def idxs:Nat→List Value→List (Nat × Value)
 | _,[]=>[]
 | k,v::l=>(k,v)::idxs (k+1) l
theorem aEk:∀(l:List Value) (k:Nat),idxs k l=(l.zipIdx k |>.map fun p=>(p.2,p.1))
 |[],_=>rfl
 | v::l,k=>by simp[idxs,aEk l (k+1)]
theorem aI{P:Program}{f:FuncId}{fn:Func}{c:Code}{args:List Value}{w:World}{R:Value→World→Prop}{n:Nat}
 (hf:P.funcs[f]? =some fn) (h:W P n c (aAY fn P n R) (upds (aCQ args) (idxs 0 args)) w) (hb:fn.body=some c:=by rfl) (hn:fn.ntmps=n:=by rfl) (hle:Nat.ble args.length n=true:=by rfl):Cl P f args.toArray w R:=by
 refine calls_W hf hb hn hle ?_;have:Agree (aCQ args) (idxs 0 args):=by
  rw[aEk];exact aBb args (aCQ args) 0 fun i _=>by simp[aCQ]
 rw[this.eq];exact h
section
variable {P : Program} {n : Nat} {ops : Array Oper} {K : Env → World → Prop} {rest : List Oper} {o : Oper} {e : Env} {w : World} {T : List (List Nat)} {pend : List Pend} {r : List Stp}
theorem ci{c:Operand}{x y:Code}{b:Bool}{A B:Prop}{K:rJ}(h:Ifb b A B)(ht:A→W P n x K e w)(hf:B→W P n y K e w)(hc:evl e c= .bool b:=by rfl):W P n (.cond c x y) K e w:=
 W_condB hc (fun hb=>ht (h.1 hb)) (fun hb=>hf (h.2 hb))
theorem cs(c:Nat){b:Bool}{A B:Prop}(h:Ifb b A B)(ht:A→WO P n ops K rest (upds e [(c,.bool true)]) w)(hf:B→WO P n ops K rest (upds e [(c,.bool false)]) w)(hc:e c= .bool b:=by rfl):WO P n ops K rest e w:=
 dO c hc (fun hb=>ht (h.1 hb)) (fun hb=>hf (h.2 hb))
theorem ps{l:List Oper}(k:Nat)(u:List (Nat × Value))(hk:WO P n ops K (l.drop k) (upds e u) w)(h:psteps P n ops (l.take k) e=some (upds e u):=by kernel_rfl):WO P n ops K l e w:=aG6 k u h hk
theorem sb{b off m:Nat}{g:Bool}{c:Array Value}{t ty:TypeId}{x y:Operand}{o':Obj}{v:Value}{A:World→Prop}(ht:tyk P t=some (g,m))(hb:w.heap[b]? =some (.cells c ty (0,0)))(h:Sb w b o' A)(hk:∀w',w'=lY w b o'→w'.heap[b]? =some o'→A w'→WO P n ops K rest (pute e o.dst undef) w')
 (hw:bK ops o e=true:=by rfl) (hd:iW n o.dst=true:=by rfl) (ho:o.op= .store t x y:=by rfl) (ha:evl e x= .pointer (some ⟨b,off,none⟩):=by rfl) (hy:evl e y=v:=by rfl) (hn:Nat.beq v.cells.toList.length m=true:=by rfl)
 (hl:Nat.ble (off+v.cells.toList.length) c.size=true:=by rfl) (h1:v.cells.toList.all Value.oneCell'=true:=by rfl) (hc:Obj.cells (oO c off v.cells.toList) ty (0,0)=o':=by kernel_rfl):WO P n ops K (o::rest) e w:=
 WO_sb hw hd (yI ht ho ha hy hb rfl (Nat.eq_of_beq_eq_true hn) (Nat.le_of_ble_eq_true hl) (fun v hv=>List.all_eq_true.1 h1 v hv)) hc fun _ ew=>hk _ ew (aFn ew hb) (Sb.at h ew)
theorem st{m:Nat}{g:Bool}{t:TypeId}{x y:Operand}{a:Addr}{v:Value}{vs:List Value}{A:World→Prop}(ht:tyk P t=some (g,m))(h:St w a vs A)(hk:∀w',A w'→WO P n ops K rest (pute e o.dst undef) w')
 (hw:bK ops o e=true:=by rfl) (hd:iW n o.dst=true:=by rfl) (ho:o.op= .store t x y:=by rfl) (ha:evl e x= .pointer (some a):=by rfl) (hy:evl e y=v:=by rfl) (hv:v.cells.toList=vs:=by rfl) (hn:Nat.beq vs.length m=true:=by rfl)
 (h1:vs.all Value.oneCell'=true:=by rfl):WO P n ops K (o::rest) e w:=by
 obtain⟨b,off,c,T,rfl,hs,hl,hA⟩:=h;exact WO_st hw hd (yI ht ho ha hy hs hv (Nat.eq_of_beq_eq_true hn) hl (fun v hv=>List.all_eq_true.1 h1 v hv)) fun _ ew=>hk _ (by subst ew;exact hA)
theorem cl{f:FuncId}{args:Array Value}{R:Value→World→Prop}(h:Cl P f args w R)(hk:∀v w',R v w'→WO P n ops K rest (pute e o.dst v) w')(hw:bK ops o e=true:=by rfl)(hd:iW n o.dst=true:=by rfl)
 (hr:(execOp (evl e) o).run P w= .ok (.enter f args) w:=by kernel_rfl):WO P n ops K (o::rest) e w:=
 aEx hw hd hr (Calls.mono h fun _ _ ⟨v,he,hv⟩=>⟨v,he,hk _ _ hv⟩)
theorem clv{ts:Array TypeId}{x:Operand}{xs:Array Operand}{args:Array Value}{fv:Value}{R:Value→World→Prop}(h:Clv P fv args w R)(hk:∀v w',R v w'→WO P n ops K rest (pute e o.dst v) w')(hw:bK ops o e=true:=by rfl)(hd:iW n o.dst=true:=by rfl)
 (ho:o.op= .call {callee:= .value x,args:=xs,argTypes:=ts}:=by rfl) (hx:evl e x=fv:=by rfl) (ha:xs.map (evl e)=args:=by kernel_rfl):WO P n ops K (o::rest) e w:=by
 obtain⟨g,c,rfl,hf,h⟩:=h;exact aEx hw hd (aD7 ho hx ha hf) (Calls.mono h fun _ _ ⟨v,he,hv⟩=>⟨v,he,hk _ _ hv⟩)
theorem ap{ts:Array TypeId}{ty:TypeId}{x y:Operand}{vx vy:Value}{A:Option Addr→Nat→Nat→World→Prop}(h:Ap P w ts ty vx vy A)(hk:∀a m c w',A a m c w'→WO P n ops K rest (pute e o.dst (.slice a m c)) w')(hw:bK ops o e=true:=by rfl)(hd:iW n o.dst=true:=by rfl)
 (ho:o.op= .call {callee:= .builtin .append,args:= #[x,y],argTypes:=ts}:=by rfl) (ht:o.type=ty:=by rfl) (hx:evl e x=vx:=by rfl) (hy:evl e y=vy:=by rfl):WO P n ops K (o::rest) e w:=by
 obtain⟨a,m,c,w',hap,hA⟩:=h;subst ht;exact m5 hw hd (yY ho hx hy hap) (hk _ _ _ _ hA)
theorem nn{x:Operand}{p:Option Addr}{A:Addr→Prop}(h:NN p A)(hk:∀a,A a→WO P n ops K rest (pute e o.dst (.pointer (some a))) w)(hw:bK ops o e=true:=by rfl)(hd:iW n o.dst=true:=by rfl)(ho:o.op= .nilCheck x:=by rfl)(hx:evl e x= .pointer p:=by rfl):WO P n ops K (o::rest) e w:=by
 obtain⟨a,rfl,hA⟩:=h;exact sH hw hd (ex_nn ho hx) (hk a hA)
theorem ix{t el sz:Nat}{x y:Operand}{p:Option Addr}{m c:Nat}{k:IntKind}{i:Int}{A:Addr→Prop}(ht:slk P t=some (el,sz))(h:Ix p m i A)(hk:∀a,A a→WO P n ops K rest (pute e o.dst (.pointer (some (a.add (i.toNat*sz))))) w)(hw:bK ops o e=true:=by rfl)(hd:iW n o.dst=true:=by rfl)
 (ho:o.op= .indexAddr t x y:=by rfl) (hx:evl e x= .slice p m c:=by rfl) (hy:evl e y= .int k i:=by rfl):WO P n ops K (o::rest) e w:=by
 obtain⟨a,rfl,h0,hn,hA⟩:=h;exact sH hw hd (aD5 ht ho hx hy h0 hn) (hk a hA)
theorem ixs{t:Nat}{x y:Operand}{s:ByteArray}{k:IntKind}{i:Int}{A:Int→Prop}(h:IxS s i A)(hk:∀a,A a→WO P n ops K rest (pute e o.dst (.int .u8 a)) w)(hw:bK ops o e=true:=by rfl)(hd:iW n o.dst=true:=by rfl)
 (ho:o.op= .index t x y:=by rfl) (ht:P.underlying t=some .string:=by kernel_rfl) (hx:evl e x= .string s:=by rfl) (hy:evl e y= .int k i:=by rfl):WO P n ops K (o::rest) e w:=by
 obtain⟨h0,hn,hA⟩:=h;exact sH hw hd (aD4 ht ho hx hy h0 hn) (hk _ hA)
theorem drs{id:Nat}{y:Code}{K':rJ}{A:World→Prop}(hm:P.follows .mixedOrders=true)(T:List (List Nat))(σ:List Stp)(h:Dr w A)(hk:∀w',w'=w.drew→A w'→WC P n ops T (W P n y K') σ [] e w')(hB:aDc ops T σ=true:=by kernel_rfl):W P n (.seq (.region id ops true) y) K' e w:=
 aFb hm T σ hB (hk _ rfl h)
theorem drw{id:Nat}{K':rJ}{A:World→Prop}(hm:P.follows .mixedOrders=true)(T:List (List Nat))(σ:List Stp)(h:Dr w A)(hk:∀w',w'=w.drew→A w'→WC P n ops T (K' .normal) σ [] e w')(hB:aDc ops T σ=true:=by kernel_rfl):W P n (.region id ops true) K' e w:=
 aG5 hm T σ hB (hk _ rfl h)
theorem csC(c:Nat){b:Bool}{A B:Prop}(h:Ifb b A B)(ht:A→WC P n ops T K r pend (upds e [(c,.bool true)]) w)(hf:B→WC P n ops T K r pend (upds e [(c,.bool false)]) w)(hc:e c= .bool b:=by rfl):WC P n ops T K r pend e w:=
 WC_case c hc (fun hb=>ht (h.1 hb)) (fun hb=>hf (h.2 hb))
theorem sbC{i b off m:Nat}{g:Bool}{c:Array Value}{t ty:TypeId}{x y:Operand}{o':Obj}{v:Value}{A:World→Prop}(ht:tyk P t=some (g,m))(hb:w.heap[b]? =some (.cells c ty (0,0)))(h:Sb w b o' A)(hk:∀w',w'=lY w b o'→w'.heap[b]? =some o'→A w'→AllOk P w' (pfilter T i pend)∧WC P n ops T K r (pfilter T i pend) (pute e o.dst undef) w')
 (hi:ops[i]? =some o:=by rfl) (hw:bK ops o e=true:=by rfl) (hd:iW n o.dst=true:=by rfl) (ho:o.op= .store t x y:=by rfl) (ha:evl e x= .pointer (some ⟨b,off,none⟩):=by rfl) (hy:evl e y=v:=by rfl) (hn:Nat.beq v.cells.toList.length m=true:=by rfl)
 (hl:Nat.ble (off+v.cells.toList.length) c.size=true:=by rfl) (h1:v.cells.toList.all Value.oneCell'=true:=by rfl) (hc:Obj.cells (oO c off v.cells.toList) ty (0,0)=o':=by kernel_rfl):WC P n ops T K (.e i::r) pend e w:=
 WC_sb hi hd hw (yI ht ho ha hy hb rfl (Nat.eq_of_beq_eq_true hn) (Nat.le_of_ble_eq_true hl) (fun v hv=>List.all_eq_true.1 h1 v hv)) hc fun _ ew=>hk _ ew (aFn ew hb) (Sb.at h ew)
theorem stC{i m:Nat}{g:Bool}{t:TypeId}{x y:Operand}{a:Addr}{v:Value}{vs:List Value}{A:World→Prop}(ht:tyk P t=some (g,m))(h:St w a vs A)(hk:∀w',A w'→AllOk P w' (pfilter T i pend)∧WC P n ops T K r (pfilter T i pend) (pute e o.dst undef) w')
 (hi:ops[i]? =some o:=by rfl) (hw:bK ops o e=true:=by rfl) (hd:iW n o.dst=true:=by rfl) (ho:o.op= .store t x y:=by rfl) (ha:evl e x= .pointer (some a):=by rfl) (hy:evl e y=v:=by rfl) (hv:v.cells.toList=vs:=by rfl) (hn:Nat.beq vs.length m=true:=by rfl)
 (h1:vs.all Value.oneCell'=true:=by rfl):WC P n ops T K (.e i::r) pend e w:=by
 obtain⟨b,off,c,T',rfl,hs,hl,hA⟩:=h;exact WC_st hi hd hw (yI ht ho ha hy hs hv (Nat.eq_of_beq_eq_true hn) hl (fun v hv=>List.all_eq_true.1 h1 v hv)) fun _ ew=>hk _ (by subst ew;exact hA)
theorem clC{i:Nat}{f:FuncId}{args:Array Value}{R:Value→World→Prop}(h:Cl P f args w R)(hk:∀v w',R v w'→AllOk P w' (pfilter T i pend)∧WC P n ops T K r (pfilter T i pend) (pute e o.dst v) w')(hi:ops[i]? =some o:=by rfl)(hw:bK ops o e=true:=by rfl)(hd:iW n o.dst=true:=by rfl)
 (hr:(execOp (evl e) o).run P w= .ok (.enter f args) w:=by kernel_rfl):WC P n ops T K (.e i::r) pend e w:=
 aEz hi hd hw hr (Calls.mono h fun _ _ ⟨v,he,hv⟩=>⟨v,he,hk _ _ hv⟩)
theorem clvC{i:Nat}{ts:Array TypeId}{x:Operand}{xs:Array Operand}{args:Array Value}{fv:Value}{R:Value→World→Prop}(h:Clv P fv args w R)(hk:∀v w',R v w'→AllOk P w' (pfilter T i pend)∧WC P n ops T K r (pfilter T i pend) (pute e o.dst v) w')(hi:ops[i]? =some o:=by rfl)(hw:bK ops o e=true:=by rfl)(hd:iW n o.dst=true:=by rfl)
 (ho:o.op= .call {callee:= .value x,args:=xs,argTypes:=ts}:=by rfl) (hx:evl e x=fv:=by rfl) (ha:xs.map (evl e)=args:=by kernel_rfl):WC P n ops T K (.e i::r) pend e w:=by
 obtain⟨g,c,rfl,hf,h⟩:=h;exact aEz hi hd hw (aD7 ho hx ha hf) (Calls.mono h fun _ _ ⟨v,he,hv⟩=>⟨v,he,hk _ _ hv⟩)
theorem apC{i:Nat}{ts:Array TypeId}{ty:TypeId}{x y:Operand}{vx vy:Value}{A:Option Addr→Nat→Nat→World→Prop}(h:Ap P w ts ty vx vy A)(hk:∀a m c w',A a m c w'→AllOk P w' (pfilter T i pend)∧WC P n ops T K r (pfilter T i pend) (pute e o.dst (.slice a m c)) w')(hi:ops[i]? =some o:=by rfl)(hw:bK ops o e=true:=by rfl)(hd:iW n o.dst=true:=by rfl)
 (ho:o.op= .call {callee:= .builtin .append,args:= #[x,y],argTypes:=ts}:=by rfl) (ht:o.type=ty:=by rfl) (hx:evl e x=vx:=by rfl) (hy:evl e y=vy:=by rfl):WC P n ops T K (.e i::r) pend e w:=by
 obtain⟨a,m,c,w',hap,hA⟩:=h;subst ht;exact aEy hi hd hw (yY ho hx hy hap) (hk _ _ _ _ hA)
theorem nnC{i:Nat}{x:Operand}{p:Option Addr}{A:Addr→Prop}(h:NN p A)(hk:∀a,A a→WC P n ops T K r pend (pute e o.dst (.pointer (some a))) w)(hi:ops[i]? =some o:=by rfl)(hw:bK ops o e=true:=by rfl)(hd:iW n o.dst=true:=by rfl)(ho:o.op= .nilCheck x:=by rfl)(hx:evl e x= .pointer p:=by rfl):WC P n ops T K (.p i::r) pend e w:=by
 obtain⟨a,rfl,hA⟩:=h;exact aA1 hi hd hw (ex_nn ho hx) (hk a hA)
theorem ixC{j t el sz:Nat}{x y:Operand}{p:Option Addr}{m c:Nat}{k:IntKind}{i:Int}{A:Addr→Prop}(ht:slk P t=some (el,sz))(h:Ix p m i A)(hk:∀a,A a→WC P n ops T K r pend (pute e o.dst (.pointer (some (a.add (i.toNat*sz))))) w)(hi:ops[j]? =some o:=by rfl)(hw:bK ops o e=true:=by rfl)(hd:iW n o.dst=true:=by rfl)
 (ho:o.op= .indexAddr t x y:=by rfl) (hx:evl e x= .slice p m c:=by rfl) (hy:evl e y= .int k i:=by rfl):WC P n ops T K (.p j::r) pend e w:=by
 obtain⟨a,rfl,h0,hn,hA⟩:=h;exact aA1 hi hd hw (aD5 ht ho hx hy h0 hn) (hk a hA)
end
end Go.Wx
namespace Go.Wx
open Go
section
variable {P : Program} {n : Nat} {ops : Array Oper} {K : Env → World → Prop} {rest : List Oper} {o : Oper} {e : Env} {w : World}
variable {T : List (List Nat)} {r : List Stp} {pend : List Pend}
def pv(P:Program)(e:Env)(ops:Array Oper)(o:Oper):Value:=
 cond (bK ops o e) (match iY P (execOp (evl e) o)with
  | some (.value v)=>v
  | _=>undef) undef
def pcalc(P:Program)(ops:Array Oper):List Oper→Env→Env
 |[],e=>e
 | o::l,e=>pcalc P ops l (pute e o.dst (pv P e ops o))
theorem vM:∀(l:List Oper) (e:Env),(psteps P n ops l e).isSome=true→psteps P n ops l e=some (pcalc P ops l e)
 |[],e,_=>rfl
 | o::l,e,h=>by
  simp only[psteps,pcalc,pv]at h ⊢;cases hd:iW n o.dst with
  | false=>rw[hd]at h;cases h
  | true=>
   rw[hd]at h;simp only[cond_true]at h ⊢;cases hw:bK ops o e with
   | false=>
    rw[hw]at h;simp only[cond_false]at h ⊢;exact vM l _ h
   | true=>
    rw[hw]at h;simp only[cond_true]at h ⊢;split at h
    ·rename_i v hv
     try rw[hv]
     exact vM l _ h
    ·cases h
theorem zp{l:List Oper}(k:Nat)(hk:WO P n ops K (l.drop k) (pcalc P ops (l.take k) e) w)(h:(psteps P n ops (l.take k) e).isSome=true:=by kernel_rfl):WO P n ops K l e w:=by
 have:=wW (rest:=l.drop k) (l.take k) (vM _ _ h) hk;rwa[List.take_append_drop]at this
def ccalc(P:Program)(ops:Array Oper):List Stp→Env→Env
 |[],e=>e
 | s::l,e=>match s with
  | .p i=>match ops[i]? with
   | some o=>ccalc P ops l (pute e o.dst (pv P e ops o))
   | none=>e
  | _=>e
theorem vX:∀(l:List Stp) (e:Env),(csteps P n ops l e).isSome=true→csteps P n ops l e=some (ccalc P ops l e)
 |[],e,_=>rfl
 | .l _::l,e,h=>by simp[csteps]at h
 | .e _::l,e,h=>by simp[csteps]at h
 | .p i::l,e,h=>by
  simp only[csteps,ccalc,pv]at h ⊢;split at h
  ·rename_i o ho
   try rw[ho]
   try simp only
   cases hd:iW n o.dst with
   | false=>rw[hd]at h;cases h
   | true=>
    rw[hd]at h;simp only[cond_true]at h ⊢;cases hw:bK ops o e with
    | false=>
     rw[hw]at h;simp only[cond_false]at h ⊢;exact vX l _ h
    | true=>
     rw[hw]at h;simp only[cond_true]at h ⊢;split at h
     ·rename_i v hv
      try rw[hv]
      exact vX l _ h
     ·cases h
  ·cases h
theorem zP{l:List Stp}(k:Nat)(hk:WC P n ops T K (l.drop k) pend (ccalc P ops (l.take k) e) w)(h:(csteps P n ops (l.take k) e).isSome=true:=by kernel_rfl):WC P n ops T K l pend e w:=by
 have:=zJ (r:=l.drop k) (l.take k) (vX _ _ h) hk;rwa[List.take_append_drop]at this
theorem ag{l:List (Nat × Value)}(h:l.map (fun p=>e p.1)=l.map (·.2):=by kernel_rfl):e=upds e l:=by
 refine(aAh l e ?_).symm;intro p hp;induction l with
 | nil=>cases hp
 | cons x l ih=>
  simp only[List.map_cons,List.cons.injEq]at h;cases hp with
  | head=>exact h.1
  | tail _ hp=>exact ih h.2 hp
def qQ:Value→Nat
 | .pointer (some a)=>a.off
 | _=>0
def aDW:Value→Option Int
 | .int _ i=>some i
 | _=>none
def ptrN:Value→Option (Option Addr × Nat)
 | .slice p m _=>some (p,m)
 | _=>none
theorem aBR{v:Value}{i:Int}(h:aDW v=some i):∃k,v= .int k i:=by
 cases v<;>simp[aDW]at h
 subst h;exact⟨_,rfl⟩
theorem aEc{v:Value}{p:Option Addr}{m:Nat}(h:ptrN v=some (p,m)):∃c,v= .slice p m c:=by
 cases v<;>simp[ptrN]at h
 obtain⟨rfl,rfl⟩:=h;exact⟨_,rfl⟩
theorem zc{c:Operand}{x y:Code}{b:Bool}{A B:Prop}{K:rJ}(h:Ifb b A B)(ht:A→W P n x K e w)(hf:B→W P n y K e w)(hc:evl e c= .bool b:=by kernel_rfl):W P n (.cond c x y) K e w:=ci h ht hf hc
theorem zs(c:Nat){b:Bool}{A B:Prop}(h:Ifb b A B)(ht:A→WO P n ops K rest (upds e [(c,.bool true)]) w)(hf:B→WO P n ops K rest (upds e [(c,.bool false)]) w)(hc:e c= .bool b:=by kernel_rfl):WO P n ops K rest e w:=cs c h ht hf hc
theorem zl{t m:Nat}{x:Operand}{a:Addr}{v:Value}(ht:tyk P t=some (false,m))(hx:w.cell? a=some v)(h:WO P n ops K rest (pute e o.dst (v)) w)(hw:bK ops o e=true:=by kernel_rfl)(hd:iW n o.dst=true:=by kernel_rfl)(ho:o.op= .load t x:=by rfl)(ha:evl e x= .pointer (some a):=by kernel_rfl):WO P n ops K (o::rest) e w:=m5 hw hd (vV ht ho ha hx) h
theorem zd{t m:Nat}{x:Operand}{a:Addr}{α:Type}{f:α→Value}{A:α→Prop}(ht:tyk P t=some (false,m))(hx:∃x,w.cell? a=some (f x)∧A x)(h:∀x,w.cell? a=some (f x)→A x→WO P n ops K rest (pute e o.dst (f x)) w)(hw:bK ops o e=true:=by kernel_rfl)(hd:iW n o.dst=true:=by kernel_rfl)(ho:o.op= .load t x:=by rfl)(ha:evl e x= .pointer (some a):=by kernel_rfl):WO P n ops K (o::rest) e w:=by
 obtain⟨y,hy,hA⟩:=hx;exact zl ht hy (h y hy hA) hw hd ho ha
theorem zr{t m:Nat}{x:Operand}{a:Addr}{A:Option Addr→Nat→Nat→Prop}(ht:tyk P t=some (false,m))(hx:dU w a A)(h:∀p m c,w.cell? a=some (.slice p m c)→A p m c→WO P n ops K rest (pute e o.dst (.slice p m c)) w)(hw:bK ops o e=true:=by kernel_rfl)(hd:iW n o.dst=true:=by kernel_rfl)(ho:o.op= .load t x:=by rfl)(ha:evl e x= .pointer (some a):=by kernel_rfl):WO P n ops K (o::rest) e w:=by
 obtain⟨p,k,c,hy,hA⟩:=hx;exact zl ht hy (h p k c hy hA) hw hd ho ha
theorem zn{t m:Nat}{x:Operand}{a:Addr}{vs:List Value}(ht:tyk P t=some (true,m))(hx:Cells w a vs)(h:WO P n ops K rest (pute e o.dst (.agg vs.toArray)) w)(hn:vs.length=m:=by kernel_rfl)(hw:bK ops o e=true:=by kernel_rfl)(hd:iW n o.dst=true:=by kernel_rfl)(ho:o.op= .load t x:=by rfl)(ha:evl e x= .pointer (some a):=by kernel_rfl):WO P n ops K (o::rest) e w:=m5 hw hd (yJ ht ho ha hn hx) h
theorem zb{t m b:Nat}{x:Operand}{c:Array Value}{ty:TypeId}{fr:Nat × Nat}(ht:tyk P t=some (false,m))(hb:w.heap[b]? =some (.cells c ty fr))(h:WO P n ops K rest (pute e o.dst (c.getD (qQ (evl e x)) undef)) w)(hw:bK ops o e=true:=by kernel_rfl)(hd:iW n o.dst=true:=by kernel_rfl)(ho:o.op= .load t x:=by rfl)(ha:evl e x= .pointer (some ⟨b,qQ (evl e x),none⟩):=by kernel_rfl)(hc:Nat.blt (qQ (evl e x)) c.size=true:=by kernel_rfl):WO P n ops K (o::rest) e w:=m5 hw hd (vV ht ho ha (aV hb (by rw[Nat.blt_eq]at hc;simp[hc]))) h
theorem zm{t m b:Nat}{x:Operand}{c:Array Value}{ty:TypeId}{fr:Nat × Nat}(ht:tyk P t=some (true,m))(hb:w.heap[b]? =some (.cells c ty fr))(h:WO P n ops K rest (pute e o.dst (.agg ((c.toList.drop (qQ (evl e x))).take m).toArray)) w)(hw:bK ops o e=true:=by kernel_rfl)(hd:iW n o.dst=true:=by kernel_rfl)(ho:o.op= .load t x:=by rfl)(ha:evl e x= .pointer (some ⟨b,qQ (evl e x),none⟩):=by kernel_rfl)(hn:Nat.ble (qQ (evl e x)+m) c.size=true:=by kernel_rfl):WO P n ops K (o::rest) e w:=m5 hw hd (yJ ht ho ha (by rw[Nat.ble_eq]at hn;simp;omega) (dS hb (by rw[Nat.ble_eq]at hn;simp))) h
theorem zq{obj:Obj}{A:Nat→World→Prop}(h:Al w obj A)(hk:∀b w',b=w.heap.size→w'=w.alloc obj→w'.heap[b]? =some obj→A b w'→WO P n ops K rest (pute e o.dst (.pointer (some ⟨b,0,none⟩))) w')(hw:bK ops o e=true:=by kernel_rfl)(hd:iW n o.dst=true:=by kernel_rfl)(hr:(execOp (evl e) o).run P w= .ok (.value (.pointer (some ⟨w.heap.size,0,none⟩))) (w.alloc obj):=by kernel_rfl):WO P n ops K (o::rest) e w:=m5 hw hd hr (hk _ _ rfl rfl (wC rfl rfl) h)
theorem zv(m:Nat){obj:Obj}{A:Nat→World→Prop}(h:Al w obj A)(hk:∀b w',b=w.heap.size→w'=w.alloc obj→w'.heap[b]? =some obj→A b w'→WO P n ops K rest (pute e o.dst (.slice (some ⟨b,0,none⟩) m m)) w')(hw:bK ops o e=true:=by kernel_rfl)(hd:iW n o.dst=true:=by kernel_rfl)(hr:(execOp (evl e) o).run P w= .ok (.value (.slice (some ⟨w.heap.size,0,none⟩) m m)) (w.alloc obj):=by kernel_rfl):WO P n ops K (o::rest) e w:=m5 hw hd hr (hk _ _ rfl rfl (wC rfl rfl) h)
theorem zw{obj:Obj}{A:Nat→World→Prop}(h:Al w obj A)(hk:∀b w',b=w.heap.size→w'=w.alloc obj→w'.heap[b]? =some obj→A b w'→WO P n ops K rest (pute e o.dst (.map (some b))) w')(hw:bK ops o e=true:=by kernel_rfl)(hd:iW n o.dst=true:=by kernel_rfl)(hr:(execOp (evl e) o).run P w= .ok (.value (.map (some w.heap.size))) (w.alloc obj):=by kernel_rfl):WO P n ops K (o::rest) e w:=m5 hw hd hr (hk _ _ rfl rfl (wC rfl rfl) h)
theorem zt{b m:Nat}{g:Bool}{c:Array Value}{t ty:TypeId}{x y:Operand}{o':Obj}{A:World→Prop}(ht:tyk P t=some (g,m))(hb:w.heap[b]? =some (.cells c ty (0,0)))(h:Sb w b o' A)(hk:∀w',w'=lY w b o'→w'.heap[b]? =some o'→A w'→WO P n ops K rest (pute e o.dst (undef)) w')(hw:bK ops o e=true:=by kernel_rfl)(hd:iW n o.dst=true:=by kernel_rfl)(ho:o.op= .store t x y:=by rfl)(ha:evl e x= .pointer (some ⟨b,qQ (evl e x),none⟩):=by kernel_rfl)(hn:Nat.beq (evl e y).cells.toList.length m=true:=by kernel_rfl)(hl:Nat.ble (qQ (evl e x)+(evl e y).cells.toList.length) c.size=true:=by kernel_rfl)(h1:(evl e y).cells.toList.all Value.oneCell'=true:=by kernel_rfl)(hc:Obj.cells (oO c (qQ (evl e x)) (evl e y).cells.toList) ty (0,0)=o':=by kernel_rfl):WO P n ops K (o::rest) e w:=
 sb ht hb h hk hw hd ho ha rfl hn hl h1 hc
theorem zu{m:Nat}{g:Bool}{t:TypeId}{x y:Operand}{a:Addr}{vs:List Value}{A:World→Prop}(ht:tyk P t=some (g,m))(h:St w a vs A)(hk:∀w',A w'→WO P n ops K rest (pute e o.dst (undef)) w')(hw:bK ops o e=true:=by kernel_rfl)(hd:iW n o.dst=true:=by kernel_rfl)(ho:o.op= .store t x y:=by rfl)(ha:evl e x= .pointer (some a):=by kernel_rfl)(hv:(evl e y).cells.toList=vs:=by kernel_rfl)(hn:Nat.beq vs.length m=true:=by kernel_rfl)(h1:vs.all Value.oneCell'=true:=by kernel_rfl):WO P n ops K (o::rest) e w:=
 st ht h hk hw hd ho ha rfl hv hn h1
theorem zk{f:FuncId}{args:Array Value}{R:Value→World→Prop}(h:Cl P f args w R)(hk:∀v w',R v w'→WO P n ops K rest (pute e o.dst (v)) w')(hw:bK ops o e=true:=by kernel_rfl)(hd:iW n o.dst=true:=by kernel_rfl)(hr:(execOp (evl e) o).run P w= .ok (.enter f args) w:=by kernel_rfl):WO P n ops K (o::rest) e w:=cl h hk hw hd hr
theorem zx{ts:Array TypeId}{x:Operand}{xs:Array Operand}{args:Array Value}{fv:Value}{R:Value→World→Prop}(h:Clv P fv args w R)(hk:∀v w',R v w'→WO P n ops K rest (pute e o.dst (v)) w')(hw:bK ops o e=true:=by kernel_rfl)(hd:iW n o.dst=true:=by kernel_rfl)(ho:o.op= .call {callee:= .value x,args:=xs,argTypes:=ts}:=by rfl)(hx:evl e x=fv:=by kernel_rfl)(ha:xs.map (evl e)=args:=by kernel_rfl):WO P n ops K (o::rest) e w:=clv h hk hw hd ho hx ha
theorem za{ts:Array TypeId}{ty:TypeId}{x y:Operand}{vx vy:Value}{A:Option Addr→Nat→Nat→World→Prop}(h:Ap P w ts ty vx vy A)(hk:∀a m c w',A a m c w'→WO P n ops K rest (pute e o.dst (.slice a m c)) w')(hw:bK ops o e=true:=by kernel_rfl)(hd:iW n o.dst=true:=by kernel_rfl)(ho:o.op= .call {callee:= .builtin .append,args:= #[x,y],argTypes:=ts}:=by rfl)(ht:o.type=ty:=by kernel_rfl)(hx:evl e x=vx:=by kernel_rfl)(hy:evl e y=vy:=by kernel_rfl):WO P n ops K (o::rest) e w:=ap h hk hw hd ho ht hx hy
theorem zo{x:Operand}{p:Option Addr}{A:Addr→Prop}(h:NN p A)(hk:∀a,A a→WO P n ops K rest (pute e o.dst (.pointer (some a))) w)(hw:bK ops o e=true:=by kernel_rfl)(hd:iW n o.dst=true:=by kernel_rfl)(ho:o.op= .nilCheck x:=by rfl)(hx:evl e x= .pointer p:=by kernel_rfl):WO P n ops K (o::rest) e w:=nn h hk hw hd ho hx
theorem zi{t el sz:Nat}{x y:Operand}{p:Option Addr}{m:Nat}{j:Int}{A:Addr→Prop}(ht:slk P t=some (el,sz))(h:Ix p m j A)(hk:∀a,A a→WO P n ops K rest (pute e o.dst (.pointer (some (a.add (j.toNat*sz))))) w)(hw:bK ops o e=true:=by kernel_rfl)(hd:iW n o.dst=true:=by kernel_rfl)(ho:o.op= .indexAddr t x y:=by rfl)(hx:ptrN (evl e x)=some (p,m):=by kernel_rfl)(hy:aDW (evl e y)=some j:=by kernel_rfl):WO P n ops K (o::rest) e w:=by
 obtain⟨c,hc⟩:=aEc hx;obtain⟨k,hk'⟩:=aBR hy;exact ix ht h hk hw hd ho hc hk'
theorem zj{t:Nat}{x y:Operand}{s:ByteArray}{j:Int}{A:Int→Prop}(h:IxS s j A)(hk:∀a,A a→WO P n ops K rest (pute e o.dst (.int .u8 a)) w)(hw:bK ops o e=true:=by kernel_rfl)(hd:iW n o.dst=true:=by kernel_rfl)(ho:o.op= .index t x y:=by rfl)(ht:P.underlying t=some .string:=by kernel_rfl)(hx:evl e x= .string s:=by kernel_rfl)(hy:aDW (evl e y)=some j:=by kernel_rfl):WO P n ops K (o::rest) e w:=by
 obtain⟨k,hk'⟩:=aBR hy;exact ixs h hk hw hd ho ht hx hk'
theorem zS(c:Nat){b:Bool}{A B:Prop}(h:Ifb b A B)(ht:A→WC P n ops T K r pend (upds e [(c,.bool true)]) w)(hf:B→WC P n ops T K r pend (upds e [(c,.bool false)]) w)(hc:e c= .bool b:=by kernel_rfl):WC P n ops T K r pend e w:=csC c h ht hf hc
theorem zL{i:Nat}{t m:Nat}{x:Operand}{a:Addr}{v:Value}(ht:tyk P t=some (false,m))(hx:w.cell? a=some v)(h:WC P n ops T K r (⟨i,execOp (evl e) o,v⟩::pend) (pute e o.dst (v)) w)(hi:ops[i]? =some o:=by rfl)(hw:bK ops o e=true:=by kernel_rfl)(hd:iW n o.dst=true:=by kernel_rfl)(ho:o.op= .load t x:=by rfl)(ha:evl e x= .pointer (some a):=by kernel_rfl):WC P n ops T K (.l i::r) pend e w:=aG9 hi hd hw (vV ht ho ha hx) h
theorem zD{i:Nat}{t m:Nat}{x:Operand}{a:Addr}{α:Type}{f:α→Value}{A:α→Prop}(ht:tyk P t=some (false,m))(hx:∃x,w.cell? a=some (f x)∧A x)(h:∀x,w.cell? a=some (f x)→A x→WC P n ops T K r (⟨i,execOp (evl e) o,f x⟩::pend) (pute e o.dst (f x)) w)(hi:ops[i]? =some o:=by rfl)(hw:bK ops o e=true:=by kernel_rfl)(hd:iW n o.dst=true:=by kernel_rfl)(ho:o.op= .load t x:=by rfl)(ha:evl e x= .pointer (some a):=by kernel_rfl):WC P n ops T K (.l i::r) pend e w:=by
 obtain⟨y,hy,hA⟩:=hx;exact zL ht hy (h y hy hA) hi hw hd ho ha
theorem zR{i:Nat}{t m:Nat}{x:Operand}{a:Addr}{A:Option Addr→Nat→Nat→Prop}(ht:tyk P t=some (false,m))(hx:dU w a A)(h:∀p m c,w.cell? a=some (.slice p m c)→A p m c→WC P n ops T K r (⟨i,execOp (evl e) o,.slice p m c⟩::pend) (pute e o.dst (.slice p m c)) w)(hi:ops[i]? =some o:=by rfl)(hw:bK ops o e=true:=by kernel_rfl)(hd:iW n o.dst=true:=by kernel_rfl)(ho:o.op= .load t x:=by rfl)(ha:evl e x= .pointer (some a):=by kernel_rfl):WC P n ops T K (.l i::r) pend e w:=by
 obtain⟨p,k,c,hy,hA⟩:=hx;exact zL ht hy (h p k c hy hA) hi hw hd ho ha
theorem zN{i:Nat}{t m:Nat}{x:Operand}{a:Addr}{vs:List Value}(ht:tyk P t=some (true,m))(hx:Cells w a vs)(h:WC P n ops T K r (⟨i,execOp (evl e) o,.agg vs.toArray⟩::pend) (pute e o.dst (.agg vs.toArray)) w)(hn:vs.length=m:=by kernel_rfl)(hi:ops[i]? =some o:=by rfl)(hw:bK ops o e=true:=by kernel_rfl)(hd:iW n o.dst=true:=by kernel_rfl)(ho:o.op= .load t x:=by rfl)(ha:evl e x= .pointer (some a):=by kernel_rfl):WC P n ops T K (.l i::r) pend e w:=aG9 hi hd hw (yJ ht ho ha hn hx) h
theorem zB{i:Nat}{t m b:Nat}{x:Operand}{c:Array Value}{ty:TypeId}{fr:Nat × Nat}(ht:tyk P t=some (false,m))(hb:w.heap[b]? =some (.cells c ty fr))(h:WC P n ops T K r (⟨i,execOp (evl e) o,c.getD (qQ (evl e x)) undef⟩::pend) (pute e o.dst (c.getD (qQ (evl e x)) undef)) w)(hi:ops[i]? =some o:=by rfl)(hw:bK ops o e=true:=by kernel_rfl)(hd:iW n o.dst=true:=by kernel_rfl)(ho:o.op= .load t x:=by rfl)(ha:evl e x= .pointer (some ⟨b,qQ (evl e x),none⟩):=by kernel_rfl)(hc:Nat.blt (qQ (evl e x)) c.size=true:=by kernel_rfl):WC P n ops T K (.l i::r) pend e w:=aG9 hi hd hw (vV ht ho ha (aV hb (by rw[Nat.blt_eq]at hc;simp[hc]))) h
theorem zM{i:Nat}{t m b:Nat}{x:Operand}{c:Array Value}{ty:TypeId}{fr:Nat × Nat}(ht:tyk P t=some (true,m))(hb:w.heap[b]? =some (.cells c ty fr))(h:WC P n ops T K r (⟨i,execOp (evl e) o,.agg ((c.toList.drop (qQ (evl e x))).take m).toArray⟩::pend) (pute e o.dst (.agg ((c.toList.drop (qQ (evl e x))).take m).toArray)) w)(hi:ops[i]? =some o:=by rfl)(hw:bK ops o e=true:=by kernel_rfl)(hd:iW n o.dst=true:=by kernel_rfl)(ho:o.op= .load t x:=by rfl)(ha:evl e x= .pointer (some ⟨b,qQ (evl e x),none⟩):=by kernel_rfl)(hn:Nat.ble (qQ (evl e x)+m) c.size=true:=by kernel_rfl):WC P n ops T K (.l i::r) pend e w:=aG9 hi hd hw (yJ ht ho ha (by rw[Nat.ble_eq]at hn;simp;omega) (dS hb (by rw[Nat.ble_eq]at hn;simp))) h
theorem zQ{i:Nat}{obj:Obj}{A:Nat→World→Prop}(h:Al w obj A)(hk:∀b w',b=w.heap.size→w'=w.alloc obj→w'.heap[b]? =some obj→A b w'→AllOk P w' (pfilter T i pend)∧WC P n ops T K r (pfilter T i pend) (pute e o.dst (.pointer (some ⟨b,0,none⟩))) w')(hi:ops[i]? =some o:=by rfl)(hw:bK ops o e=true:=by kernel_rfl)(hd:iW n o.dst=true:=by kernel_rfl)(hr:(execOp (evl e) o).run P w= .ok (.value (.pointer (some ⟨w.heap.size,0,none⟩))) (w.alloc obj):=by kernel_rfl):WC P n ops T K (.e i::r) pend e w:=aEy hi hd hw hr (hk _ _ rfl rfl (wC rfl rfl) h)
theorem zV(m:Nat){i:Nat}{obj:Obj}{A:Nat→World→Prop}(h:Al w obj A)(hk:∀b w',b=w.heap.size→w'=w.alloc obj→w'.heap[b]? =some obj→A b w'→AllOk P w' (pfilter T i pend)∧WC P n ops T K r (pfilter T i pend) (pute e o.dst (.slice (some ⟨b,0,none⟩) m m)) w')(hi:ops[i]? =some o:=by rfl)(hw:bK ops o e=true:=by kernel_rfl)(hd:iW n o.dst=true:=by kernel_rfl)(hr:(execOp (evl e) o).run P w= .ok (.value (.slice (some ⟨w.heap.size,0,none⟩) m m)) (w.alloc obj):=by kernel_rfl):WC P n ops T K (.e i::r) pend e w:=aEy hi hd hw hr (hk _ _ rfl rfl (wC rfl rfl) h)
theorem zT{i:Nat}{b m:Nat}{g:Bool}{c:Array Value}{t ty:TypeId}{x y:Operand}{o':Obj}{A:World→Prop}(ht:tyk P t=some (g,m))(hb:w.heap[b]? =some (.cells c ty (0,0)))(h:Sb w b o' A)(hk:∀w',w'=lY w b o'→w'.heap[b]? =some o'→A w'→AllOk P w' (pfilter T i pend)∧WC P n ops T K r (pfilter T i pend) (pute e o.dst (undef)) w')(hi:ops[i]? =some o:=by rfl)(hw:bK ops o e=true:=by kernel_rfl)(hd:iW n o.dst=true:=by kernel_rfl)(ho:o.op= .store t x y:=by rfl)(ha:evl e x= .pointer (some ⟨b,qQ (evl e x),none⟩):=by kernel_rfl)(hn:Nat.beq (evl e y).cells.toList.length m=true:=by kernel_rfl)(hl:Nat.ble (qQ (evl e x)+(evl e y).cells.toList.length) c.size=true:=by kernel_rfl)(h1:(evl e y).cells.toList.all Value.oneCell'=true:=by kernel_rfl)(hc:Obj.cells (oO c (qQ (evl e x)) (evl e y).cells.toList) ty (0,0)=o':=by kernel_rfl):WC P n ops T K (.e i::r) pend e w:=
 sbC ht hb h hk hi hw hd ho ha rfl hn hl h1 hc
theorem zU{i:Nat}{m:Nat}{g:Bool}{t:TypeId}{x y:Operand}{a:Addr}{vs:List Value}{A:World→Prop}(ht:tyk P t=some (g,m))(h:St w a vs A)(hk:∀w',A w'→AllOk P w' (pfilter T i pend)∧WC P n ops T K r (pfilter T i pend) (pute e o.dst (undef)) w')(hi:ops[i]? =some o:=by rfl)(hw:bK ops o e=true:=by kernel_rfl)(hd:iW n o.dst=true:=by kernel_rfl)(ho:o.op= .store t x y:=by rfl)(ha:evl e x= .pointer (some a):=by kernel_rfl)(hv:(evl e y).cells.toList=vs:=by kernel_rfl)(hn:Nat.beq vs.length m=true:=by kernel_rfl)(h1:vs.all Value.oneCell'=true:=by kernel_rfl):WC P n ops T K (.e i::r) pend e w:=
 stC ht h hk hi hw hd ho ha rfl hv hn h1
theorem zK{i:Nat}{f:FuncId}{args:Array Value}{R:Value→World→Prop}(h:Cl P f args w R)(hk:∀v w',R v w'→AllOk P w' (pfilter T i pend)∧WC P n ops T K r (pfilter T i pend) (pute e o.dst (v)) w')(hi:ops[i]? =some o:=by rfl)(hw:bK ops o e=true:=by kernel_rfl)(hd:iW n o.dst=true:=by kernel_rfl)(hr:(execOp (evl e) o).run P w= .ok (.enter f args) w:=by kernel_rfl):WC P n ops T K (.e i::r) pend e w:=clC h hk hi hw hd hr
theorem zX{i:Nat}{ts:Array TypeId}{x:Operand}{xs:Array Operand}{args:Array Value}{fv:Value}{R:Value→World→Prop}(h:Clv P fv args w R)(hk:∀v w',R v w'→AllOk P w' (pfilter T i pend)∧WC P n ops T K r (pfilter T i pend) (pute e o.dst (v)) w')(hi:ops[i]? =some o:=by rfl)(hw:bK ops o e=true:=by kernel_rfl)(hd:iW n o.dst=true:=by kernel_rfl)(ho:o.op= .call {callee:= .value x,args:=xs,argTypes:=ts}:=by rfl)(hx:evl e x=fv:=by kernel_rfl)(ha:xs.map (evl e)=args:=by kernel_rfl):WC P n ops T K (.e i::r) pend e w:=clvC h hk hi hw hd ho hx ha
theorem zA{i:Nat}{ts:Array TypeId}{ty:TypeId}{x y:Operand}{vx vy:Value}{A:Option Addr→Nat→Nat→World→Prop}(h:Ap P w ts ty vx vy A)(hk:∀a m c w',A a m c w'→AllOk P w' (pfilter T i pend)∧WC P n ops T K r (pfilter T i pend) (pute e o.dst (.slice a m c)) w')(hi:ops[i]? =some o:=by rfl)(hw:bK ops o e=true:=by kernel_rfl)(hd:iW n o.dst=true:=by kernel_rfl)(ho:o.op= .call {callee:= .builtin .append,args:= #[x,y],argTypes:=ts}:=by rfl)(ht:o.type=ty:=by kernel_rfl)(hx:evl e x=vx:=by kernel_rfl)(hy:evl e y=vy:=by kernel_rfl):WC P n ops T K (.e i::r) pend e w:=apC h hk hi hw hd ho ht hx hy
theorem zO{i:Nat}{x:Operand}{p:Option Addr}{A:Addr→Prop}(h:NN p A)(hk:∀a,A a→WC P n ops T K r pend (pute e o.dst (.pointer (some a))) w)(hi:ops[i]? =some o:=by rfl)(hw:bK ops o e=true:=by kernel_rfl)(hd:iW n o.dst=true:=by kernel_rfl)(ho:o.op= .nilCheck x:=by rfl)(hx:evl e x= .pointer p:=by kernel_rfl):WC P n ops T K (.p i::r) pend e w:=nnC h hk hi hw hd ho hx
theorem zI{i:Nat}{t el sz:Nat}{x y:Operand}{p:Option Addr}{m:Nat}{j:Int}{A:Addr→Prop}(ht:slk P t=some (el,sz))(h:Ix p m j A)(hk:∀a,A a→WC P n ops T K r pend (pute e o.dst (.pointer (some (a.add (j.toNat*sz))))) w)(hi:ops[i]? =some o:=by rfl)(hw:bK ops o e=true:=by kernel_rfl)(hd:iW n o.dst=true:=by kernel_rfl)(ho:o.op= .indexAddr t x y:=by rfl)(hx:ptrN (evl e x)=some (p,m):=by kernel_rfl)(hy:aDW (evl e y)=some j:=by kernel_rfl):WC P n ops T K (.p i::r) pend e w:=by
 obtain⟨c,hc⟩:=aEc hx;obtain⟨k,hk'⟩:=aBR hy;exact ixC ht h hk hi hw hd ho hc hk'
theorem ze{i:Nat}(h:WC P n ops T K r pend (pute e o.dst undef) w)(ho:ops[i]? =some o:=by rfl)(hd:iW n o.dst=true:=by kernel_rfl)(hw:bK ops o e=false:=by kernel_rfl):WC P n ops T K (.l i::r) pend e w:=aG8 ho hd hw h
theorem zE{i:Nat}(h:WC P n ops T K r pend (pute e o.dst undef) w)(ho:ops[i]? =some o:=by rfl)(hd:iW n o.dst=true:=by kernel_rfl)(hw:bK ops o e=false:=by kernel_rfl):WC P n ops T K (.e i::r) pend e w:=aGb ho hd hw h
theorem zf{i t m:Nat}{x:Operand}{a:Addr}{v:Value}{l:List Pend}(ht:tyk P t=some (false,m))(hx:w.cell? a=some v)(hl:AllOk P w l)(ho:o.op= .load t x:=by rfl)(ha:evl e x= .pointer (some a):=by kernel_rfl):AllOk P w (⟨i,execOp (evl e) o,v⟩::l):=AllOk.cons (jW (jO ho ha (fW ht hx))) hl
theorem zy{t:TypeId}{x y:Operand}{vx vy v:Value}{ok:Bool}{w':World}(hl:(Instr.lookup t vx vy ok).run P w= .ok v w')(h:WO P n ops K rest (pute e o.dst v) w')(hw:bK ops o e=true:=by kernel_rfl)(hd:iW n o.dst=true:=by kernel_rfl)(ho:o.op= .lookup t x y ok:=by rfl)(hx:evl e x=vx:=by kernel_rfl)(hy:evl e y=vy:=by kernel_rfl):WO P n ops K (o::rest) e w:=m5 hw hd (yX ho hx hy hl) h
theorem zY{i:Nat}{t:TypeId}{x y:Operand}{vx vy v:Value}{ok:Bool}(hl:(Instr.lookup t vx vy ok).run P w= .ok v w)(h:WC P n ops T K r (⟨i,execOp (evl e) o,v⟩::pend) (pute e o.dst v) w)(hi:ops[i]? =some o:=by rfl)(hw:bK ops o e=true:=by kernel_rfl)(hd:iW n o.dst=true:=by kernel_rfl)(ho:o.op= .lookup t x y ok:=by rfl)(hx:evl e x=vx:=by kernel_rfl)(hy:evl e y=vy:=by kernel_rfl):WC P n ops T K (.l i::r) pend e w:=aG9 hi hd hw (yX ho hx hy hl) h
theorem zh{i:Nat}{t:TypeId}{x y:Operand}{vx vy v:Value}{ok:Bool}{l:List Pend}(hl:(Instr.lookup t vx vy ok).run P w= .ok v w)(hk:AllOk P w l)(ho:o.op= .lookup t x y ok:=by rfl)(hx:evl e x=vx:=by kernel_rfl)(hy:evl e y=vy:=by kernel_rfl):AllOk P w (⟨i,execOp (evl e) o,v⟩::l):=AllOk.cons (jW (yX ho hx hy hl)) hk
theorem zme{i:Nat}{t:TypeId}{x y:Operand}{vx vy v:Value}{w':World}(hl:(Instr.mapEntry t vx vy).run P w= .ok v w')(h:AllOk P w' (pfilter T i pend)∧WC P n ops T K r (pfilter T i pend) (pute e o.dst v) w')(hi:ops[i]? =some o:=by rfl)(hw:bK ops o e=true:=by kernel_rfl)(hd:iW n o.dst=true:=by kernel_rfl)(ho:o.op= .mapEntry t x y:=by rfl)(hx:evl e x=vx:=by kernel_rfl)(hy:evl e y=vy:=by kernel_rfl):WC P n ops T K (.e i::r) pend e w:=aEy hi hd hw (aD3 ho hx hy hl) h
theorem zes{i:Nat}{t:TypeId}{x y z:Operand}{vx vy vz:Value}{w':World}(hl:(Instr.entryStore t vx vy vz).run P w= .ok () w')(h:AllOk P w' (pfilter T i pend)∧WC P n ops T K r (pfilter T i pend) (pute e o.dst undef) w')(hi:ops[i]? =some o:=by rfl)(hw:bK ops o e=true:=by kernel_rfl)(hd:iW n o.dst=true:=by kernel_rfl)(ho:o.op= .entryStore t x y z:=by rfl)(hx:evl e x=vx:=by kernel_rfl)(hy:evl e y=vy:=by kernel_rfl)(hz:evl e z=vz:=by kernel_rfl):WC P n ops T K (.e i::r) pend e w:=aGa hi hd hw (aBi ho hx hy hz hl) h
theorem z1{fn:Func}{R:Value→World→Prop}{t:Tmp}{v:Value}(hR:R v w)(h:fn.results= #[.tmp t]:=by rfl)(hv:e t=v:=by kernel_rfl):aAY fn P n R .ret e w:=ret1 h hv hR
theorem z2{fn:Func}{R:Value→World→Prop}{t u:Tmp}{v v':Value}(hR:R (.tuple #[v,v']) w)(h:fn.results= #[.tmp t,.tmp u]:=by rfl)(hv:e t=v:=by kernel_rfl)(hv':e u=v':=by kernel_rfl):aAY fn P n R .ret e w:=ret2 h hv hv' hR
theorem z3{fn:Func}{R:Value→World→Prop}{t u s:Tmp}{v v' v'':Value}(hR:R (.tuple #[v,v',v'']) w)(h:fn.results= #[.tmp t,.tmp u,.tmp s]:=by rfl)(hv:e t=v:=by kernel_rfl)(hv':e u=v':=by kernel_rfl)(hv'':e s=v'':=by kernel_rfl):aAY fn P n R .ret e w:=ret3 h hv hv' hv'' hR
end
end Go.Wx
namespace Go.Proofs.YtcbijkakoepglaaGreat
open Go Go.Wx
noncomputable abbrev Pg:Program:=Tryz.prog
theorem iG:Pg.follows .mixedOrders=true:=by kernel_rfl
@[ext] structure TLot where
 Id:Int
 Thing:Int
 Layer:Int
 Day:Int
 Due:Int
 Unit:ByteArray
 N:Int
 Left:Int
 State:Int
 Bag:Int
def TLot.enc(x:TLot):List Value:=[vi x.Id,vi x.Thing,vi x.Layer,vi x.Day,vi x.Due,vs x.Unit,vi x.N,vi x.Left,vu x.State,vi x.Bag]
@[ext] structure TAmount where
 Unit:ByteArray
 N:Int
def TAmount.enc(x:TAmount):List Value:=[vs x.Unit,vi x.N]
@[ext] structure TOp where
 Kind:Int
 Day:Int
 Unit:ByteArray
 To:ByteArray
 A:Int
 B:Int
 C:Int
 Goods_a:Option Addr
 Goods_n:Nat
 Goods_c:Nat
 Lots_a:Option Addr
 Lots_n:Nat
 Lots_c:Nat
def TOp.enc(x:TOp):List Value:=[vu x.Kind,vi x.Day,vs x.Unit,vs x.To,vi x.A,vi x.B,vi x.C,vl x.Goods_a x.Goods_n x.Goods_c,vl x.Lots_a x.Lots_n x.Lots_c]
@[ext] structure TResult where
 E:Int
 N:Int
 M:Int
 Ints_a:Option Addr
 Ints_n:Nat
 Ints_c:Nat
 Amounts_a:Option Addr
 Amounts_n:Nat
 Amounts_c:Nat
 Lots_a:Option Addr
 Lots_n:Nat
 Lots_c:Nat
def TResult.enc(x:TResult):List Value:=[vi x.E,vi x.N,vi x.M,vl x.Ints_a x.Ints_n x.Ints_c,vl x.Amounts_a x.Amounts_n x.Amounts_c,vl x.Lots_a x.Lots_n x.Lots_c]
@[ext] structure TTrialLine where
 Account_Kind:Int
 Account_Id:Int
 Unit:ByteArray
 N:Int
def TTrialLine.enc(x:TTrialLine):List Value:=[vu x.Account_Kind,vi x.Account_Id,vs x.Unit,vi x.N]
@[ext] structure TAccount where
 Kind:Int
 Id:Int
def TAccount.enc(x:TAccount):List Value:=[vu x.Kind,vi x.Id]
@[ext] structure TPosting where
 Day:Int
 Unit:ByteArray
 N:Int
 From_Kind:Int
 From_Id:Int
 To_Kind:Int
 To_Id:Int
 Why:Int
 Lot:Int
def TPosting.enc(x:TPosting):List Value:=[vi x.Day,vs x.Unit,vi x.N,vu x.From_Kind,vi x.From_Id,vu x.To_Kind,vi x.To_Id,vu x.Why,vi x.Lot]
@[ext] structure TTerm where
 Unit:ByteArray
 Day:Int
 Least:Int
 Days:Int
def TTerm.enc(x:TTerm):List Value:=[vs x.Unit,vi x.Day,vi x.Least,vi x.Days]
@[ext] structure TStatementLine where
 Posting:Int
 Balance:Int
def TStatementLine.enc(x:TStatementLine):List Value:=[vi x.Posting,vi x.Balance]
@[ext] structure A2_2_uint8 where
 x0:Int
 x1:Int
def A2_2_uint8.enc(x:A2_2_uint8):List Value:=[vu x.x0,vu x.x1]
@[ext] structure Tplace where
 account_Kind:Int
 account_Id:Int
 unit:ByteArray
def Tplace.enc(x:Tplace):List Value:=[vu x.account_Kind,vi x.account_Id,vs x.unit]
@[ext] structure Tstate where
 day:Int
 units_a:Option Addr
 units_n:Nat
 units_c:Nat
 terms_a:Option Addr
 terms_n:Nat
 terms_c:Nat
 lots_a:Option Addr
 lots_n:Nat
 lots_c:Nat
 postings_a:Option Addr
 postings_n:Nat
 postings_c:Nat
def Tstate.enc(x:Tstate):List Value:=[vi x.day,vl x.units_a x.units_n x.units_c,vl x.terms_a x.terms_n x.terms_c,vl x.lots_a x.lots_n x.lots_c,vl x.postings_a x.postings_n x.postings_c]
@[ext] structure Tdated where
 day:Int
 grains:Int
def Tdated.enc(x:Tdated):List Value:=[vi x.day,vi x.grains]
@[ext] structure Tterm where
 day:Int
 least:Int
 days:Int
 unit:ByteArray
def Tterm.enc(x:Tterm):List Value:=[vi x.day,vi x.least,vi x.days,vs x.unit]
@[ext] structure Tunit where
 name:ByteArray
 kind:Int
 values_a:Option Addr
 values_n:Nat
 values_c:Nat
def Tunit.enc(x:Tunit):List Value:=[vs x.name,vu x.kind,vl x.values_a x.values_n x.values_c]
theorem tk3:tyk Pg 3=some (false,1):=by kernel_rfl
theorem tk4:tyk Pg 4=some (false,1):=by kernel_rfl
theorem tk5:tyk Pg 5=some (false,1):=by kernel_rfl
theorem tk9:tyk Pg 9=some (false,1):=by kernel_rfl
theorem sT:tyk Pg 22=some (false,1):=by kernel_rfl
theorem rK:tyk Pg 25=some (false,1):=by kernel_rfl
theorem j8:tyk Pg 40=some (true,2):=by kernel_rfl
theorem aAV:tyk Pg 42=some (true,9):=by kernel_rfl
theorem jU:tyk Pg 45=some (true,10):=by kernel_rfl
theorem iU:tyk Pg 46=some (false,1):=by kernel_rfl
theorem xW:tyk Pg 49=some (true,4):=by kernel_rfl
theorem uK:tyk Pg 53=some (false,1):=by kernel_rfl
theorem yP:tyk Pg 58=some (true,2):=by kernel_rfl
theorem xV:tyk Pg 63=some (false,1):=by kernel_rfl
theorem aCX:tyk Pg 77=some (true,9):=by kernel_rfl
theorem jB:tyk Pg 80=some (true,6):=by kernel_rfl
theorem tk97:tyk Pg 97=some (true,2):=by kernel_rfl
theorem aFf:tyk Pg 108=some (true,2):=by kernel_rfl
theorem aE5:tyk Pg 111=some (true,3):=by kernel_rfl
theorem rM:tyk Pg 117=some (false,1):=by kernel_rfl
theorem aAk:tyk Pg 118=some (false,1):=by kernel_rfl
theorem aAj:tyk Pg 120=some (true,5):=by kernel_rfl
theorem aFe:tyk Pg 124=some (false,1):=by kernel_rfl
theorem tk136:tyk Pg 136=some (false,1):=by kernel_rfl
theorem vD:tyk Pg 139=some (false,1):=by kernel_rfl
theorem aAC:tyk Pg 140=some (false,1):=by kernel_rfl
theorem aAi:tyk Pg 141=some (false,1):=by kernel_rfl
theorem aBo:tyk Pg 148=some (false,1):=by kernel_rfl
theorem tk150:tyk Pg 150=some (true,3):=by kernel_rfl
theorem aDA:tyk Pg 152=some (true,4):=by kernel_rfl
theorem aCz:tyk Pg 156=some (true,4):=by kernel_rfl
theorem tk172:tyk Pg 172=some (false,1):=by kernel_rfl
theorem tk175:tyk Pg 175=some (true,2):=by kernel_rfl
theorem tk181:tyk Pg 181=some (false,1):=by kernel_rfl
theorem aAw:slk Pg 22=some (42,9):=by kernel_rfl
theorem xC:slk Pg 24=some (49,4):=by kernel_rfl
theorem aFl:slk Pg 30=some (77,9):=by kernel_rfl
theorem dX:slk Pg 46=some (45,10):=by kernel_rfl
theorem pM:slk Pg 53=some (58,2):=by kernel_rfl
theorem xB:slk Pg 63=some (3,1):=by kernel_rfl
theorem slk94:slk Pg 94=some (97,2):=by kernel_rfl
theorem slk107:slk Pg 107=some (108,2):=by kernel_rfl
theorem xM:slk Pg 117=some (150,3):=by kernel_rfl
theorem slk118:slk Pg 118=some (152,4):=by kernel_rfl
theorem aAx:slk Pg 139=some (191,2):=by kernel_rfl
theorem aDy:slk Pg 140=some (154,3):=by kernel_rfl
theorem slk141:slk Pg 141=some (156,4):=by kernel_rfl
theorem slk148:slk Pg 148=some (175,2):=by kernel_rfl
theorem aC1:slk Pg 158=some (9,1):=by kernel_rfl
theorem tL{d:Nat}{w:World}{a0:Int}{b0:Int}{a1:Int}{b1:Int}:(Op.equalIn (d+2) 40 (.agg (List.toArray [vu a0,vi a1])) (.agg (List.toArray [vu b0,vi b1]))).run Pg w= .ok ((a0==b0)&&((a1==b1)&&true)) w:=by
 rw[run_equalIn_struct w (d+1) 40 _ _ (by kernel_rfl) (by kernel_rfl)];simp only[Program.fieldsOf,show Pg.underlying 40=_ from Tryz.underlying40];exact lC (a:=vu a0) (b:=vu b0) (by kernel_rfl) (by kernel_rfl) (by kernel_rfl) (run_equalIn_int w (d+0) 5 .u8 .u8 _ _ (by kernel_rfl)) (lC (a:=vi a1) (b:=vi b1) (by kernel_rfl) (by kernel_rfl) (by kernel_rfl) (run_equalIn_int w (d+0) 3 .i64 .i64 _ _ (by kernel_rfl)) (wS))
theorem eqI49{d:Nat}{w:World}{a0:Int}{b0:Int}{a1:Int}{b1:Int}{a2:ByteArray}{b2:ByteArray}{a3:Int}{b3:Int}:(Op.equalIn (d+3) 49 (.agg (List.toArray [vu a0,vi a1,vs a2,vi a3])) (.agg (List.toArray [vu b0,vi b1,vs b2,vi b3]))).run Pg w= .ok (((a0==b0)&&((a1==b1)&&true))&&(dF a2 b2&&((a3==b3)&&true))) w:=by
 rw[run_equalIn_struct w (d+2) 49 _ _ (by kernel_rfl) (by kernel_rfl)];simp only[Program.fieldsOf,show Pg.underlying 49=_ from Tryz.underlying49];exact lC (a:=vg [vu a0,vi a1]) (b:=vg [vu b0,vi b1]) (by kernel_rfl) (by kernel_rfl) (by kernel_rfl) (tL (d:=d+0)) (lC (a:=vs a2) (b:=vs b2) (by kernel_rfl) (by kernel_rfl) (by kernel_rfl) (run_equalIn_string w (d+1) 9 _ _ (by kernel_rfl)) (lC (a:=vi a3) (b:=vi b3) (by kernel_rfl) (by kernel_rfl) (by kernel_rfl) (run_equalIn_int w (d+1) 3 .i64 .i64 _ _ (by kernel_rfl)) (wS)))
theorem eqI58{d:Nat}{w:World}{a0:ByteArray}{b0:ByteArray}{a1:Int}{b1:Int}:(Op.equalIn (d+2) 58 (.agg (List.toArray [vs a0,vi a1])) (.agg (List.toArray [vs b0,vi b1]))).run Pg w= .ok (dF a0 b0&&((a1==b1)&&true)) w:=by
 rw[run_equalIn_struct w (d+1) 58 _ _ (by kernel_rfl) (by kernel_rfl)];simp only[Program.fieldsOf,show Pg.underlying 58=_ from Tryz.underlying58];exact lC (a:=vs a0) (b:=vs b0) (by kernel_rfl) (by kernel_rfl) (by kernel_rfl) (run_equalIn_string w (d+0) 9 _ _ (by kernel_rfl)) (lC (a:=vi a1) (b:=vi b1) (by kernel_rfl) (by kernel_rfl) (by kernel_rfl) (run_equalIn_int w (d+0) 3 .i64 .i64 _ _ (by kernel_rfl)) (wS))
theorem eqI45{d:Nat}{w:World}{a0:Int}{b0:Int}{a1:Int}{b1:Int}{a2:Int}{b2:Int}{a3:Int}{b3:Int}{a4:Int}{b4:Int}{a5:ByteArray}{b5:ByteArray}{a6:Int}{b6:Int}{a7:Int}{b7:Int}{a8:Int}{b8:Int}{a9:Int}{b9:Int}:(Op.equalIn (d+2) 45 (.agg (List.toArray [vi a0,vi a1,vi a2,vi a3,vi a4,vs a5,vi a6,vi a7,vu a8,vi a9])) (.agg (List.toArray [vi b0,vi b1,vi b2,vi b3,vi b4,vs b5,vi b6,vi b7,vu b8,vi b9]))).run Pg w= .ok ((a0==b0)&&((a1==b1)&&((a2==b2)&&((a3==b3)&&((a4==b4)&&(dF a5 b5&&((a6==b6)&&((a7==b7)&&((a8==b8)&&((a9==b9)&&true)))))))))) w:=by
 rw[run_equalIn_struct w (d+1) 45 _ _ (by kernel_rfl) (by kernel_rfl)];simp only[Program.fieldsOf,show Pg.underlying 45=_ from Tryz.underlying45]
 exact lC (a:=vi a0) (b:=vi b0) (by kernel_rfl) (by kernel_rfl) (by kernel_rfl) (run_equalIn_int w (d+0) 3 .i64 .i64 _ _ (by kernel_rfl)) (lC (a:=vi a1) (b:=vi b1) (by kernel_rfl) (by kernel_rfl) (by kernel_rfl) (run_equalIn_int w (d+0) 3 .i64 .i64 _ _ (by kernel_rfl)) (lC (a:=vi a2) (b:=vi b2) (by kernel_rfl) (by kernel_rfl) (by kernel_rfl) (run_equalIn_int w (d+0) 3 .i64 .i64 _ _ (by kernel_rfl)) (lC (a:=vi a3) (b:=vi b3) (by kernel_rfl) (by kernel_rfl) (by kernel_rfl) (run_equalIn_int w (d+0) 3 .i64 .i64 _ _ (by kernel_rfl)) (lC (a:=vi a4) (b:=vi b4) (by kernel_rfl) (by kernel_rfl) (by kernel_rfl) (run_equalIn_int w (d+0) 3 .i64 .i64 _ _ (by kernel_rfl)) (lC (a:=vs a5) (b:=vs b5) (by kernel_rfl) (by kernel_rfl) (by kernel_rfl) (run_equalIn_string w (d+0) 9 _ _ (by kernel_rfl)) (lC (a:=vi a6) (b:=vi b6) (by kernel_rfl) (by kernel_rfl) (by kernel_rfl) (run_equalIn_int w (d+0) 3 .i64 .i64 _ _ (by kernel_rfl)) (lC (a:=vi a7) (b:=vi b7) (by kernel_rfl) (by kernel_rfl) (by kernel_rfl) (run_equalIn_int w (d+0) 3 .i64 .i64 _ _ (by kernel_rfl)) (lC (a:=vu a8) (b:=vu b8) (by kernel_rfl) (by kernel_rfl) (by kernel_rfl) (run_equalIn_int w (d+0) 5 .u8 .u8 _ _ (by kernel_rfl)) (lC (a:=vi a9) (b:=vi b9) (by kernel_rfl) (by kernel_rfl) (by kernel_rfl) (run_equalIn_int w (d+0) 3 .i64 .i64 _ _ (by kernel_rfl)) (wS))))))))))
theorem eqI97{d:Nat}{w:World}{a0:Int}{b0:Int}{a1:Int}{b1:Int}:(Op.equalIn (d+2) 97 (.agg (List.toArray [vi a0,vi a1])) (.agg (List.toArray [vi b0,vi b1]))).run Pg w= .ok ((a0==b0)&&((a1==b1)&&true)) w:=by
 rw[run_equalIn_struct w (d+1) 97 _ _ (by kernel_rfl) (by kernel_rfl)];simp only[Program.fieldsOf,show Pg.underlying 97=_ from Tryz.underlying97];exact lC (a:=vi a0) (b:=vi b0) (by kernel_rfl) (by kernel_rfl) (by kernel_rfl) (run_equalIn_int w (d+0) 3 .i64 .i64 _ _ (by kernel_rfl)) (lC (a:=vi a1) (b:=vi b1) (by kernel_rfl) (by kernel_rfl) (by kernel_rfl) (run_equalIn_int w (d+0) 3 .i64 .i64 _ _ (by kernel_rfl)) (wS))
end Go.Proofs.YtcbijkakoepglaaGreat
namespace Go.Wx
open Go
structure Frm(S:Nat→Prop)(w w':World):Prop where
 os:w'.os=w.os
 tape:w'.tape=w.tape
 output:w'.output=w.output
 drawn:w.drawn≤w'.drawn
 size:w.heap.size≤w'.heap.size
 blk:∀b,b<w.heap.size→¬S b→w'.heap[b]? =w.heap[b]?
abbrev Ext(w w':World):Prop:=Frm (fun _=>False) w w'
def At(w:World)(b:Nat)(o:Obj):Prop:=w.heap[b]? =some o
section
variable {w w1 w2 w3 : World} {S S' : Nat → Prop}
theorem Frm.refl(S:Nat→Prop)(w:World):Frm S w w:=⟨rfl,rfl,rfl,Nat.le_refl _,Nat.le_refl _,fun _ _ _=>rfl⟩
theorem Frm.mono(h:Frm S w w1)(hs:∀b,b<w.heap.size→S b→S' b):Frm S' w w1:=⟨h.os,h.tape,h.output,h.drawn,h.size,fun b hb hn=>h.blk b hb fun hS=>hn (hs b hb hS)⟩
theorem Frm.trans(h:Frm S w w1)(h':Frm S' w1 w2)(hs:∀b,b<w.heap.size→S' b→S b):Frm S w w2:=
 ⟨h'.os.trans h.os,h'.tape.trans h.tape,h'.output.trans h.output,Nat.le_trans h.drawn h'.drawn,Nat.le_trans h.size h'.size,fun b hb hn=>(h'.blk b (Nat.lt_of_lt_of_le hb h.size) fun hS=>hn (hs b hb hS)).trans (h.blk b hb hn)⟩
theorem Frm.trans'(h:Frm S w w1)(h':Frm S w1 w2):Frm S w w2:=h.trans h' fun _ _ h=>h
theorem er(w:World):Ext w w:=Frm.refl _ w
theorem Ext.trans(h:Ext w w1)(h':Ext w1 w2):Ext w w2:=Frm.trans h h' fun _ _ h=>h
theorem Ext.frm(h:Ext w w1):Frm S w w1:=Frm.mono h fun _ _ h=>h.elim
theorem Frm.ext(h:Frm S w w1)(h':Ext w1 w2):Frm S w w2:=h.trans h' fun _ _ h=>h.elim
theorem Ext.then(h:Ext w w1)(h':Frm S w1 w2):Frm S w w2:=(Ext.frm h).trans h' fun _ _ h=>h
theorem nE(o:Obj):Ext w (w.alloc o):=⟨rfl,rfl,rfl,Nat.le_refl _,by simp,fun _ hb _=>heap_alloc_old w o hb⟩
theorem uD:Ext w w.drew:=⟨rfl,rfl,rfl,Nat.le_succ _,Nat.le_refl _,fun _ _ _=>rfl⟩
theorem frm_setB{b:Nat}{o:Obj}:Frm (fun k=>k=b) w (lY w b o):=⟨rfl,rfl,rfl,Nat.le_refl _,by rw[aFE];exact Nat.le_refl _,fun k _ hn=>vE hn⟩
theorem At.lt{b:Nat}{o:Obj}(h:At w b o):b<w.heap.size:=(Array.getElem?_eq_some_iff.1 h).1
theorem At.frm{b:Nat}{o:Obj}(h:At w b o)(f:Frm S w w1)(hn:¬S b):At w1 b o:=(f.blk b h.lt hn).trans h
theorem At.ext{b:Nat}{o:Obj}(h:At w b o)(f:Ext w w1):At w1 b o:=h.frm f id
theorem At.new{o:Obj}:At (w.alloc o) w.heap.size o:=heap_alloc_new w o
theorem At.set{b:Nat}{o o':Obj}(h:At w b o):At (lY w b o') b o':=rA h
theorem At.ne{b b':Nat}{o o':Obj}(h:At w b o)(h':At w b' o')(hn:o≠o'):b≠b':=fun e=>hn (by subst e;exact Option.some.inj (h.symm.trans h'))
def tyO:Obj→Option TypeId
 | .cells _ t _=>some t
 | _=>none
theorem At.neT{b b':Nat}{o o':Obj}(h:At w b o)(h':At w b' o')(hn:tyO o≠tyO o'):b≠b':=h.ne h' fun e=>hn (by rw[e])
theorem aEr{a:Addr}{v:Value}(h:w.cell? a=some v):a.block<w.heap.size:=World.block_lt_of_cell? w a h
theorem aDl{a:Addr}{v:Value}(h:w.cell? a=some v)(f:Frm S w w1)(hn:¬S a.block):w1.cell? a=some v:=(World.cell?_of_block (f.blk _ (aEr h) hn)).trans h
theorem aDm{a:Addr}{v:Value}(h:w.cell? a=some v)(f:Ext w w1):w1.cell? a=some v:=aDl h f id
theorem add_block(a:Addr)(n:Nat):(a.add n).block=a.block:=by unfold Addr.add;split<;>rfl
theorem Cells.frm{a:Addr}{vs:List Value}(h:Cells w a vs)(f:Frm S w w1)(hn:¬S a.block):Cells w1 a vs:=fun i v hi=>aDl (h i v hi) f (by rw[add_block];exact hn)
theorem Cells.ext{a:Addr}{vs:List Value}(h:Cells w a vs)(f:Ext w w1):Cells w1 a vs:=h.frm f id
theorem Cells.lt{a:Addr}{vs:List Value}(h:Cells w a vs)(hv:vs≠[]):a.block<w.heap.size:=by
 cases vs with
 | nil=>exact absurd rfl hv
 | cons v vs=>have:=aEr (h 0 v rfl);rwa[add_block]at this
theorem rI(a:Addr)(m n:Nat):(a.add m).add n=a.add (m+n):=by
 unfold Addr.add;by_cases hm:m=0<;>by_cases hn:n=0<;>simp[hm,hn,Nat.add_assoc]
theorem Cells.at{a:Addr}{vs:List Value}(h:Cells w a vs)(i:Nat){v:Value}(hv:vs[i]? =some v):w.cell? (a.add i)=some v:=h i v hv
theorem Cells.of_at{b off:Nat}{c:Array Value}{T:TypeId}{fr:Nat × Nat}(h:At w b (.cells c T fr)){vs:List Value}(hv:(c.toList.drop off).take vs.length=vs):Cells w ⟨b,off,none⟩ vs:=dS h hv
def Rd{α:Type}(enc:α→List Value)(sz:Nat)(w:World)(a:Option Addr)(n:Nat)(xs:List α):Prop:=
 n=xs.length∧(a=none→n=0)∧∀a0,a=some a0→∀i x,xs[i]? =some x→Cells w (a0.add (i*sz)) (enc x)
section
variable {α : Type} {enc : α → List Value} {sz : Nat} {a : Option Addr} {n c : Nat} {xs : List α}
theorem Rd.frm(h:Rd enc sz w a n xs)(f:Frm S w w1)(hn:∀a0,a=some a0→n≠0→¬S a0.block):Rd enc sz w1 a n xs:=by
 refine⟨h.1,h.2.1,fun a0 ha i x hx=>(h.2.2 a0 ha i x hx).frm f ?_⟩;rw[add_block];refine hn a0 ha ?_;rw[h.1];have:=(List.getElem?_eq_some_iff.1 hx).1;omega
theorem Rd.ext(h:Rd enc sz w a n xs)(f:Ext w w1):Rd enc sz w1 a n xs:=h.frm f fun _ _ _=>id
theorem Rd.nil:Rd enc sz w none 0 []:=⟨rfl,fun _=>rfl,fun _ h=>by cases h⟩
theorem Rd.nil':Rd enc sz w a 0 []:=⟨rfl,fun _=>rfl,fun _ _ i x hx=>by simp at hx⟩
theorem Rd.ix(h:Rd enc sz w a n xs){v:Int}(h0:0≤v)(h1:v<n){K:Addr→Prop}(hk:∀a0 x,a=some a0→xs[v.toNat]? =some x→Cells w (a0.add (v.toNat*sz)) (enc x)→K a0):Ix a n v K:=by
 cases a with
 | none=>have:=h.2.1 rfl;omega
 | some a0=>
  have hl:v.toNat<xs.length:=by have:=h.1;omega
  exact⟨a0,rfl,h0,h1,hk a0 _ rfl (List.getElem?_eq_getElem hl) (h.2.2 a0 rfl _ _ (List.getElem?_eq_getElem hl))⟩
theorem Rd.block_lt(h:Rd enc sz w a n xs)(he:∀x,enc x≠[]):∀a0,a=some a0→n≠0→a0.block<w.heap.size:=by
 intro a0 ha hn;have hl:0<xs.length:=by have:=h.1;omega
 have:=(h.2.2 a0 ha 0 _ (List.getElem?_eq_getElem hl)).lt (he _);rwa[add_block]at this
def Own(T sz:Nat)(enc:α→List Value)(w:World)(a:Option Addr)(n c:Nat)(xs:List α):Prop:=
 n=xs.length∧((c=0∧n=0)∨∃g cur,a=some ⟨g,0,none⟩∧At w g (.cells cur T (0,0))∧n≤c∧c≤maxLen∧cur.size=c*sz∧cur.toList.take (n*sz)=xs.flatMap enc)
def obk(a:Option Addr)(c:Nat):Option Nat:=if c=0 then none else a.map (·.block)
theorem uE(he:∀x,(enc x).length=sz):∀xs:List α,(xs.flatMap enc).length=xs.length*sz
 |[]=>by simp
 | x::xs=>by rw[List.flatMap_cons,List.length_append,he,uE he xs,List.length_cons,Nat.succ_mul];omega
theorem aBX(he:∀x,(enc x).length=sz):∀(xs:List α) (i:Nat) (x:α),xs[i]? =some x→((xs.flatMap enc).drop (i*sz)).take sz=enc x
 |[],i,x,h=>by simp at h
 | y::xs,0,x,h=>by
  simp at h;subst h;simp[List.flatMap_cons,List.take_append,he]
 | y::xs,i+1,x,h=>by
  rw[List.flatMap_cons,List.drop_append,List.drop_of_length_le (by rw[he];exact Nat.le_trans (Nat.le_mul_of_pos_left sz (Nat.succ_pos i)) (Nat.le_refl _)),List.nil_append,he,Nat.succ_mul,Nat.add_sub_cancel];exact aBX he xs i x (by simpa using h)
theorem Own.rd(he:∀x,(enc x).length=sz){T:Nat}(h:Own T sz enc w a n c xs):Rd enc sz w a n xs:=by
 rcases h with⟨hl,⟨h1,h2⟩ | ⟨g,cur,rfl,hat,hnc,hcm,hs,ht⟩⟩
 ·subst h2;obtain rfl:xs=[]:=List.eq_nil_of_length_eq_zero hl.symm;exact Rd.nil'
 ·refine⟨hl,fun h=>(by cases h),fun a0 ha i x hx=>?_⟩;obtain rfl:=Option.some.inj ha;rw[mC];refine Cells.of_at hat ?_;have hi:=(List.getElem?_eq_some_iff.1 hx).1;rw[he,Nat.zero_add,←aBX he xs i x hx,←ht,List.drop_take,List.take_take,Nat.min_eq_left];rw[hl,←Nat.sub_mul];exact Nat.le_mul_of_pos_left _ (by omega)
theorem Own.frm{T:Nat}(h:Own T sz enc w a n c xs)(f:Frm S w w1)(hn:∀b,obk a c=some b→¬S b):Own T sz enc w1 a n c xs:=by
 rcases h with⟨hl,h | ⟨g,cur,rfl,hat,hnc,hcm,hs,ht⟩⟩
 ·exact⟨hl,.inl h⟩
 ·by_cases hc:c=0
  ·exact⟨hl,.inl ⟨hc,by omega⟩⟩
  ·exact⟨hl,.inr ⟨g,cur,rfl,hat.frm f (hn g (by simp[obk,hc])),hnc,hcm,hs,ht⟩⟩
theorem Own.ext{T:Nat}(h:Own T sz enc w a n c xs)(f:Ext w w1):Own T sz enc w1 a n c xs:=h.frm f fun _ _=>id
theorem Own.nil{T:Nat}:Own T sz enc w none 0 0 []:=⟨rfl,.inl ⟨rfl,rfl⟩⟩
theorem Own.nil'{T:Nat}:Own T sz enc w a 0 0 []:=⟨rfl,.inl ⟨rfl,rfl⟩⟩
theorem Own.at{T:Nat}(h:Own T sz enc w a n c xs):∀b,obk a c=some b→∃cur,At w b (.cells cur T (0,0)):=by
 intro b hb;unfold obk at hb;split at hb
 ·cases hb
 ·rcases h with⟨hl,h | ⟨g,cur,rfl,hat,_⟩⟩
  ·omega
  ·simp at hb;subst hb;exact⟨cur,hat⟩
theorem Own.neT{T:Nat}{b:Nat}{o:Obj}(h:Own T sz enc w a n c xs)(h':At w b o)(hT:tyO o≠some T):obk a c≠some b:=by
 intro e;obtain⟨cur,hc⟩:=h.at b e;exact h'.neT hc (fun e=>hT e) rfl
end
end
def apk(P:Program)(t:TypeId):Option (TypeId × Nat × Nat):=
 match P.underlying t with
 | some (.slice e)=>match P.info? e with
  | some i=>match i.zero with
   | some z=>if Nat.beq z.cells.size i.size then some (e,i.size,i.bytes)else none
   | none=>none
  | none=>none
 | _=>none
theorem aG0{P:Program}{t e sz by_:Nat}(h:apk P t=some (e,sz,by_)):∃i z,P.underlying t=some (.slice e)∧P.info? e=some i∧i.zero=some z∧z.cells.size=i.size∧i.size=sz∧i.bytes=by_:=by
 unfold apk at h;split at h
 case h_2=>cases h
 split at h
 case h_2=>cases h
 split at h
 case h_2=>cases h
 split at h
 case isFalse=>cases h
 rename_i hu _ _ hi _ z hz hc;simp only[Option.some.injEq,Prod.mk.injEq]at h;obtain⟨rfl,rfl,rfl⟩:=h;exact⟨_,z,hu,hi,hz,Nat.eq_of_beq_eq_true hc,rfl,rfl⟩
section
variable {P : Program} {w : World} {α : Type} {enc : α → List Value} {sz : Nat}
theorem Rd.cells{a:Addr}{n:Nat}{xs:List α}(he:∀x,(enc x).length=sz)(h:Rd enc sz w (some a) n xs):∀j u,(xs.flatMap enc)[j]? =some u→w.cell? (a.add j)=some u:=by
 have key:∀(xs:List α) (a:Addr),(∀i x,xs[i]? =some x→Cells w (a.add (i*sz)) (enc x))→∀j u,(xs.flatMap enc)[j]? =some u→w.cell? (a.add j)=some u:=by
  intro xs;induction xs with
  | nil=>intro a h j u hu;simp at hu
  | cons x xs ih=>
   intro a h j u hu;rw[List.flatMap_cons]at hu;by_cases hj:j<sz
   ·rw[List.getElem?_append_left (by rw[he];exact hj)]at hu;have:=h 0 x rfl j u hu;rwa[Nat.zero_mul,rI,Nat.zero_add]at this
   ·rw[List.getElem?_append_right (by rw[he];omega),he]at hu;have:=ih (a.add sz) (fun i y hy=>by
     have:=h (i+1) y (by simpa using hy);rwa[Nat.succ_mul,Nat.add_comm (i*sz) sz,←rI]at this) (j-sz) u hu
    rwa[rI,Nat.add_sub_cancel' (by omega)]at this
 exact key xs a (h.2.2 a rfl)
theorem aE1{t ty T by_:Nat}(hap:apk P t=some (T,sz,by_))(he:∀x,(enc x).length=sz)(h1:∀x,∀u∈enc x,u.oneCell'=true)
 {a a':Option Addr} {n c m c':Nat} {xs ys:List α} (ho:Own T sz enc w a n c xs) (hr:Rd enc sz w a' m ys) (hb:((n+m)+(n+m) / 4+192)*by_≤281474976710656) (hm:n+m≤maxLen):
 ∃a2 c2 w',(Builtin.append_ #[t,t] ty #[.slice a n c,.slice a' m c']).run P w= .ok (.slice a2 (n+m) c2) w'∧Own T sz enc w' a2 (n+m) c2 (xs++ys)∧Frm (fun b=>obk a c=some b) w w'∧
  (obk a2 c2=obk a c∨∃b,obk a2 c2=some b∧w.heap.size≤b):=by
 obtain⟨i,z,ht,hi,hz,hzs,rfl,rfl⟩:=aG0 hap;have hsrc:Src P i.size t (.slice a' m c') m (ys.flatMap enc) w:=by
  have hl:(ys.flatMap enc).length=m*i.size:=by rw[uE he,hr.1]
  cases a' with
  | none=>
   have hm0:=hr.2.1 rfl;subst hm0;obtain rfl:ys=[]:=List.eq_nil_of_length_eq_zero hr.1.symm;exact Src.ofNil w ht _
  | some a0=>exact Src.ofSlice w ht a0 m c' _ hl (Rd.cells he hr) (fun u hu=>by
   obtain⟨y,_,hy⟩:=List.mem_flatMap.1 hu;exact h1 y u hy)
 have hlm:(ys.flatMap enc).length=m*i.size:=by rw[uE he,hr.1]
 have hlx:(xs.flatMap enc).length=n*i.size:=by rw[uE he,ho.1]
 have hl:n+m=(xs++ys).length:=by rw[List.length_append,←ho.1,←hr.1]
 have hnm:(n+m)*i.size=n*i.size+m*i.size:=Nat.add_mul _ _ _;by_cases hroom:n+m≤c
 ·by_cases hc:c=0
  ·obtain rfl:m=0:=by omega
   obtain rfl:n=0:=by omega
   subst hc;have hx:=run_append_nothing w t t ty T i ht hi a 0 0 (Nat.le_refl _) (.slice a' 0 c') (by
    have:ys.flatMap enc=[]:=List.eq_nil_of_length_eq_zero (by rw[hlm];simp);rw[this]at hsrc;exact hsrc)
   exact⟨a,0,w,hx,⟨hl,.inl ⟨rfl,rfl⟩⟩,Frm.refl _ _,.inl rfl⟩
  ·obtain⟨g,cur,rfl,hat,hnc,hcm,hs,htk⟩:=ho.2.resolve_left (fun h=>hc h.1);have hfit:n*i.size+(ys.flatMap enc).length≤cur.size:=by rw[hlm,hs,←Nat.add_mul];exact Nat.mul_le_mul_right _ hroom
   have hst:=sJ (P:=P) (ys.flatMap enc) 0 (b:=g) (off:=n*i.size) hat (by simpa using hfit) (fun u hu=>by
    obtain⟨y,_,hy⟩:=List.mem_flatMap.1 hu;exact h1 y u hy)
   rw[Nat.add_zero]at hst;refine⟨some ⟨g,0,none⟩,c,lY w g (.cells (oO cur (n*i.size) (ys.flatMap enc)) T (0,0)),?_,⟨hl,.inr ⟨g,_,rfl,hat.set,hroom,hcm,by rw[xN];exact hs,?_⟩⟩,frm_setB.mono ?_,.inl rfl⟩
   ·rcases hsrc.kind with⟨e',hk⟩ | hk<;>simp[Builtin.append_,run_underlying ht,run_underlying hk,sizeOf,typeInfo,hi,hsrc.len,hroom,hsrc.cells,Addr.add_lit,hst]
   ·apply List.ext_getElem?;intro k;rw[List.flatMap_append,←htk];rw[List.getElem?_take,Array.getElem?_toList,yT _ _ _ _ hfit];have hcl:(cur.toList.take (n*i.size)).length=n*i.size:=by rw[htk,hlx]
    by_cases h1:k<n*i.size
    ·rw[List.getElem?_append_left (by rw[hcl];exact h1),if_pos (by omega),if_neg (by omega),List.getElem?_take,if_pos h1,Array.getElem?_toList]
    ·rw[List.getElem?_append_right (by rw[hcl];omega),hcl];by_cases h2:k<(n+m)*i.size
     ·rw[if_pos h2,if_pos ⟨by omega,by rw[hlm];omega⟩]
     ·rw[if_neg h2,List.getElem?_eq_none (by rw[hlm];omega)]
   ·intro b hb hbg;subst hbg;simp[obk,hc]
 ·have hold:(Builtin.firstCells i.size n (.slice a n c)).run P w.drew= .ok (xs.flatMap enc).toArray w.drew:=by
   rcases ho.2 with⟨hc,hn⟩ | ⟨g,cur,rfl,hat,hnc,hcm,hs,htk⟩
   ·subst hc;subst hn;have:xs.flatMap enc=[]:=List.eq_nil_of_length_eq_zero (by rw[hlx];simp);rw[this];cases a with
    | none=>exact run_firstCells_none w.drew i.size 0 0 0
    | some a0=>exact run_firstCells_some w.drew i.size 0 a0 0 0 [] (by simp) (fun j u hu=>by simp at hu)
   ·refine run_firstCells_some w.drew i.size n _ n c _ hlx ?_;intro j u hu;exact(Rd.cells he (ho.rd he) j u hu)
  have hr2:=run_append_grow_src w t t ty T i z ht hi hz a n c _ hold (.slice a' m c') m _ hsrc (by omega) (by simp only[maxLen]at hm;omega) (growslice_fits_wide (by omega) hb);have hge:=grownCap_ge w (n+m) c T;refine⟨_,_,_,hr2,⟨hl,.inr ⟨_,_,rfl,heap_alloc_new w.drew _,hge,grownCap_le_maxLen w (n+m) c T hm,?_,?_⟩⟩,Ext.frm (Ext.trans uD (nE _)),?_⟩
  ·simp only[Array.size_append,List.size_toArray,size_zeroCells,hzs,List.length_append,hlx,hlm,←Nat.add_mul];congr 1;omega
  ·simp only[Array.toList_append,List.append_assoc,List.flatMap_append];rw[←List.append_assoc];have:(n+m)*i.size=(xs.flatMap enc++ys.flatMap enc).length:=by rw[List.length_append,hlx,hlm,Nat.add_mul]
   rw[this];exact List.take_left
  ·refine .inr ⟨w.heap.size,?_,Nat.le_refl _⟩;unfold obk;rw[if_neg (by omega)];rfl
theorem jT{t ty T by_:Nat}(hap:apk P t=some (T,sz,by_))(he:∀x,(enc x).length=sz)(h1:∀x,∀u∈enc x,u.oneCell'=true)
 {a a':Option Addr} {n c m c':Nat} {xs ys:List α} (ho:Own T sz enc w a n c xs) (hr:Rd enc sz w a' m ys) (hb:((n+m)+(n+m) / 4+192)*by_≤281474976710656) (hm:n+m≤maxLen)
 {K:Option Addr→Nat→Nat→World→Prop} (hk:∀a2 c2 w',Own T sz enc w' a2 (n+m) c2 (xs++ys)→Frm (fun b=>obk a c=some b) w w'→(∀b,obk a2 c2=some b→obk a c=some b∨w.heap.size≤b)→K a2 (n+m) c2 w'):
 Ap P w #[t,t] ty (.slice a n c) (.slice a' m c') K:=by
 obtain⟨a2,c2,w',h,ho',f,hf⟩:=aE1 (ty:=ty) hap he h1 ho hr hb hm;refine⟨a2,_,c2,w',h,hk _ _ _ ho' f fun b hb=>?_⟩;rcases hf with hf | ⟨b',e,hf⟩
 ·exact .inl (by rw[←hf];exact hb)
 ·rw[e]at hb;cases hb;exact .inr hf
theorem aA8(he:∀x,(enc x).length=sz):∀(xs:List α) (i r:Nat),r<sz→(xs.flatMap enc)[i*sz+r]? =xs[i]?.bind fun x=>(enc x)[r]?
 |[],i,r,_=>by simp
 | y::xs,0,r,hr=>by rw[List.flatMap_cons,Nat.zero_mul,Nat.zero_add,List.getElem?_append_left (by rw[he];exact hr)];rfl
 | y::xs,i+1,r,hr=>by
  rw[List.flatMap_cons,Nat.succ_mul,List.getElem?_append_right (by rw[he];omega),he,show i*sz+sz+r-sz=i*sz+r by omega,aA8 he xs i r hr];rfl
theorem aGK(he:∀x,(enc x).length=sz){xs:List α}{i j:Nat}{x x':α}{vs:List Value}(hx:xs[i]? =some x)(hj:j+vs.length≤sz)(hv:∀r,r<sz→(enc x')[r]? =if j≤r∧r<j+vs.length then vs[r-j]? else(enc x)[r]?):
 ∀k,((xs.set i x').flatMap enc)[k]? =if i*sz+j≤k∧k<i*sz+j+vs.length then vs[k-(i*sz+j)]? else(xs.flatMap enc)[k]? :=by
 intro k;have hi:=(List.getElem?_eq_some_iff.1 hx).1;by_cases hsz:sz=0
 ·have e0:∀l:List α,l.flatMap enc=[]:=fun l=>List.eq_nil_of_length_eq_zero (by rw[uE he,hsz,Nat.mul_zero]);rw[e0,e0,if_neg (by omega)]
 have hk:k=(k / sz)*sz+k % sz:=by rw[Nat.mul_comm];exact(Nat.div_add_mod k sz).symm
 have hr:k % sz<sz:=Nat.mod_lt _ (by omega);generalize hq:k / sz=q at*;generalize hr':k % sz=r at*;rw[hk,aA8 he _ _ _ hr,aA8 he _ _ _ hr,List.getElem?_set];by_cases hqi:i=q
 ·subst hqi;rw[if_pos rfl,if_pos hi,hx];simp only[Option.bind_some];rw[hv r hr];by_cases hc:j≤r∧r<j+vs.length
  ·rw[if_pos hc,if_pos ⟨by omega,by omega⟩,show i*sz+r-(i*sz+j)=r-j by omega]
  ·rw[if_neg hc,if_neg (by omega)]
 ·rw[if_neg hqi,if_neg];rintro⟨h1,h2⟩;rcases Nat.lt_or_gt_of_ne hqi with h | h
  ·have:(i+1)*sz≤q*sz:=Nat.mul_le_mul_right _ h;rw[Nat.succ_mul]at this;omega
  ·have:(q+1)*sz≤i*sz:=Nat.mul_le_mul_right _ h;rw[Nat.succ_mul]at this;omega
theorem aAs{T:Nat}(he:∀x,(enc x).length=sz){a:Option Addr}{n c:Nat}{xs:List α}(ho:Own T sz enc w a n c xs){i j:Nat}{x:α}(x':α)(hx:xs[i]? =some x){vs:List Value}(hj:j+vs.length≤sz)
 (hv:∀r,r<sz→(enc x')[r]? =if j≤r∧r<j+vs.length then vs[r-j]? else(enc x)[r]?) {a0:Addr} (ha:a=some a0)
 {K:World→Prop} (hk:∀w',Own T sz enc w' a n c (xs.set i x')→Frm (fun b=>obk a c=some b) w w'→K w'):St w ((a0.add (i*sz)).add j) vs K:=by
 have hi:=(List.getElem?_eq_some_iff.1 hx).1;have hn:=ho.1;obtain⟨g,cur,e,hat,hnc,hcm,hs,htk⟩:=ho.2.resolve_left (by omega);obtain rfl:a0=⟨g,0,none⟩:=Option.some.inj (ha.symm.trans e);have hle:(i+1)*sz≤c*sz:=Nat.mul_le_mul_right _ (by omega);rw[Nat.succ_mul]at hle;have hfit:i*sz+j+vs.length≤cur.size:=by omega
 refine⟨g,i*sz+j,cur,T,by rw[rI,mC,Nat.zero_add],hat,hfit,hk _ ⟨by rw[List.length_set];exact hn,.inr ⟨g,_,e,hat.set,hnc,hcm,by rw[xN];exact hs,?_⟩⟩ (frm_setB.mono ?_)⟩
 ·apply List.ext_getElem?;intro k;rw[aGK he hx hj hv,List.getElem?_take,Array.getElem?_toList,yT _ _ _ _ hfit,←htk,List.getElem?_take,Array.getElem?_toList];by_cases hk:k<n*sz
  ·rw[if_pos hk,if_pos hk];simp
  ·rw[if_neg hk,if_neg hk,if_neg];have:(i+1)*sz≤n*sz:=Nat.mul_le_mul_right _ (by omega);rw[Nat.succ_mul]at this;omega
 ·intro b hb hbg;subst hbg;rw[e];simp[obk,show c≠0 by omega]
theorem nC{b off:Nat}{c:Array Value}{T:TypeId}{vs:List Value}{K:World→Prop}(h:At w b (.cells c T (0,0)))(hl:off+vs.length≤c.size)(hk:∀w',At w' b (.cells (oO c off vs) T (0,0))→Frm (fun k=>k=b) w w'→K w'):St w ⟨b,off,none⟩ vs K:=
 ⟨b,off,c,T,rfl,h,hl,hk _ h.set frm_setB⟩
theorem al{o:Obj}{K:Nat→World→Prop}(hk:∀b w',b=w.heap.size→At w' b o→Ext w w'→K b w'):Al w o K:=hk _ _ rfl At.new (nE o)
theorem dr{K:World→Prop}(hk:∀w',Ext w w'→K w'):Dr w K:=hk _ uD
theorem sb'{b:Nat}{o o':Obj}{K:World→Prop}(h:At w b o)(hk:∀w',At w' b o'→Frm (fun k=>k=b) w w'→K w'):Sb w b o' K:=hk _ h.set frm_setB
theorem bW{S:Nat→Prop}{w0:World}(F:Frm S w0 w){o:Obj}{K:Nat→World→Prop}(hk:∀b w',w0.heap.size≤b→At w' b o→Frm S w0 w'→Ext w w'→w.heap.size≤b→K b w'):Al w o K:=
 hk _ _ F.size At.new (F.ext (nE o)) (nE o) (Nat.le_refl _)
theorem iS{S:Nat→Prop}{w0:World}(F:Frm S w0 w){K:World→Prop}(hk:∀w',Frm S w0 w'→Ext w w'→K w'):Dr w K:=hk _ (F.ext uD) uD
theorem lW{S:Nat→Prop}{w0:World}(F:Frm S w0 w){b:Nat}{o o':Obj}{K:World→Prop}(h:At w b o)(hb:w0.heap.size≤b)(hk:∀w',At w' b o'→Frm S w0 w'→Frm (fun k=>k=b) w w'→K w'):Sb w b o' K:=
 hk _ h.set (F.trans frm_setB fun k hk e=>by subst e;omega) frm_setB
theorem ifb{b:Bool}{A B:Prop}(h:if b=true then A else B):Ifb b A B:=by
 constructor<;>intro e<;>subst e<;>simpa using h
theorem jM{A B:Prop}(h:A):Ifb true A B:=⟨fun _=>h,fun e=>(by cases e)⟩
theorem jJ{A B:Prop}(h:B):Ifb false A B:=⟨fun e=>(by cases e),fun _=>h⟩
theorem dQ{p:Prop} [Decidable p]{A B:Prop}(hp:p)(h:A):Ifb (decide p) A B:=⟨fun _=>h,fun e=>absurd hp (of_decide_eq_false e)⟩
theorem dK{p:Prop} [Decidable p]{A B:Prop}(hp:¬p)(h:B):Ifb (decide p) A B:=⟨fun e=>absurd (of_decide_eq_true e) hp,fun _=>h⟩
theorem bQ{x:Int}(h0: -9223372036854775808≤x)(h1:x≤9223372036854775807):IntKind.wrap .i64 x=x:=by rw[IntKind.wrap_i64];omega
theorem fO{x:Int}{n:Nat}(h0:0≤x)(h1:x<n)(hn:n≤maxLen):IntKind.wrap .i64 (x+1)=x+1:=bQ (by omega) (by simp only[maxLen]at hn;omega)
end
end Go.Wx
namespace Go.Proofs.YtcbijkakoepglaaGreat
open Go Go.Wx
noncomputable section
instance : DecidableEq TLot := fun a b => decidable_of_iff (a.Id = b.Id ∧ a.Thing = b.Thing ∧ a.Layer = b.Layer ∧ a.Day = b.Day ∧ a.Due = b.Due ∧ a.Unit = b.Unit ∧ a.N = b.N ∧ a.Left = b.Left ∧ a.State = b.State ∧ a.Bag = b.Bag) TLot.ext_iff.symm
instance : DecidableEq TPosting := fun a b => decidable_of_iff (a.Day = b.Day ∧ a.Unit = b.Unit ∧ a.N = b.N ∧ a.From_Kind = b.From_Kind ∧ a.From_Id = b.From_Id ∧ a.To_Kind = b.To_Kind ∧ a.To_Id = b.To_Id ∧ a.Why = b.Why ∧ a.Lot = b.Lot) TPosting.ext_iff.symm
theorem ap117:apk Pg 117=some (150,3,48):=by kernel_rfl
theorem ap118:apk Pg 118=some (152,4,40):=by kernel_rfl
theorem ap139:apk Pg 139=some (191,2,24):=by kernel_rfl
theorem ap140:apk Pg 140=some (154,3,32):=by kernel_rfl
theorem ap141:apk Pg 141=some (156,4,40):=by kernel_rfl
theorem ap148:apk Pg 148=some (175,2,16):=by kernel_rfl
theorem aG2:apk Pg 158=some (9,1,16):=by kernel_rfl
theorem ap22:apk Pg 22=some (42,9,80):=by kernel_rfl
theorem ap24:apk Pg 24=some (49,4,40):=by kernel_rfl
theorem aBa:apk Pg 46=some (45,10,88):=by kernel_rfl
theorem aF9:apk Pg 53=some (58,2,24):=by kernel_rfl
theorem aG1:apk Pg 63=some (3,1,8):=by kernel_rfl
theorem ap94:apk Pg 94=some (97,2,16):=by kernel_rfl
structure MUnit where
 name:ByteArray
 kind:Int
 values:List Tdated
structure MState where
 day:Int
 units:List MUnit
 terms:List Tterm
 lots:List TLot
 postings:List TPosting
def rY{α:Type}(p:α→Bool)(xs:List α):Int:=match xs.findIdx? p with
 | some i=>i
 | none=> -1
theorem aBS{α:Type}{p:α→Bool}{xs:List α}{i:Nat}(hi:i<xs.length)(h:p xs[i]=true)(hb:∀j (hj:j<i),p (xs[j]'(by omega))=false):rY p xs=i:=by
 unfold rY;rw[List.findIdx?_eq_some_iff_getElem.2 ⟨hi,h,fun j hj=>by simp[hb j hj]⟩]
theorem yS{α:Type}{p:α→Bool}{xs:List α}(h:∀x∈xs,p x=false):rY p xs= -1:=by
 unfold rY;rw[List.findIdx?_eq_none_iff.2 h]
theorem aBT{α:Type}(p:α→Bool)(xs:List α):(rY p xs= -1∧∀x∈xs,p x=false)∨∃i:Nat,rY p xs=i∧∃h:i<xs.length,p xs[i]=true:=by
 unfold rY;cases h:xs.findIdx? p with
 | none=>exact .inl ⟨rfl,List.findIdx?_eq_none_iff.1 h⟩
 | some i=>
  obtain⟨h1,h2,_⟩:=List.findIdx?_eq_some_iff_getElem.1 h;exact .inr ⟨i,rfl,h1,h2⟩
def UnitsRd(w:World)(a:Option Addr)(n:Nat)(us:List MUnit):Prop:=
 ∃ts:List Tunit,Rd Tunit.enc 3 w a n ts∧ts.length=us.length∧∀(i:Nat) (t:Tunit) (u:MUnit),ts[i]? =some t→us[i]? =some u→t.name=u.name∧t.kind=u.kind∧Rd Tdated.enc 2 w t.values_a t.values_n u.values
structure StRd(w:World)(p:Addr)(st:Tstate)(M:MState):Prop where
 cells:Cells w p st.enc
 day:st.day=M.day
 units:UnitsRd w st.units_a st.units_n M.units
 terms:Rd Tterm.enc 4 w st.terms_a st.terms_n M.terms
 lots:Rd TLot.enc 10 w st.lots_a st.lots_n M.lots
 postings:Rd TPosting.enc 9 w st.postings_a st.postings_n M.postings
theorem UnitsRd.ext{w w':World}{a:Option Addr}{n:Nat}{us:List MUnit}(h:UnitsRd w a n us)(E:Ext w w'):UnitsRd w' a n us:=by
 obtain⟨ts,h1,h2,h3⟩:=h;exact⟨ts,h1.ext E,h2,fun i t u ht hu=>⟨(h3 i t u ht hu).1,(h3 i t u ht hu).2.1,(h3 i t u ht hu).2.2.ext E⟩⟩
theorem StRd.ext{w w':World}{p:Addr}{st:Tstate}{M:MState}(h:StRd w p st M)(E:Ext w w'):StRd w' p st M:=
 ⟨h.cells.ext E,h.day,h.units.ext E,h.terms.ext E,h.lots.ext E,h.postings.ext E⟩
structure Fits(M:MState):Prop where
 units:M.units.length≤1000
 values:∀u∈M.units,u.values.length≤1000000
 terms:M.terms.length≤1000
 lots:M.lots.length≤1000000
 postings:M.postings.length≤1000000
def MState.find(M:MState)(name:ByteArray):Int:=rY (fun u=>dF u.name name) M.units
def nH(day:Int):Int→List Tdated→Int
 | v,[]=>v
 | v,x::xs=>nH day (if x.day≤day then x.grains else v) xs
def MState.value(M:MState)(name:ByteArray)(day:Int):Int:=
 match M.units.find? (fun u=>dF u.name name)with
 | some u=>nH day 0 u.values
 | none=>0
def vI(name:ByteArray)(n day:Int):Tterm→List Tterm→Tterm
 | b,[]=>b
 | b,x::xs=>vI name n day (if(((dF x.unit name)&&(decide (x.day≤day)))&&(decide (x.least≤n)))&&(decide (x.least≥b.least))then x else b) xs
def MState.term(M:MState)(name:ByteArray)(n day:Int):Int:=(vI name n day ⟨0,0,0,ByteArray.mk #[]⟩ M.terms).days
def jI(n:Int):Bool:=decide (1≤n∧n≤1000000)
theorem aCB{α:Type}(p:α→Bool)(xs:List α):(rY p xs= -1∧xs.find? p=none)∨∃i:Nat,rY p xs=i∧∃h:i<xs.length,xs.find? p=some xs[i]:=by
 unfold rY;cases h:xs.findIdx? p with
 | none=>exact .inl ⟨rfl,by rw[List.find?_eq_none];intro x hx;simp[List.findIdx?_eq_none_iff.1 h x hx]⟩
 | some i=>
  obtain⟨h1,h2,h3⟩:=List.findIdx?_eq_some_iff_getElem.1 h;exact .inr ⟨i,rfl,h1,by rw[List.find?_eq_some_iff_getElem];exact⟨h2,i,h1,rfl,fun j hj=>by simpa using h3 j hj⟩⟩
theorem aGI{α β:Type}(p:α→Bool)(q:β→Bool):∀(xs:List α) (ys:List β),xs.length=ys.length→(∀(i:Nat) (x:α) (y:β),xs[i]? =some x→ys[i]? =some y→p x=q y)→rY p xs=rY q ys:=by
 have key:∀(xs:List α) (ys:List β),xs.length=ys.length→(∀(i:Nat) (x:α) (y:β),xs[i]? =some x→ys[i]? =some y→p x=q y)→xs.findIdx? p=ys.findIdx? q:=by
  intro xs;induction xs with
  | nil=>intro ys hl _;cases ys with
   | nil=>rfl
   | cons _ _=>simp at hl
  | cons x xs ih=>
   intro ys hl h;cases ys with
   | nil=>simp at hl
   | cons y ys=>
    rw[List.findIdx?_cons,List.findIdx?_cons,h 0 x y rfl rfl,ih ys (by simpa using hl) fun i a b ha hb=>h (i+1) a b (by simpa using ha) (by simpa using hb)]
 intro xs ys hl h;unfold rY;rw[key xs ys hl h]
def MState.post(M:MState)(p:TPosting):MState:={M with postings:=M.postings++[p]}
def MState.nextId(M:MState):Int:=M.lots.length+1
def MState.enter(M:MState)(x:TLot)(fk fi why:Int):MState:=
 {M with lots:=M.lots++[{x with Id:=M.nextId,State:=1,Bag:=0}],postings:=M.postings++[⟨M.day,x.Unit,x.N,fk,fi,2,x.Thing,why,M.nextId⟩]}
def MState.setLot(M:MState)(i:Nat)(x:TLot):MState:={M with lots:=M.lots.set i x}
def MState.forfeit(M:MState)(id day:Int):MState:=
 match M.lots[(id-1).toNat]? with
 | some x=>(M.post ⟨day,x.Unit,x.Left,2,x.Thing,4,0,3,id⟩).setLot (id-1).toNat {x with State:=3}
 | none=>M
end
end Go.Proofs.YtcbijkakoepglaaGreat
namespace Go.Proofs.YtcbijkakoepglaaGreat
open Go Go.Wx
set_option maxRecDepth 100000
def fA.l1(Q:Int→World→Prop)(s_a:Option Addr)(s_n:Nat)(f:Value):Nat→Int→World→Prop
 | 0,_,_=>False
 | nl1+1,v1,w1=>(
 Ifb (decide (v1<((s_n:Nat):Int)))
 (Ix s_a s_n v1 fun p1=>
 LdT Tunit.enc w1 (Addr.add p1 (v1.toNat*3)) fun x1=>
 Clv Pg f #[vg (Tunit.enc x1)] w1 (fun v w2=>∃r1,v=vb r1∧Ifb r1
 (Q v1 w2)
 ((fA.l1 Q s_a s_n f nl1) (IntKind.wrap .i64 (v1+1)) w2)))
 (Q (-1) w1))
def fA.R(Q:Int→World→Prop)(s_a:Option Addr)(s_n:Nat)(s_c:Nat)(f:Value)(w:World):Prop:=(
 ∃k,fA.l1 Q s_a s_n f k 0 w)
theorem fA.ok{Q:Int→World→Prop}{s_a:Option Addr}{s_n:Nat}{s_c:Nat}{f:Value}{w:World}(h:fA.R Q s_a s_n s_c f w):Cl Pg 141 #[vl s_a s_n s_c,f] w (fun v w'=>∃r0,v=vi r0∧Q r0 w'):=by
 refine aI (args:=[vl s_a s_n s_c,f]) Tryz.func141 ?_
 unfold fA.R at h
 refine aC<|zp 1<|aD<|aL<|aC<|zp 3<|aD<|aR ?_
 obtain⟨nl1,h⟩:=h
 refine bS (fun k e w1=>∃(e0:Env) (v1:Int),e=upds e0 [(0,vl s_a s_n s_c),(1,f),(7,vi (s_n:Nat)),(8,vi v1)]∧fA.l1 Q s_a s_n f k v1 w1) nl1 ?_ ?_ ?_
 rintro _ _ ⟨_,_,_,h⟩
 exact h
 exact⟨_,0,ag,h⟩
 clear h nl1
 rintro nl1 _ w1 ⟨e0,v1,rfl,h⟩
 unfold fA.l1 at h
 refine aC<|zp 1<|aD<|aL<|zc h (fun h=>?_) fun h=>?_
 refine aJ<|aL<|aR<|aC<|zp 2<|aD<|aC<|zp 3<|zi xM h fun p1 h=>?_
 obtain⟨x1,hx1,h⟩:=h
 refine zn tk150 hx1<|zx h ?_
 rintro _ w2 ⟨r1,rfl,h⟩
 refine aD<|zc h (fun h=>?_) fun h=>?_
 exact aC<|zp 2<|aD<|aN<|bD<|aH<|aH<|bD<|aH<|z1 ⟨_,rfl,h⟩
 exact aJ<|aG<|aW<|zp 2<|aD<|⟨_,IntKind.wrap .i64 (v1+1),ag,h⟩
 exact dE<|aU<|aC<|zp 1<|aD<|aN<|z1 ⟨_,rfl,h⟩
def nR.R(Q:Bool→World→Prop)(u:Tunit)(p1_1:Addr)(w:World):Prop:=(
 Al w (.cells #[vs u.name,vu u.kind,vl u.values_a u.values_n u.values_c] 150) fun b1 w1=>
 LdS w1 p1_1 fun x1=>
 Q (dF u.name x1) w1)
theorem nR.ok{Q:Bool→World→Prop}{u:Tunit}{p1_1:Addr}{w:World}(h:nR.R Q u p1_1 w):Cl Pg 142 #[vg (Tunit.enc u),vp p1_1] w (fun v w'=>∃r0,v=vb r0∧Q r0 w'):=by
 refine aI (args:=[vg (Tunit.enc u),vp p1_1]) Tryz.func142 ?_
 unfold nR.R at h
 exact aC<|zq h fun b1 w1 _ _ q1 h=>zp 1<|aD<|aC<|zp 1<|zb tk9 q1<|zd tk9 h fun x1 hx1 h=>zp 2<|aD<|aN<|z1 ⟨_,rfl,h⟩
def oZ.R(Q:Int→World→Prop)(s:Option Addr)(name:ByteArray)(w:World):Prop:=(
 Al w (.cells #[vs name] 9) fun b1 w1=>
 NN s fun p1=>
 dU w1 (Addr.add p1 1) fun x1_a x1_n x1_c=>
 Cl Pg 141 #[vl x1_a x1_n x1_c,.func (.func 142) #[] #[vp ⟨b1,0,none⟩]] w1 (fun v w2=>∃r1,v=vi r1∧Q r1 w2))
theorem oZ.ok{Q:Int→World→Prop}{s:Option Addr}{name:ByteArray}{w:World}(h:oZ.R Q s name w):Cl Pg 80 #[vP s,vs name] w (fun v w'=>∃r0,v=vi r0∧Q r0 w'):=by
 refine aI (args:=[vP s,vs name]) Tryz.func80 ?_
 unfold oZ.R at h
 refine aC<|zq h fun b1 w1 _ _ _ h=>zp 1<|aD<|aC<|zp 1<|zo h fun p1 h=>zp 1<|zr rM h fun x1_a x1_n x1_c hx1 h=>zp 1<|zk h ?_
 rintro _ w2 ⟨r1,rfl,h⟩
 exact zp 1<|aD<|aN<|z1 ⟨_,rfl,h⟩
def fG.l1(Q:Int→World→Prop)(day:Int)(x2_a:Option Addr)(x2_n:Nat):Nat→Int→Int→World→Prop
 | 0,_,_,_=>False
 | nl1+1,v1,v2,w2=>(
 Ifb (decide (v2<((x2_n:Nat):Int)))
 (Ix x2_a x2_n v2 fun p3=>
 LdT Tdated.enc w2 (Addr.add p3 (v2.toNat*2)) fun x3=>
 Al w2 (.cells #[vi 0,vi 0] 175) fun b1 w3=>
 Sb w3 b1 (.cells #[vi x3.day,vi x3.grains] 175 (0,0)) fun w4=>
 Ifb (decide (x3.day≤day))
 ((fG.l1 Q day x2_a x2_n nl1) x3.grains (IntKind.wrap .i64 (v2+1)) w4)
 ((fG.l1 Q day x2_a x2_n nl1) v1 (IntKind.wrap .i64 (v2+1)) w4))
 (Q v1 w2))
def fG.R(Q:Int→World→Prop)(s:Option Addr)(name:ByteArray)(day:Int)(w:World):Prop:=(
 Cl Pg 80 #[vP s,vs name] w (fun v w1=>∃r1,v=vi r1∧Ifb (decide (r1<0))
 (Q 0 w1)
 (NN s fun p1=>
 dU w1 (Addr.add p1 1) fun x1_a x1_n x1_c=>
 Ix x1_a x1_n r1 fun p2=>
 dU w1 (Addr.add (Addr.add p2 (r1.toNat*3)) 2) fun x2_a x2_n x2_c=>
 ∃k,fG.l1 Q day x2_a x2_n k 0 0 w1)))
theorem fG.ok{Q:Int→World→Prop}{s:Option Addr}{name:ByteArray}{day:Int}{w:World}(h:fG.R Q s name day w):Cl Pg 79 #[vP s,vs name,vi day] w (fun v w'=>∃r0,v=vi r0∧Q r0 w'):=by
 refine aI (args:=[vP s,vs name,vi day]) Tryz.func79 ?_
 unfold fG.R at h
 refine aC<|zp 1<|aD<|aC<|zp 2<|zk h ?_
 rintro _ w1 ⟨r1,rfl,h⟩
 refine zp 1<|aD<|aL<|aC<|zp 2<|aD<|zc h (fun h=>?_) fun h=>?_
 exact aC<|zp 1<|aD<|aN<|aH<|z1 ⟨_,rfl,h⟩
 refine aJ<|aC<|zp 1<|aD<|aL<|aC<|zp 1<|zo h fun p1 h=>zp 1<|zr rM h fun x1_a x1_n x1_c hx1 h=>zp 1<|zi xM h fun p2 h=>zp 1<|zr aBo h fun x2_a x2_n x2_c hx2 h=>zp 2<|aD<|aR ?_
 obtain⟨nl1,h⟩:=h
 refine bS (fun k e w2=>∃(e0:Env) (v1:Int) (v2:Int),e=upds e0 [(2,vi day),(8,vi v1),(23,vl x2_a x2_n x2_c),(24,vi (x2_n:Nat)),(25,vi v2)]∧fG.l1 Q day x2_a x2_n k v1 v2 w2) nl1 ?_ ?_ ?_
 rintro _ _ ⟨_,_,_,_,h⟩
 exact h
 exact⟨_,0,0,ag,h⟩
 clear h nl1
 rintro nl1 _ w2 ⟨e0,v1,v2,rfl,h⟩
 unfold fG.l1 at h
 refine aC<|zp 1<|aD<|aL<|zc h (fun h=>?_) fun h=>?_
 refine aJ<|aL<|aR<|aC<|zi slk148 h fun p3 h=>?_
 obtain⟨x3,hx3,h⟩:=h
 refine zn tk175 hx3<|zq h fun b1 w3 _ _ q1 h=>zt tk175 q1 h fun w4 ew q h=>?_
 replace q1:=q
 refine aD<|aC<|zp 1<|zb tk3 q1<|zp 2<|aD<|zc h (fun h=>?_) fun h=>?_
 exact aW<|zp 1<|zb tk3 q1<|zp 1<|aD<|aG<|aW<|zp 2<|aD<|⟨_,x3.grains,IntKind.wrap .i64 (v2+1),ag,h⟩
 exact aJ<|aG<|aW<|zp 2<|aD<|⟨_,v1,IntKind.wrap .i64 (v2+1),ag,h⟩
 exact dE<|aU<|aC<|zp 2<|aD<|aN<|z1 ⟨_,rfl,h⟩
def fT.l1(Q:Int→World→Prop)(name:ByteArray)(n:Int)(day:Int)(b1:Nat)(x1_a:Option Addr)(x1_n:Nat):Nat→Tterm→Int→World→Prop
 | 0,_,_,_=>False
 | nl1+1,y1,v1,w3=>(
 Ifb (decide (v1<((x1_n:Nat):Int)))
 (Ix x1_a x1_n v1 fun p2=>
 LdT Tterm.enc w3 (Addr.add p2 (v1.toNat*4)) fun x2=>
 Al w3 (.cells #[vi 0,vi 0,vi 0,vs (ByteArray.mk #[])] 152) fun b2 w4=>
 Sb w4 b2 (.cells #[vi x2.day,vi x2.least,vi x2.days,vs x2.unit] 152 (0,0)) fun w5=>
 Ifb ((((dF x2.unit name)&&(decide (x2.day≤day)))&&(decide (x2.least≤n)))&&(decide (x2.least≥y1.least)))
 (Sb w5 b1 (.cells #[vi x2.day,vi x2.least,vi x2.days,vs x2.unit] 152 (0,0)) fun w6=>
 (fT.l1 Q name n day b1 x1_a x1_n nl1) x2 (IntKind.wrap .i64 (v1+1)) w6)
 ((fT.l1 Q name n day b1 x1_a x1_n nl1) y1 (IntKind.wrap .i64 (v1+1)) w5))
 (Q y1.days w3))
def fT.R(Q:Int→World→Prop)(s:Option Addr)(name:ByteArray)(n:Int)(day:Int)(w:World):Prop:=(
 Al w (.cells #[vi 0,vi 0,vi 0,vs (ByteArray.mk #[])] 152) fun b1 w1=>
 Sb w1 b1 (.cells #[vi 0,vi 0,vi 0,vs (ByteArray.mk #[])] 152 (0,0)) fun w2=>
 NN s fun p1=>
 dU w2 (Addr.add p1 2) fun x1_a x1_n x1_c=>
 ∃k,fT.l1 Q name n day b1 x1_a x1_n k (⟨0,0,0,(ByteArray.mk #[])⟩:Tterm) 0 w2)
theorem fT.ok{Q:Int→World→Prop}{s:Option Addr}{name:ByteArray}{n:Int}{day:Int}{w:World}(h:fT.R Q s name n day w):Cl Pg 97 #[vP s,vs name,vi n,vi day] w (fun v w'=>∃r0,v=vi r0∧Q r0 w'):=by
 refine aI (args:=[vP s,vs name,vi n,vi day]) Tryz.func97 ?_
 unfold fT.R at h
 refine aC<|zp 1<|aD<|aC<|zp 1<|zq h fun b1 w1 _ _ q1 h=>zt aDA q1 h fun w2 ew q h=>?_
 replace q1:=q
 refine aD<|aL<|aC<|zp 1<|zo h fun p1 h=>zp 1<|zr aAk h fun x1_a x1_n x1_c hx1 h=>zp 2<|aD<|aR ?_
 obtain⟨nl1,h⟩:=h
 refine bS (fun k e w3=>∃(e0:Env) (y1:Tterm) (v1:Int),e=upds e0 [(1,vs name),(2,vi n),(3,vi day),(9,vp ⟨b1,0,none⟩),(16,vl x1_a x1_n x1_c),(17,vi (x1_n:Nat)),(18,vi v1)]∧w3.heap[b1]? =some (.cells #[vi y1.day,vi y1.least,vi y1.days,vs y1.unit] 152 (0,0))∧fT.l1 Q name n day b1 x1_a x1_n k y1 v1 w3) nl1 ?_ ?_ ?_
 rintro _ _ ⟨_,_,_,_,_,h⟩
 exact h
 exact⟨_,(⟨0,0,0,(ByteArray.mk #[])⟩:Tterm),0,ag,q1,h⟩
 clear h nl1 q1
 rintro nl1 _ w3 ⟨e0,y1,v1,rfl,q1,h⟩
 unfold fT.l1 at h
 refine aC<|zp 1<|aD<|aL<|zc h (fun h=>?_) fun h=>?_
 refine aJ<|aL<|aR<|aC<|zi slk118 h fun p2 h=>?_
 obtain⟨x2,hx2,h⟩:=h
 refine zn aDA hx2<|zq h fun b2 w4 eb ew q2 h=>?_
 have o1:=q1
 replace q1:=fQ ew q1
 have n1_2:b1≠b2:=lR o1 eb
 clear o1
 clear eb ew
 refine zt aDA q2 h fun w5 ew q h=>?_
 replace q1:=dC ew n1_2 q1
 replace q2:=q
 refine aD<|aC<|zp 1<|zb tk9 q2<|zp 3<|jV (fun e w_=>∃(e0:Env),e=upds e0 [(1,vs name),(2,vi n),(3,vi day),(9,vp ⟨b1,0,none⟩),(11,vp ⟨b2,0,none⟩),(16,vl x1_a x1_n x1_c),(17,vi (x1_n:Nat)),(18,vi v1),(44,vb ((((dF x2.unit name)&&(decide (x2.day≤day)))&&(decide (x2.least≤n)))&&(decide (x2.least≥y1.least))))]∧w5=w_) ?_ ?_
 clear h
 refine dO 26 (b:=dF x2.unit name) rfl (fun hb0=>?_) (fun hb0=>?_)
 refine zp 1<|zb tk3 q2<|zp 4<|dO 32 (b:=decide (x2.day≤day)) rfl (fun hb1=>?_) (fun hb1=>?_)
 refine zp 1<|zb tk3 q2<|zp 4<|dO 38 (b:=decide (x2.least≤n)) rfl (fun hb2=>?_) (fun hb2=>?_)
 refine zp 1<|zb tk3 q2<|zp 1<|zb tk3 q1<|zp 2 ?_
 rw[hb0,hb1,hb2]
 exact aD ⟨_,ag,rfl⟩
 refine zp 6 ?_
 rw[hb0,hb1,hb2]
 exact aD ⟨_,ag,rfl⟩
 refine zp 12 ?_
 rw[hb0,hb1]
 exact aD ⟨_,ag,rfl⟩
 refine zp 18 ?_
 rw[hb0]
 exact aD ⟨_,ag,rfl⟩
 rintro _ _ ⟨e0,rfl,rfl⟩
 refine zc h (fun h=>?_) fun h=>?_
 refine aW<|zm aDA q2<|zt aDA q1 h fun w6 ew q h=>?_
 replace q1:=q
 exact aD<|aG<|aW<|zp 2<|aD<|⟨_,x2,IntKind.wrap .i64 (v1+1),ag,q1,h⟩
 exact aJ<|aG<|aW<|zp 2<|aD<|⟨_,y1,IntKind.wrap .i64 (v1+1),ag,q1,h⟩
 exact dE<|aU<|aC<|zp 1<|zb tk3 q1<|zp 1<|aD<|aN<|z1 ⟨_,rfl,h⟩
def jN.l1(Q:Int→World→Prop):Nat→Int→Int→World→Prop
 | 0,_,_,_=>False
 | nl1+1,v1,v2,w1=>(
 Ifb (v2 !=0)
 (Dr w1 fun w2=>
 v2≠0∧(jN.l1 Q nl1) v2 (Int.tmod v1 v2) w2)
 (Q v1 w1))
def jN.R(Q:Int→World→Prop)(a:Int)(b:Int)(w:World):Prop:=(
 ∃k,jN.l1 Q k a b w)
theorem jN.ok{Q:Int→World→Prop}{a:Int}{b:Int}{w:World}(h:jN.R Q a b w):Cl Pg 81 #[vi a,vi b] w (fun v w'=>∃r0,v=vi r0∧Q r0 w'):=by
 refine aI (args:=[vi a,vi b]) Tryz.func81 ?_
 unfold jN.R at h
 refine aC<|zp 1<|aD<|aL<|aR ?_
 obtain⟨nl1,h⟩:=h
 refine bS (fun k e w1=>∃(e0:Env) (v1:Int) (v2:Int),e=upds e0 [(0,vi v1),(1,vi v2)]∧jN.l1 Q k v1 v2 w1) nl1 ?_ ?_ ?_
 rintro _ _ ⟨_,_,_,_,h⟩
 exact h
 exact⟨_,a,b,ag,h⟩
 clear h nl1
 rintro nl1 _ w1 ⟨e0,v1,v2,rfl,h⟩
 unfold jN.l1 at h
 refine aL<|aC<|zp 2<|aD<|zc h (fun h=>?_) fun h=>?_
 refine aJ<|aR<|drw iG [[],[],[],[],[],[]] [.p 0,.p 1,.p 2,.p 3,.p 4,.p 5] h fun w2 _ h=>zP 3 ?_
 obtain⟨hz,h⟩:=h
 refine aA1 rfl rfl rfl (aGO rfl rfl rfl hz) ?_
 clear hz
 exact zP 2<|bF<|aG<|⟨_,v2,Int.tmod v1 v2,ag,h⟩
 exact dE<|aU<|aC<|zp 2<|aD<|aN<|z1 ⟨_,rfl,h⟩
def fI.l1(Q:Int→World→Prop)(s_a:Option Addr)(s_n:Nat)(f:Value):Nat→Int→World→Prop
 | 0,_,_=>False
 | nl1+1,v1,w1=>(
 Ifb (decide (v1<((s_n:Nat):Int)))
 (Ix s_a s_n v1 fun p1=>
 LdI .i64 w1 (Addr.add p1 (v1.toNat*1)) fun x1=>
 Clv Pg f #[vi x1] w1 (fun v w2=>∃r1,v=vb r1∧Ifb r1
 (Q v1 w2)
 ((fI.l1 Q s_a s_n f nl1) (IntKind.wrap .i64 (v1+1)) w2)))
 (Q (-1) w1))
def fI.R(Q:Int→World→Prop)(s_a:Option Addr)(s_n:Nat)(s_c:Nat)(f:Value)(w:World):Prop:=(
 ∃k,fI.l1 Q s_a s_n f k 0 w)
theorem fI.ok{Q:Int→World→Prop}{s_a:Option Addr}{s_n:Nat}{s_c:Nat}{f:Value}{w:World}(h:fI.R Q s_a s_n s_c f w):Cl Pg 183 #[vl s_a s_n s_c,f] w (fun v w'=>∃r0,v=vi r0∧Q r0 w'):=by
 refine aI (args:=[vl s_a s_n s_c,f]) Tryz.func183 ?_
 unfold fI.R at h
 refine aC<|zp 1<|aD<|aL<|aC<|zp 3<|aD<|aR ?_
 obtain⟨nl1,h⟩:=h
 refine bS (fun k e w1=>∃(e0:Env) (v1:Int),e=upds e0 [(0,vl s_a s_n s_c),(1,f),(7,vi (s_n:Nat)),(8,vi v1)]∧fI.l1 Q s_a s_n f k v1 w1) nl1 ?_ ?_ ?_
 rintro _ _ ⟨_,_,_,h⟩
 exact h
 exact⟨_,0,ag,h⟩
 clear h nl1
 rintro nl1 _ w1 ⟨e0,v1,rfl,h⟩
 unfold fI.l1 at h
 refine aC<|zp 1<|aD<|aL<|zc h (fun h=>?_) fun h=>?_
 refine aJ<|aL<|aR<|aC<|zp 2<|aD<|aC<|zp 3<|zi xB h fun p1 h=>zd tk3 h fun x1 hx1 h=>zx h ?_
 rintro _ w2 ⟨r1,rfl,h⟩
 refine aD<|zc h (fun h=>?_) fun h=>?_
 exact aC<|zp 2<|aD<|aN<|bD<|aH<|aH<|bD<|aH<|z1 ⟨_,rfl,h⟩
 exact aJ<|aG<|aW<|zp 2<|aD<|⟨_,IntKind.wrap .i64 (v1+1),ag,h⟩
 exact dE<|aU<|aC<|zp 1<|aD<|aN<|z1 ⟨_,rfl,h⟩
def mE.R(Q:Bool→World→Prop)(s_a:Option Addr)(s_n:Nat)(s_c:Nat)(f:Value)(w:World):Prop:=(
 Cl Pg 183 #[vl s_a s_n s_c,f] w (fun v w1=>∃r1,v=vi r1∧Q (decide (r1≥0)) w1))
theorem mE.ok{Q:Bool→World→Prop}{s_a:Option Addr}{s_n:Nat}{s_c:Nat}{f:Value}{w:World}(h:mE.R Q s_a s_n s_c f w):Cl Pg 143 #[vl s_a s_n s_c,f] w (fun v w'=>∃r0,v=vb r0∧Q r0 w'):=by
 refine aI (args:=[vl s_a s_n s_c,f]) Tryz.func143 ?_
 unfold mE.R at h
 refine aC<|zp 1<|aD<|aC<|zp 2<|zk h ?_
 rintro _ w1 ⟨r1,rfl,h⟩
 exact zp 2<|aD<|aN<|z1 ⟨_,rfl,h⟩
def rH.R(Q:Bool→World→Prop)(n:Int)(w:World):Prop:=(
 Q ((decide (n<1))||(decide (n>1000000))) w)
theorem rH.ok{Q:Bool→World→Prop}{n:Int}{w:World}(h:rH.R Q n w):Cl Pg 144 #[vi n] w (fun v w'=>∃r0,v=vb r0∧Q r0 w'):=by
 refine aI (args:=[vi n]) Tryz.func144 ?_
 unfold rH.R at h
 refine aC<|zp 1<|aD<|aC<|zp 3<|jV (fun e w_=>∃(e0:Env),e=upds e0 [(2,vb ((decide (n<1))||(decide (n>1000000))))]∧w=w_) ?_ ?_
 clear h
 refine dO 5 (b:=decide (n<1)) rfl (fun hb0=>?_) (fun hb0=>?_)
 refine zp 4 ?_
 rw[hb0]
 exact aD ⟨_,ag,rfl⟩
 refine zp 4 ?_
 rw[hb0]
 exact aD ⟨_,ag,rfl⟩
 rintro _ _ ⟨e0,rfl,rfl⟩
 exact aN<|z1 ⟨_,rfl,h⟩
def vA.R(Q:Bool→World→Prop)(l_a:Option Addr)(l_n:Nat)(l_c:Nat)(w:World):Prop:=(
 Cl Pg 143 #[vl l_a l_n l_c,.func (.func 144) #[] #[]] w (fun v w1=>∃r1,v=vb r1∧Q (!r1) w1))
theorem vA.ok{Q:Bool→World→Prop}{l_a:Option Addr}{l_n:Nat}{l_c:Nat}{w:World}(h:vA.R Q l_a l_n l_c w):Cl Pg 87 #[vl l_a l_n l_c] w (fun v w'=>∃r0,v=vb r0∧Q r0 w'):=by
 refine aI (args:=[vl l_a l_n l_c]) Tryz.func87 ?_
 unfold vA.R at h
 refine aC<|zp 1<|aD<|aC<|zp 1<|zk h ?_
 rintro _ w1 ⟨r1,rfl,h⟩
 exact zp 2<|aD<|aN<|z1 ⟨_,rfl,h⟩
def fJ.l1(Q:Int→World→Prop)(s_a:Option Addr)(s_n:Nat)(f:Value):Nat→Int→World→Prop
 | 0,_,_=>False
 | nl1+1,v1,w1=>(
 Ifb (decide (v1<((s_n:Nat):Int)))
 (Ix s_a s_n v1 fun p1=>
 LdT TLot.enc w1 (Addr.add p1 (v1.toNat*10)) fun x1=>
 Clv Pg f #[vg (TLot.enc x1)] w1 (fun v w2=>∃r1,v=vb r1∧Ifb r1
 (Q v1 w2)
 ((fJ.l1 Q s_a s_n f nl1) (IntKind.wrap .i64 (v1+1)) w2)))
 (Q (-1) w1))
def fJ.R(Q:Int→World→Prop)(s_a:Option Addr)(s_n:Nat)(s_c:Nat)(f:Value)(w:World):Prop:=(
 ∃k,fJ.l1 Q s_a s_n f k 0 w)
theorem fJ.ok{Q:Int→World→Prop}{s_a:Option Addr}{s_n:Nat}{s_c:Nat}{f:Value}{w:World}(h:fJ.R Q s_a s_n s_c f w):Cl Pg 151 #[vl s_a s_n s_c,f] w (fun v w'=>∃r0,v=vi r0∧Q r0 w'):=by
 refine aI (args:=[vl s_a s_n s_c,f]) Tryz.func151 ?_
 unfold fJ.R at h
 refine aC<|zp 1<|aD<|aL<|aC<|zp 3<|aD<|aR ?_
 obtain⟨nl1,h⟩:=h
 refine bS (fun k e w1=>∃(e0:Env) (v1:Int),e=upds e0 [(0,vl s_a s_n s_c),(1,f),(7,vi (s_n:Nat)),(8,vi v1)]∧fJ.l1 Q s_a s_n f k v1 w1) nl1 ?_ ?_ ?_
 rintro _ _ ⟨_,_,_,h⟩
 exact h
 exact⟨_,0,ag,h⟩
 clear h nl1
 rintro nl1 _ w1 ⟨e0,v1,rfl,h⟩
 unfold fJ.l1 at h
 refine aC<|zp 1<|aD<|aL<|zc h (fun h=>?_) fun h=>?_
 refine aJ<|aL<|aR<|aC<|zp 2<|aD<|aC<|zp 3<|zi dX h fun p1 h=>?_
 obtain⟨x1,hx1,h⟩:=h
 refine zn jU hx1<|zx h ?_
 rintro _ w2 ⟨r1,rfl,h⟩
 refine aD<|zc h (fun h=>?_) fun h=>?_
 exact aC<|zp 2<|aD<|aN<|bD<|aH<|aH<|bD<|aH<|z1 ⟨_,rfl,h⟩
 exact aJ<|aG<|aW<|zp 2<|aD<|⟨_,IntKind.wrap .i64 (v1+1),ag,h⟩
 exact dE<|aU<|aC<|zp 1<|aD<|aN<|z1 ⟨_,rfl,h⟩
def mF.R(Q:Bool→World→Prop)(s_a:Option Addr)(s_n:Nat)(s_c:Nat)(f:Value)(w:World):Prop:=(
 Cl Pg 151 #[vl s_a s_n s_c,f] w (fun v w1=>∃r1,v=vi r1∧Q (decide (r1≥0)) w1))
theorem mF.ok{Q:Bool→World→Prop}{s_a:Option Addr}{s_n:Nat}{s_c:Nat}{f:Value}{w:World}(h:mF.R Q s_a s_n s_c f w):Cl Pg 95 #[vl s_a s_n s_c,f] w (fun v w'=>∃r0,v=vb r0∧Q r0 w'):=by
 refine aI (args:=[vl s_a s_n s_c,f]) Tryz.func95 ?_
 unfold mF.R at h
 refine aC<|zp 1<|aD<|aC<|zp 2<|zk h ?_
 rintro _ w1 ⟨r1,rfl,h⟩
 exact zp 2<|aD<|aN<|z1 ⟨_,rfl,h⟩
def lQ.R(Q:Bool→World→Prop)(x:TLot)(p1_1:Addr)(p2_2:Addr)(w:World):Prop:=(
 Al w (.cells #[vi x.Id,vi x.Thing,vi x.Layer,vi x.Day,vi x.Due,vs x.Unit,vi x.N,vi x.Left,vu x.State,vi x.Bag] 45) fun b1 w1=>
 LdI .i64 w1 p1_1 fun x1=>
 Ifb (x.Thing==x1)
 (LdI .i64 w1 p2_2 fun x2=>
 Q (x.Layer==x2) w1)
 (Q false w1))
theorem lQ.ok{Q:Bool→World→Prop}{x:TLot}{p1_1:Addr}{p2_2:Addr}{w:World}(h:lQ.R Q x p1_1 p2_2 w):Cl Pg 96 #[vg (TLot.enc x),vp p1_1,vp p2_2] w (fun v w'=>∃r0,v=vb r0∧Q r0 w'):=by
 refine aI (args:=[vg (TLot.enc x),vp p1_1,vp p2_2]) Tryz.func96 ?_
 unfold lQ.R at h
 refine aC<|zq h fun b1 w1 _ _ q1 h=>zp 1<|aD<|aC<|zp 1<|zb tk3 q1<|zd tk3 h fun x1 hx1 h=>zp 2<|zs 9 h (fun h=>?_) fun h=>?_
 exact zp 1<|zb tk3 q1<|zd tk3 h fun x2 hx2 h=>zp 3<|aD<|aN<|z1 ⟨_,rfl,h⟩
 exact zp 6<|aD<|aN<|z1 ⟨_,rfl,h⟩
end Go.Proofs.YtcbijkakoepglaaGreat
namespace Go.Proofs.YtcbijkakoepglaaGreat
open Go Go.Wx
def aGf{α:Type}(f:Value)(enc:α→Value)(p:α→Bool)(w0:World):Prop:=
 ∀x w,Ext w0 w→∀K:Bool→World→Prop,(∀w',Ext w w'→K (p x) w')→Clv Pg f #[enc x] w (fun v w'=>∃r,v=vb r∧K r w')
theorem oT{g:FuncId}{c args:Array Value}{w:World}{R:Value→World→Prop}(h:Cl Pg g (args++c) w R)(hc:aB6 Pg g=true:=by kernel_rfl):Clv Pg (.func (.func g) #[] c) args w R:=⟨g,c,rfl,hc,h⟩
theorem unitIx{f:Value}{p:Tunit→Bool}{w:World}{a:Option Addr}{n c:Nat}{xs:List Tunit}{Q:Int→World→Prop}(hr:Rd Tunit.enc 3 w a n xs)(hn:n≤maxLen)(hf:aGf f (fun x=>vg (Tunit.enc x)) p w)
 (hQ:∀w',Ext w w'→Q (rY p xs) w'):Cl Pg 141 #[vl a n c,f] w (fun v w'=>∃r,v=vi r∧Q r w'):=by
 refine fA.ok ⟨n+1,?_⟩;have key:∀m i w',i+m=n→Ext w w'→(∀j (hj:j<i) (h:j<xs.length),p xs[j]=false)→fA.l1 Q a n f (m+1) (i:Nat) w':=by
  intro m;induction m with
  | zero=>
   intro i w' hi E hb;unfold fA.l1;refine dK (by omega) ?_;have:rY p xs= -1:=yS fun x hx=>by
    obtain⟨j,hj,rfl⟩:=List.getElem_of_mem hx;exact hb j (by have:=hr.1;omega) hj
   rw[←this];exact hQ _ E
  | succ m ih=>
   intro i w' hi E hb;unfold fA.l1;refine dQ (by omega) ?_;refine(hr.ext E).ix (by omega) (by omega) fun a0 x ha hx hc=>⟨x,hc,?_⟩;refine hf x w' E _ fun w2 E2=>ifb ?_;simp only[Int.toNat_natCast]at hx;obtain⟨hl,hx⟩:=List.getElem?_eq_some_iff.1 hx;split
   ·rename_i hp;have:rY p xs=i:=aBS hl (by rw[hx];exact hp) fun j hj=>hb j hj (by omega);rw[←this];exact hQ _ (E.ext E2)
   ·rename_i hp;rw[fO (n:=n) (by omega) (by omega) hn];refine ih (i+1) w2 (by omega) (E.ext E2) fun j hj hl'=>?_;by_cases hji:j=i
    ·subst hji;rw[hx];simpa using hp
    ·exact hb j (by omega) hl'
 exact key n 0 w (by omega) (er _) (fun j hj=>by omega)
theorem lotIx{f:Value}{p:TLot→Bool}{w:World}{a:Option Addr}{n c:Nat}{xs:List TLot}{Q:Int→World→Prop}(hr:Rd TLot.enc 10 w a n xs)(hn:n≤maxLen)(hf:aGf f (fun x=>vg (TLot.enc x)) p w)
 (hQ:∀w',Ext w w'→Q (rY p xs) w'):Cl Pg 151 #[vl a n c,f] w (fun v w'=>∃r,v=vi r∧Q r w'):=by
 refine fJ.ok ⟨n+1,?_⟩;have key:∀m i w',i+m=n→Ext w w'→(∀j (hj:j<i) (h:j<xs.length),p xs[j]=false)→fJ.l1 Q a n f (m+1) (i:Nat) w':=by
  intro m;induction m with
  | zero=>
   intro i w' hi E hb;unfold fJ.l1;refine dK (by omega) ?_;have:rY p xs= -1:=yS fun x hx=>by
    obtain⟨j,hj,rfl⟩:=List.getElem_of_mem hx;exact hb j (by have:=hr.1;omega) hj
   rw[←this];exact hQ _ E
  | succ m ih=>
   intro i w' hi E hb;unfold fJ.l1;refine dQ (by omega) ?_;refine(hr.ext E).ix (by omega) (by omega) fun a0 x ha hx hc=>⟨x,hc,?_⟩;refine hf x w' E _ fun w2 E2=>ifb ?_;simp only[Int.toNat_natCast]at hx;obtain⟨hl,hx⟩:=List.getElem?_eq_some_iff.1 hx;split
   ·rename_i hp;have:rY p xs=i:=aBS hl (by rw[hx];exact hp) fun j hj=>hb j hj (by omega);rw[←this];exact hQ _ (E.ext E2)
   ·rename_i hp;rw[fO (n:=n) (by omega) (by omega) hn];refine ih (i+1) w2 (by omega) (E.ext E2) fun j hj hl'=>?_;by_cases hji:j=i
    ·subst hji;rw[hx];simpa using hp
    ·exact hb j (by omega) hl'
 exact key n 0 w (by omega) (er _) (fun j hj=>by omega)
theorem intIx{f:Value}{p:Int→Bool}{w:World}{a:Option Addr}{n c:Nat}{xs:List Int}{Q:Int→World→Prop}(hr:Rd (fun x=>[vi x]) 1 w a n xs)(hn:n≤maxLen)(hf:aGf f vi p w)
 (hQ:∀w',Ext w w'→Q (rY p xs) w'):Cl Pg 183 #[vl a n c,f] w (fun v w'=>∃r,v=vi r∧Q r w'):=by
 refine fI.ok ⟨n+1,?_⟩;have key:∀m i w',i+m=n→Ext w w'→(∀j (hj:j<i) (h:j<xs.length),p xs[j]=false)→fI.l1 Q a n f (m+1) (i:Nat) w':=by
  intro m;induction m with
  | zero=>
   intro i w' hi E hb;unfold fI.l1;refine dK (by omega) ?_;have:rY p xs= -1:=yS fun x hx=>by
    obtain⟨j,hj,rfl⟩:=List.getElem_of_mem hx;exact hb j (by have:=hr.1;omega) hj
   rw[←this];exact hQ _ E
  | succ m ih=>
   intro i w' hi E hb;unfold fI.l1;refine dQ (by omega) ?_;refine(hr.ext E).ix (by omega) (by omega) fun a0 x ha hx hc=>⟨x,by have:=hc.at 0 rfl;rwa[rI,Nat.add_zero]at this,?_⟩;refine hf x w' E _ fun w2 E2=>ifb ?_;simp only[Int.toNat_natCast]at hx;obtain⟨hl,hx⟩:=List.getElem?_eq_some_iff.1 hx;split
   ·rename_i hp;have:rY p xs=i:=aBS hl (by rw[hx];exact hp) fun j hj=>hb j hj (by omega);rw[←this];exact hQ _ (E.ext E2)
   ·rename_i hp;rw[fO (n:=n) (by omega) (by omega) hn];refine ih (i+1) w2 (by omega) (E.ext E2) fun j hj hl'=>?_;by_cases hji:j=i
    ·subst hji;rw[hx];simpa using hp
    ·exact hb j (by omega) hl'
 exact key n 0 w (by omega) (er _) (fun j hj=>by omega)
theorem aCm{α:Type}(p:α→Bool)(xs:List α):decide (rY p xs≥0)=xs.any p:=by
 rcases aBT p xs with⟨h,h2⟩ | ⟨i,h,hi,hp⟩
 ·rw[h];symm;simpa using h2
 ·rw[h];symm;simp only[ge_iff_le,Int.natCast_nonneg,decide_true,List.any_eq_true];exact⟨_,List.getElem_mem hi,hp⟩
theorem intCont{f:Value}{p:Int→Bool}{w:World}{a:Option Addr}{n c:Nat}{xs:List Int}{Q:Bool→World→Prop}(hr:Rd (fun x=>[vi x]) 1 w a n xs)(hn:n≤maxLen)(hf:aGf f vi p w)
 (hQ:∀w',Ext w w'→Q (xs.any p) w'):Cl Pg 143 #[vl a n c,f] w (fun v w'=>∃r,v=vb r∧Q r w'):=
 mE.ok (intIx (Q:=fun r w=>Q (decide (r≥0)) w) hr hn hf fun w' E=>by rw[aCm];exact hQ w' E)
theorem lotCont{f:Value}{p:TLot→Bool}{w:World}{a:Option Addr}{n c:Nat}{xs:List TLot}{Q:Bool→World→Prop}(hr:Rd TLot.enc 10 w a n xs)(hn:n≤maxLen)(hf:aGf f (fun x=>vg (TLot.enc x)) p w)
 (hQ:∀w',Ext w w'→Q (xs.any p) w'):Cl Pg 95 #[vl a n c,f] w (fun v w'=>∃r,v=vb r∧Q r w'):=
 mF.ok (lotIx (Q:=fun r w=>Q (decide (r≥0)) w) hr hn hf fun w' E=>by rw[aCm];exact hQ w' E)
theorem aCn{w:World}{a:Option Addr}{n c:Nat}{xs:List Int}{Q:Bool→World→Prop}(hr:Rd (fun x=>[vi x]) 1 w a n xs)(hn:n≤maxLen)
 (hQ:∀w',Ext w w'→Q (xs.all jI) w'):Cl Pg 87 #[vl a n c] w (fun v w'=>∃r,v=vb r∧Q r w'):=by
 refine vA.ok (intCont (p:=fun n=> !jI n) (Q:=fun r w=>Q (!r) w) hr hn ?_ fun w' E=>?_)
 ·intro x w1 _ K hK;refine oT (rH.ok ?_);have e:((decide (x<(1:Int)))||(decide (x>(1000000:Int))))= !jI x:=by unfold jI;rw[Bool.eq_iff_iff];simp
  unfold rH.R;rw[e];exact hK _ (er _)
 ·rw[show(!xs.any fun n=> !jI n)=xs.all jI by rw[List.all_eq_not_any_not]];exact hQ _ E
theorem vS{w:World}{p:Addr}{st:Tstate}{M:MState}(h:StRd w p st M)(hF:Fits M){name:ByteArray}{Q:Int→World→Prop}(hQ:∀w',Ext w w'→Q (M.find name) w'):
 Cl Pg 80 #[vP (some p),vs name] w (fun v w'=>∃r,v=vi r∧Q r w'):=by
 refine oZ.ok ?_;refine bW (er _) fun b1 w1 hb hat E _ hnw=>⟨p,rfl,_,_,_,(h.ext E).cells.at 1 rfl,?_⟩;obtain⟨ts,h1,h2,h3⟩:=h.units;have hl:st.units_n≤maxLen:=by have:=hF.units;rw[h1.1,h2];simp only[maxLen];omega
 refine unitIx (p:=fun u=>dF u.name name) (h1.ext E) hl ?_ ?_
 ·intro x w2 E2 K hK;refine oT (nR.ok ?_);refine bW (er _) fun b2 w3 hb2 hat2 E3 _ hnw=>⟨name,aV ((hat.ext E2).ext E3) rfl,hK _ E3⟩
 ·intro w' E2;have:rY (fun u:Tunit=>dF u.name name) ts=M.find name:=aGI _ _ _ _ h2 fun i x y hx hy=>by rw[(h3 i x y hx hy).1]
  rw[this];exact hQ _ (E.ext E2)
theorem aCV{w:World}{p:Addr}{st:Tstate}{M:MState}(h:StRd w p st M)(hF:Fits M){name:ByteArray}{day:Int}{Q:Int→World→Prop}(hQ:∀w',Ext w w'→Q (M.value name day) w'):
 Cl Pg 79 #[vP (some p),vs name,vi day] w (fun v w'=>∃r,v=vi r∧Q r w'):=by
 refine fG.ok ?_;refine vS h hF fun w1 E=>?_;rcases aCB (fun u=>dF u.name name) M.units with⟨he,hn⟩ | ⟨i,he,hi,hs⟩
 ·refine dQ (by show M.find name<0;unfold MState.find;rw[he];omega) ?_;have:M.value name day=0:=by unfold MState.value;rw[hn]
  rw[←this];exact hQ _ E
 ·have he':M.find name=i:=he;rw[he'];refine dK (by omega) ?_;obtain⟨ts,h1,h2,h3⟩:=(h.ext E).units;refine⟨p,rfl,_,_,_,(h.ext E).cells.at 1 rfl,h1.ix (by omega) (by have:=h1.1;omega) fun a0 x ha hx hc=>⟨_,_,_,hc.at 2 rfl,?_⟩⟩;simp only[Int.toNat_natCast]at hx;obtain⟨_,_,hv⟩:=h3 i x _ hx (List.getElem?_eq_getElem hi);have hvl:=hF.values _ (List.getElem_mem hi);have hval:M.value name day=nH day 0 M.units[i].values:=by unfold MState.value;rw[hs]
  rw[hval]at hQ;generalize M.units[i].values=vs at hv hvl hQ;have hn:x.values_n≤maxLen:=by rw[hv.1];simp only[maxLen];omega
  refine⟨x.values_n+1,?_⟩;have key:∀m i w' v,i+m=x.values_n→Ext w1 w'→(∀w',Ext w w'→Q (nH day v (vs.drop i)) w')→fG.l1 Q day x.values_a x.values_n (m+1) v (i:Nat) w':=by
   intro m;induction m with
   | zero=>
    intro i w' v hi' E2 hQ;unfold fG.l1;refine dK (by omega) ?_;rw[List.drop_of_length_le (by have:=hv.1;omega)]at hQ;exact hQ _ (E.ext E2)
   | succ m ih=>
    intro i w' v hi' E2 hQ;unfold fG.l1;refine dQ (by omega) ?_;refine(hv.ext E2).ix (by omega) (by omega) fun a0 y ha hy hc=>⟨y,hc,bW E2 fun b w2 hb hat E3 _ hnw=>lW E3 hat hb fun w3 _ E4 _=>ifb ?_⟩;simp only[Int.toNat_natCast]at hy;obtain⟨hl,hy⟩:=List.getElem?_eq_some_iff.1 hy;rw[List.drop_eq_getElem_cons hl,hy]at hQ;rw[fO (n:=x.values_n) (by omega) (by omega) hn];simp only[nH]at hQ;split
    ·rename_i hd;rw[if_pos (of_decide_eq_true hd)]at hQ;exact ih (i+1) w3 _ (by omega) E4 hQ
    ·rename_i hd;rw[if_neg (by simpa using hd)]at hQ;exact ih (i+1) w3 _ (by omega) E4 hQ
  exact key _ 0 w1 0 (by omega) (er _) (by simpa using hQ)
theorem aFg{w:World}{p:Addr}{st:Tstate}{M:MState}(h:StRd w p st M)(hF:Fits M){name:ByteArray}{n day:Int}{Q:Int→World→Prop}(hQ:∀w',Ext w w'→Q (M.term name n day) w'):
 Cl Pg 97 #[vP (some p),vs name,vi n,vi day] w (fun v w'=>∃r,v=vi r∧Q r w'):=by
 refine fT.ok (bW (er _) fun b1 w1 hb hat E _ hnw=>lW E hat hb fun w2 hat E _=>⟨p,rfl,_,_,_,(h.ext E).cells.at 2 rfl,st.terms_n+1,?_⟩);have ht:=h.terms;have hn:st.terms_n≤maxLen:=by rw[ht.1];have:=hF.terms;simp only[maxLen];omega
 have key:∀m i w' y o,i+m=st.terms_n→Ext w w'→At w' b1 o→(∀w',Ext w w'→Q (vI name n day y (M.terms.drop i)).days w')→fT.l1 Q name n day b1 st.terms_a st.terms_n (m+1) y (i:Nat) w':=by
  intro m;induction m with
  | zero=>
   intro i w' y o hi' E2 hat hQ;unfold fT.l1;refine dK (by omega) ?_;rw[List.drop_of_length_le (by have:=ht.1;omega)]at hQ;exact hQ _ E2
  | succ m ih=>
   intro i w' v o hi' E2 hat hQ;unfold fT.l1;refine dQ (by omega) ?_;refine(ht.ext E2).ix (by omega) (by omega) fun a0 y ha hy hc=>⟨y,hc,bW E2 fun b w2 hb2 hat2 E3 E3' hnw=>lW E3 hat2 hb2 fun w3 _ E4 f4=>ifb ?_⟩;simp only[Int.toNat_natCast]at hy;obtain⟨hl,hy⟩:=List.getElem?_eq_some_iff.1 hy;rw[List.drop_eq_getElem_cons hl,hy]at hQ;rw[fO (n:=st.terms_n) (by omega) (by omega) hn];simp only[vI]at hQ;have hat3:At w3 b1 o:=(hat.ext E3').frm f4 (by have:=hat.lt;omega);split
   ·rename_i hd;rw[if_pos hd]at hQ;exact lW E4 hat3 hb fun w4 hat4 E5 _=>ih (i+1) w4 _ _ (by omega) E5 hat4 hQ
   ·rename_i hd;rw[if_neg hd]at hQ;exact ih (i+1) w3 _ _ (by omega) E4 hat3 hQ
 exact key _ 0 w2 _ _ (by omega) E hat hQ
theorem gcd_c:∀(k:Nat) {w:World} {a b:Int} {Q:Int→World→Prop},0≤a→0≤b→b<k→(∀w',Ext w w'→Q (Int.gcd a b) w')→jN.l1 Q (k+1) a b w:=by
 intro k;induction k with
 | zero=>intro w a b Q h0 h1 h2;omega
 | succ k ih=>
  intro w a b Q h0 h1 h2 hQ;unfold jN.l1;refine ifb ?_;split
  ·rename_i hb;have hb:b≠0:=by simpa using hb
   refine iS (er _) fun w1 E _=>⟨hb,ih h1 ?_ ?_ fun w' E'=>?_⟩
   ·exact Int.tmod_nonneg _ h0
   ·have:=Int.tmod_lt_of_pos a (b:=b) (by omega);omega
   ·have:Int.gcd b (a.tmod b)=Int.gcd a b:=by
     obtain⟨m,rfl⟩:=Int.eq_ofNat_of_zero_le h0;obtain⟨n,rfl⟩:=Int.eq_ofNat_of_zero_le h1;rw[←Int.ofNat_tmod];show Nat.gcd n (m % n)=Nat.gcd m n;rw[Nat.gcd_comm,←Nat.gcd_rec,Nat.gcd_comm]
    rw[this];exact hQ _ (E.ext E')
  ·rename_i hb;have hb:b=0:=by simpa using hb
   subst hb;have:(Int.gcd a 0:Int)=a:=by rw[Int.gcd_zero_right];omega
   rw[←this];exact hQ _ (er _)
theorem aF1{w:World}{a b:Int}{Q:Int→World→Prop}(h0:0≤a)(h1:0≤b)(hQ:∀w',Ext w w'→Q (Int.gcd a b) w'):Cl Pg 81 #[vi a,vi b] w (fun v w'=>∃r,v=vi r∧Q r w'):=
 jN.ok ⟨b.toNat+1+1,gcd_c _ h0 h1 (by omega) hQ⟩
end Go.Proofs.YtcbijkakoepglaaGreat
namespace Go.Proofs.YtcbijkakoepglaaGreat
open Go Go.Wx
set_option maxRecDepth 100000
def oY.R(Q:World→Prop)(s:Option Addr)(day:Int)(name:ByteArray)(n:Int)(from_:TAccount)(to_:TAccount)(why:Int)(lot:Int)(w:World):Prop:=(
 Al w (.cells #[vu from_.Kind,vi from_.Id] 40) fun b1 w1=>
 Al w1 (.cells #[vu to_.Kind,vi to_.Id] 40) fun b2 w2=>
 Dr w2 fun w3=>
 NN s fun p1=>
 dU w3 (Addr.add p1 4) fun x1_a x1_n x1_c=>
 Al w3 (.cells #[vi day,vs name,vi n,vu from_.Kind,vi from_.Id,vu to_.Kind,vi to_.Id,vu why,vi lot] 42) fun b3 w4=>
 Ap Pg w4 #[22,22] 22 (vl x1_a x1_n x1_c) (vl (some ⟨b3,0,none⟩) 1 1) fun a1_a a1_n a1_c w5=>
 NN s fun p2=>
 St w5 (Addr.add p2 4) ([vl a1_a a1_n a1_c]) fun w6=>
 Q w6)
theorem oY.ok{Q:World→Prop}{s:Option Addr}{day:Int}{name:ByteArray}{n:Int}{from_:TAccount}{to_:TAccount}{why:Int}{lot:Int}{w:World}(h:oY.R Q s day name n from_ to_ why lot w):Cl Pg 82 #[vP s,vi day,vs name,vi n,vg (TAccount.enc from_),vg (TAccount.enc to_),vu why,vi lot] w (fun v w'=>v= .tuple #[]∧Q w'):=by
 refine aI (args:=[vP s,vi day,vs name,vi n,vg (TAccount.enc from_),vg (TAccount.enc to_),vu why,vi lot]) Tryz.func82 ?_
 unfold oY.R at h
 refine aC<|zq h fun b1 w1 _ _ q1 h=>zq h fun b2 w2 eb ew q2 h=>?_
 have o1:=q1
 replace q1:=fQ ew q1
 have n1_2:b1≠b2:=lR o1 eb
 clear o1
 clear eb ew
 refine aD<|drw iG [[],[],[],[],[],[],[],[],[],[],[],[],[8,9],[8,9],[4,8,9],[4,8,9],[4,8,9],[4,8,9]] [.p 0,.p 1,.p 2,.p 3,.l 4,.p 5,.p 6,.p 7,.l 8,.l 9,.p 10,.p 11,.p 12,.e 13,.e 14,.p 15,.p 16,.e 17] h fun w3 ew h=>?_
 replace q1:=dN ew q1
 replace q2:=dN ew q2
 refine zP 2<|zO h fun p1 h=>zP 1<|zR sT h fun x1_a x1_n x1_c hx1 h=>zP 3<|zM j8 q1<|zM j8 q2<|zP 3<|zV 1 h fun b3 w4 eb ew q3 h=>?_
 replace hx1:=oE ew hx1
 clear eb ew q3
 refine⟨zf sT hx1<|AllOk.nil,?_⟩
 refine zA h ?_
 rintro a1_a a1_n a1_c w5 h
 refine⟨AllOk.nil,?_⟩
 refine zO h fun p2 h=>zP 1<|zU sT h ?_
 rintro w6 h
 refine⟨AllOk.nil,?_⟩
 exact bF<|vG<|uA rfl ⟨rfl,h⟩
def oG.R(Q:Int→World→Prop)(s:Option Addr)(x:TLot)(from_:TAccount)(why:Int)(w:World):Prop:=(
 Al w (.cells #[vi x.Id,vi x.Thing,vi x.Layer,vi x.Day,vi x.Due,vs x.Unit,vi x.N,vi x.Left,vu x.State,vi x.Bag] 45) fun b1 w1=>
 Al w1 (.cells #[vu from_.Kind,vi from_.Id] 40) fun b2 w2=>
 NN s fun p1=>
 dU w2 (Addr.add p1 3) fun x1_a x1_n x1_c=>
 Sb w2 b1 (.cells #[vi (IntKind.wrap .i64 (((x1_n:Nat):Int)+1)),vi x.Thing,vi x.Layer,vi x.Day,vi x.Due,vs x.Unit,vi x.N,vi x.Left,vu x.State,vi x.Bag] 45 (0,0)) fun w3=>
 Sb w3 b1 (.cells #[vi (IntKind.wrap .i64 (((x1_n:Nat):Int)+1)),vi x.Thing,vi x.Layer,vi x.Day,vi x.Due,vs x.Unit,vi x.N,vi x.Left,vu 1,vi x.Bag] 45 (0,0)) fun w4=>
 Sb w4 b1 (.cells #[vi (IntKind.wrap .i64 (((x1_n:Nat):Int)+1)),vi x.Thing,vi x.Layer,vi x.Day,vi x.Due,vs x.Unit,vi x.N,vi x.Left,vu 1,vi 0] 45 (0,0)) fun w5=>
 Dr w5 fun w6=>
 NN s fun p2=>
 dU w6 (Addr.add p2 3) fun x2_a x2_n x2_c=>
 Al w6 (.cells #[vi (IntKind.wrap .i64 (((x1_n:Nat):Int)+1)),vi x.Thing,vi x.Layer,vi x.Day,vi x.Due,vs x.Unit,vi x.N,vi x.Left,vu 1,vi 0] 45) fun b3 w7=>
 Ap Pg w7 #[46,46] 46 (vl x2_a x2_n x2_c) (vl (some ⟨b3,0,none⟩) 1 1) fun a1_a a1_n a1_c w8=>
 Kp b1 w7 w8∧Kp b2 w7 w8∧NN s fun p3=>
 St w8 (Addr.add p3 3) ([vl a1_a a1_n a1_c]) fun w9=>
 Kp b1 w8 w9∧Kp b2 w8 w9∧Dr w9 fun w10=>
 NN s fun p4=>
 LdI .i64 w10 p4 fun x3=>
 Cl Pg 82 #[vP s,vi x3,vs x.Unit,vi x.N,vg [vu from_.Kind,vi from_.Id],vg [vu 2,vi x.Thing],vu why,vi (IntKind.wrap .i64 (((x1_n:Nat):Int)+1))] w10 (fun v w11=>v= .tuple #[]∧Kp b1 w10 w11∧Q (IntKind.wrap .i64 (((x1_n:Nat):Int)+1)) w11))
theorem oG.ok{Q:Int→World→Prop}{s:Option Addr}{x:TLot}{from_:TAccount}{why:Int}{w:World}(h:oG.R Q s x from_ why w):Cl Pg 83 #[vP s,vg (TLot.enc x),vg (TAccount.enc from_),vu why] w (fun v w'=>∃r0,v=vi r0∧Q r0 w'):=by
 refine aI (args:=[vP s,vg (TLot.enc x),vg (TAccount.enc from_),vu why]) Tryz.func83 ?_
 unfold oG.R at h
 refine aC<|zq h fun b1 w1 _ _ q1 h=>zq h fun b2 w2 eb ew q2 h=>?_
 have o1:=q1
 replace q1:=fQ ew q1
 have n1_2:b1≠b2:=lR o1 eb
 clear o1
 clear eb ew
 refine zp 1<|aD<|aC<|zp 1<|zo h fun p1 h=>zp 1<|zr iU h fun x1_a x1_n x1_c hx1 h=>zp 3<|zt tk3 q1 h fun w3 ew q h=>?_
 replace q2:=dC ew n1_2.symm q2
 replace q1:=q
 refine aD<|aC<|zp 1<|zt tk5 q1 h fun w4 ew q h=>?_
 replace q2:=dC ew n1_2.symm q2
 replace q1:=q
 refine aD<|aC<|zp 1<|zt tk3 q1 h fun w5 ew q h=>?_
 replace q2:=dC ew n1_2.symm q2
 replace q1:=q
 refine aD<|drs iG [[],[],[],[],[],[],[5],[4,5],[4,5],[4,5],[4,5]] [.p 0,.p 1,.p 2,.p 3,.l 4,.l 5,.e 6,.e 7,.p 8,.p 9,.e 10] h fun w6 ew h=>?_
 replace q1:=dN ew q1
 replace q2:=dN ew q2
 refine zP 2<|zO h fun p2 h=>zP 1<|zR iU h fun x2_a x2_n x2_c hx2 h=>zM jU q1<|zV 1 h fun b3 w7 eb ew q3 h=>?_
 replace q1:=fQ ew q1
 replace q2:=fQ ew q2
 replace hx2:=oE ew hx2
 clear eb ew q3
 refine⟨zf iU hx2<|AllOk.nil,?_⟩
 refine zA h ?_
 rintro a1_a a1_n a1_c w8 ⟨hk0,hk1,h⟩
 replace q1:=bG hk0 q1
 replace q2:=bG hk1 q2
 refine⟨AllOk.nil,?_⟩
 refine zO h fun p3 h=>zP 1<|zU iU h ?_
 rintro w9 ⟨hk0,hk1,h⟩
 replace q1:=bG hk0 q1
 replace q2:=bG hk1 q2
 refine⟨AllOk.nil,?_⟩
 refine bF<|drs iG [[],[],[],[],[],[],[],[],[],[],[],[],[11],[],[],[],[4,6,8,9,11,15]] [.p 0,.p 1,.p 2,.p 3,.l 4,.p 5,.l 6,.p 7,.l 8,.l 9,.p 10,.l 11,.p 12,.p 13,.p 14,.l 15,.e 16] h fun w10 ew h=>?_
 replace q1:=dN ew q1
 replace q2:=dN ew q2
 refine zP 2<|zO h fun p4 h=>zP 1<|zD tk3 h fun x3 hx3 h=>zP 1<|zB tk9 q1<|zP 1<|zB tk3 q1<|zM j8 q2<|zP 1<|zB tk3 q1<|zP 3<|zB tk3 q1<|zK h ?_
 rintro _ w11 ⟨rfl,hk0,h⟩
 replace q1:=bG hk0 q1
 refine⟨AllOk.nil,?_⟩
 exact bF<|aC<|zp 1<|zb tk3 q1<|zp 1<|aD<|aN<|z1 ⟨_,rfl,h⟩
def m8.R(Q:World→Prop)(s:Option Addr)(id:Int)(day:Int)(w:World):Prop:=(
 NN s fun p1=>
 dU w (Addr.add p1 3) fun x1_a x1_n x1_c=>
 Ix x1_a x1_n (IntKind.wrap .i64 (id-1)) fun p2=>
 Dr w fun w1=>
 LdS w1 (Addr.add (Addr.add p2 ((IntKind.wrap .i64 (id-1)).toNat*10)) 5) fun x2=>
 LdI .i64 w1 (Addr.add (Addr.add p2 ((IntKind.wrap .i64 (id-1)).toNat*10)) 7) fun x3=>
 LdI .i64 w1 (Addr.add (Addr.add p2 ((IntKind.wrap .i64 (id-1)).toNat*10)) 1) fun x4=>
 Cl Pg 82 #[vP s,vi day,vs x2,vi x3,vg [vu 2,vi x4],vg [vu 4,vi 0],vu 3,vi id] w1 (fun v w2=>v= .tuple #[]∧St w2 (Addr.add (Addr.add p2 ((IntKind.wrap .i64 (id-1)).toNat*10)) 8) ([vu 3]) fun w3=>
 Q w3))
theorem m8.ok{Q:World→Prop}{s:Option Addr}{id:Int}{day:Int}{w:World}(h:m8.R Q s id day w):Cl Pg 150 #[vP s,vi id,vi day] w (fun v w'=>v= .tuple #[]∧Q w'):=by
 refine aI (args:=[vP s,vi id,vi day]) Tryz.func150 ?_
 unfold m8.R at h
 refine aC<|zp 1<|zo h fun p1 h=>zp 1<|zr iU h fun x1_a x1_n x1_c hx1 h=>zp 2<|zi dX h fun p2 h=>zp 1<|aD<|drs iG [[],[],[],[],[],[],[],[],[],[],[],[],[],[],[13],[],[],[5,9,13]] [.p 0,.p 1,.p 2,.p 3,.p 4,.l 5,.p 6,.p 7,.p 8,.l 9,.p 10,.p 11,.p 12,.l 13,.p 14,.p 15,.p 16,.e 17] h fun w1 _ h=>zP 5<|zD tk9 h fun x2 hx2 h=>zP 3<|zD tk3 h fun x3 hx3 h=>zP 3<|zD tk3 h fun x4 hx4 h=>zP 3<|zK h ?_
 rintro _ w2 ⟨rfl,h⟩
 refine⟨AllOk.nil,?_⟩
 refine bF<|aW<|zp 3<|zu tk5 h ?_
 rintro w3 h
 exact aD<|vG<|uA rfl ⟨rfl,h⟩
end Go.Proofs.YtcbijkakoepglaaGreat
namespace Go.Proofs.YtcbijkakoepglaaGreat
open Go Go.Wx
structure Step(R:Nat→Prop)(w:World)(R':Nat→Prop)(w':World):Prop where
 frm:Frm R w w'
 sub:∀k,R' k→R k∨w.heap.size≤k
theorem Step.refl(R:Nat→Prop)(w:World):Step R w R w:=⟨Frm.refl _ _,fun _=> .inl⟩
theorem Step.of{R:Nat→Prop}{w w':World}(F:Frm R w w'):Step R w R w':=⟨F,fun _=> .inl⟩
theorem Step.trans{R R1 R2:Nat→Prop}{w w1 w2:World}(h:Step R w R1 w1)(h':Step R1 w1 R2 w2):Step R w R2 w2:=
 ⟨h.frm.trans h'.frm fun b hb hR=>(h.sub b hR).resolve_right (by omega),fun k hk=>(h'.sub k hk).elim (h.sub k) fun hk=> .inr (Nat.le_trans h.frm.size hk)⟩
theorem Step.out{R R':Nat→Prop}{w w':World}(h:Step R w R' w'){k:Nat}(hk:k<w.heap.size)(hn:¬R k):¬R' k:=fun h'=>(h.sub k h').elim hn (by omega)
theorem Step.ext{R R':Nat→Prop}{w w1 w2:World}(h:Step R w R' w1)(E:Ext w1 w2):Step R w R' w2:=⟨h.frm.ext E,h.sub⟩
theorem Ext.step{R:Nat→Prop}{w w':World}(E:Ext w w'):Step R w R w':=⟨E.frm,fun _=> .inl⟩
theorem iQ(x:TLot):x.enc.length=10:=rfl
theorem m0(x:TPosting):x.enc.length=9:=rfl
theorem aA9(x:Tterm):x.enc.length=4:=rfl
theorem rV(x:Tunit):x.enc.length=3:=rfl
theorem aB3(x:Tdated):x.enc.length=2:=rfl
theorem lS(x:TAmount):x.enc.length=2:=rfl
theorem qH(x:TTrialLine):x.enc.length=4:=rfl
theorem iN{l:List Value}(h:l.all Value.oneCell'=true):∀u∈l,u.oneCell'=true:=List.all_eq_true.1 h
def UnitsOwn(w:World)(R:Nat→Prop)(a:Option Addr)(n c:Nat)(us:List MUnit):Prop:=
 ∃ts:List Tunit,Own 150 3 Tunit.enc w a n c ts∧ts.length=us.length∧
  (∀(i:Nat) (t:Tunit) (u:MUnit),ts[i]? =some t→us[i]? =some u→t.name=u.name∧t.kind=u.kind∧Own 175 2 Tdated.enc w t.values_a t.values_n t.values_c u.values∧∀k,obk t.values_a t.values_c=some k→R k)∧
  (∀(i j:Nat) (t t':Tunit) (k:Nat),ts[i]? =some t→ts[j]? =some t'→obk t.values_a t.values_c=some k→obk t'.values_a t'.values_c=some k→i=j)
structure StIn(w:World)(R:Nat→Prop)(b:Nat)(st:Tstate)(M:MState):Prop where
 blk:At w b (.cells st.enc.toArray 120 (0,0))
 day:st.day=M.day
 units:UnitsOwn w R st.units_a st.units_n st.units_c M.units
 terms:Own 152 4 Tterm.enc w st.terms_a st.terms_n st.terms_c M.terms
 lots:Own 45 10 TLot.enc w st.lots_a st.lots_n st.lots_c M.lots
 postings:Own 42 9 TPosting.enc w st.postings_a st.postings_n st.postings_c M.postings
 rB:R b
 rUnits:∀k,obk st.units_a st.units_c=some k→R k
 rTerms:∀k,obk st.terms_a st.terms_c=some k→R k
 rLots:∀k,obk st.lots_a st.lots_c=some k→R k
 rPostings:∀k,obk st.postings_a st.postings_c=some k→R k
 rLt:∀k,R k→k<w.heap.size
theorem UnitsOwn.frm{w w':World}{R R' S:Nat→Prop}{a:Option Addr}{n c:Nat}{us:List MUnit}(h:UnitsOwn w R a n c us)(F:Frm S w w')(hR:∀k,R k→R' k)(hS:∀k cur,At w k (.cells cur 150 (0,0))→¬S k)(hS':∀k cur,At w k (.cells cur 175 (0,0))→¬S k):UnitsOwn w' R' a n c us:=by
 obtain⟨ts,h1,h2,h3,h4⟩:=h;refine⟨ts,h1.frm F fun k hk=>?_,h2,fun i t u ht hu=>?_,h4⟩
 ·obtain⟨cur,hc⟩:=h1.at k hk;exact hS k cur hc
 ·obtain⟨e1,e2,h5,h6⟩:=h3 i t u ht hu;exact⟨e1,e2,h5.frm F fun k hk=>(by obtain⟨cur,hc⟩:=h5.at k hk;exact hS' k cur hc),fun k hk=>hR k (h6 k hk)⟩
theorem UnitsOwn.ext{w w':World}{R:Nat→Prop}{a:Option Addr}{n c:Nat}{us:List MUnit}(h:UnitsOwn w R a n c us)(E:Ext w w'):UnitsOwn w' R a n c us:=h.frm E (fun _=>id) (fun _ _ _=>id) fun _ _ _=>id
theorem UnitsOwn.rd{w:World}{R:Nat→Prop}{a:Option Addr}{n c:Nat}{us:List MUnit}(h:UnitsOwn w R a n c us):UnitsRd w a n us:=by
 obtain⟨ts,h1,h2,h3,_⟩:=h;exact⟨ts,h1.rd rV,h2,fun i t u ht hu=>⟨(h3 i t u ht hu).1,(h3 i t u ht hu).2.1,(h3 i t u ht hu).2.2.1.rd aB3⟩⟩
theorem StIn.rd{w:World}{R:Nat→Prop}{b:Nat}{st:Tstate}{M:MState}(h:StIn w R b st M):StRd w ⟨b,0,none⟩ st M:=
 ⟨Cells.of_at h.blk rfl,h.day,h.units.rd,h.terms.rd aA9,h.lots.rd iQ,h.postings.rd m0⟩
theorem StIn.ext{w w':World}{R:Nat→Prop}{b:Nat}{st:Tstate}{M:MState}(h:StIn w R b st M)(E:Ext w w'):StIn w' R b st M:=
 ⟨h.blk.ext E,h.day,h.units.ext E,h.terms.ext E,h.lots.ext E,h.postings.ext E,h.rB,h.rUnits,h.rTerms,h.rLots,h.rPostings,fun k hk=>Nat.lt_of_lt_of_le (h.rLt k hk) E.size⟩
theorem StIn.frm{w w':World}{R S:Nat→Prop}{b:Nat}{st:Tstate}{M:MState}(h:StIn w R b st M)(F:Frm S w w')(hS:∀k,R k→¬S k):StIn w' R b st M:=by
 refine⟨h.blk.frm F (hS _ h.rB),h.day,?_,h.terms.frm F fun k hk=>hS k (h.rTerms k hk),h.lots.frm F fun k hk=>hS k (h.rLots k hk),h.postings.frm F fun k hk=>hS k (h.rPostings k hk),h.rB,h.rUnits,h.rTerms,h.rLots,h.rPostings,fun k hk=>Nat.lt_of_lt_of_le (h.rLt k hk) F.size⟩;obtain⟨ts,h1,h2,h3,h4⟩:=h.units;refine⟨ts,h1.frm F fun k hk=>hS k (h.rUnits k hk),h2,fun i t u ht hu=>?_,h4⟩;obtain⟨e1,e2,h5,h6⟩:=h3 i t u ht hu;exact⟨e1,e2,h5.frm F fun k hk=>hS k (h6 k hk),h6⟩
theorem Rd.one{α:Type}{enc:α→List Value}{sz:Nat}{w:World}{b:Nat}{T:TypeId}{fr:Nat × Nat}(x:α)(h:At w b (.cells (enc x).toArray T fr)):Rd enc sz w (some ⟨b,0,none⟩) 1 [x]:=by
 refine⟨rfl,fun h=>(by cases h),fun a0 ha i y hy=>?_⟩;cases ha;cases i with
 | zero=>
  simp at hy;subst hy;rw[Nat.zero_mul,mC];exact Cells.of_at h (by simp)
 | succ i=>simp at hy
theorem _root_.Go.Wx.Own.notP{α:Type}{enc:α→List Value}{sz:Nat}{w:World}{a:Option Addr}{n c T:Nat}{xs:List α}(h:Own T sz enc w a n c xs){k:Nat}{cur:Array Value}{T':TypeId}(hk:At w k (.cells cur T' (0,0)))(hT:T'≠T):¬obk a c=some k:=
 h.neT hk fun e=>hT (Option.some.inj e)
theorem StIn.putPostings{w:World}{R:Nat→Prop}{b:Nat}{st:Tstate}{M:MState}(h:StIn w R b st M){a2:Option Addr}{n2 c2:Nat}{w5 w6:World}{xs:List TPosting}
 (ho:Own 42 9 TPosting.enc w5 a2 n2 c2 xs) (F5:Frm (fun k=>obk st.postings_a st.postings_c=some k) w w5) (hb5:∀k,obk a2 c2=some k→obk st.postings_a st.postings_c=some k∨w.heap.size≤k)
 (hat6:At w6 b (.cells ({st with postings_a:=a2,postings_n:=n2,postings_c:=c2}:Tstate).enc.toArray 120 (0,0))) (F6:Frm (fun k=>k=b) w5 w6):
 StIn w6 (fun k=>R k∨obk a2 c2=some k) b {st with postings_a:=a2,postings_n:=n2,postings_c:=c2} {M with postings:=xs}∧Step R w (fun k=>R k∨obk a2 c2=some k) w6:=by
 have hn:Own 42 9 TPosting.enc w6 a2 n2 c2 xs:=ho.frm F6 fun k hk e=>by
  subst e;rcases hb5 _ hk with hk | hk
  ·exact h.postings.notP h.blk (by decide) hk
  ·have:=h.blk.lt;omega
 refine⟨⟨hat6,h.day,(h.units.frm F5 (R':=R) (fun _=>id) (fun k cur hk=>h.postings.notP hk (by decide)) fun k cur hk=>h.postings.notP hk (by decide)).frm F6 (fun _=> .inl) (fun k cur hk e=>?_) (fun k cur hk e=>?_),(h.terms.frm F5 fun k hk=>(by obtain⟨cur,hc⟩:=h.terms.at k hk;exact h.postings.notP hc (by decide))).frm F6 fun k hk e=>(by obtain⟨cur,hc⟩:=h.terms.at k hk;exact h.blk.neT hc (fun e=>by simp[tyO]at e) e.symm),(h.lots.frm F5 fun k hk=>(by obtain⟨cur,hc⟩:=h.lots.at k hk;exact h.postings.notP hc (by decide))).frm F6 fun k hk e=>(by obtain⟨cur,hc⟩:=h.lots.at k hk;exact h.blk.neT hc (fun e=>by simp[tyO]at e) e.symm),hn,.inl h.rB,fun k hk=> .inl (h.rUnits k hk),fun k hk=> .inl (h.rTerms k hk),fun k hk=> .inl (h.rLots k hk),fun k hk=> .inr hk,?_⟩,?_,?_⟩
 ·subst e;exact absurd (Option.some.inj (hk.symm.trans (h.blk.frm F5 (h.postings.notP h.blk (by decide))))) (fun e=>by simp at e)
 ·subst e;exact absurd (Option.some.inj (hk.symm.trans (h.blk.frm F5 (h.postings.notP h.blk (by decide))))) (fun e=>by simp at e)
 ·have h1:=F5.size;have h2:=F6.size;rintro k (hk | hk)
  ·have:=h.rLt k hk;omega
  ·obtain⟨cur,hc⟩:=hn.at k hk;exact hc.lt
 ·exact(F5.mono fun k _ hk=>h.rPostings k hk).trans F6 fun k _ e=>by subst e;exact h.rB
 ·rintro k (hk | hk)
  ·exact .inl hk
  ·exact(hb5 k hk).imp (h.rPostings k) id
theorem StIn.putLots{w:World}{R:Nat→Prop}{b:Nat}{st:Tstate}{M:MState}(h:StIn w R b st M){a2:Option Addr}{n2 c2:Nat}{w5 w6:World}{xs:List TLot}
 (ho:Own 45 10 TLot.enc w5 a2 n2 c2 xs) (F5:Frm (fun k=>obk st.lots_a st.lots_c=some k) w w5) (hb5:∀k,obk a2 c2=some k→obk st.lots_a st.lots_c=some k∨w.heap.size≤k)
 (hat6:At w6 b (.cells ({st with lots_a:=a2,lots_n:=n2,lots_c:=c2}:Tstate).enc.toArray 120 (0,0))) (F6:Frm (fun k=>k=b) w5 w6):
 StIn w6 (fun k=>R k∨obk a2 c2=some k) b {st with lots_a:=a2,lots_n:=n2,lots_c:=c2} {M with lots:=xs}∧Step R w (fun k=>R k∨obk a2 c2=some k) w6:=by
 have hn:Own 45 10 TLot.enc w6 a2 n2 c2 xs:=ho.frm F6 fun k hk e=>by
  subst e;rcases hb5 _ hk with hk | hk
  ·exact h.lots.notP h.blk (by decide) hk
  ·have:=h.blk.lt;omega
 refine⟨⟨hat6,h.day,(h.units.frm F5 (R':=R) (fun _=>id) (fun k cur hk=>h.lots.notP hk (by decide)) fun k cur hk=>h.lots.notP hk (by decide)).frm F6 (fun _=> .inl) (fun k cur hk e=>?_) (fun k cur hk e=>?_),(h.terms.frm F5 fun k hk=>(by obtain⟨cur,hc⟩:=h.terms.at k hk;exact h.lots.notP hc (by decide))).frm F6 fun k hk e=>(by obtain⟨cur,hc⟩:=h.terms.at k hk;exact h.blk.neT hc (fun e=>by simp[tyO]at e) e.symm),hn,(h.postings.frm F5 fun k hk=>(by obtain⟨cur,hc⟩:=h.postings.at k hk;exact h.lots.notP hc (by decide))).frm F6 fun k hk e=>(by obtain⟨cur,hc⟩:=h.postings.at k hk;exact h.blk.neT hc (fun e=>by simp[tyO]at e) e.symm),.inl h.rB,fun k hk=> .inl (h.rUnits k hk),fun k hk=> .inl (h.rTerms k hk),fun k hk=> .inr hk,fun k hk=> .inl (h.rPostings k hk),?_⟩,?_,?_⟩
 ·subst e;exact absurd (Option.some.inj (hk.symm.trans (h.blk.frm F5 (h.lots.notP h.blk (by decide))))) (fun e=>by simp at e)
 ·subst e;exact absurd (Option.some.inj (hk.symm.trans (h.blk.frm F5 (h.lots.notP h.blk (by decide))))) (fun e=>by simp at e)
 ·have h1:=F5.size;have h2:=F6.size;rintro k (hk | hk)
  ·have:=h.rLt k hk;omega
  ·obtain⟨cur,hc⟩:=hn.at k hk;exact hc.lt
 ·exact(F5.mono fun k _ hk=>h.rLots k hk).trans F6 fun k _ e=>by subst e;exact h.rB
 ·rintro k (hk | hk)
  ·exact .inl hk
  ·exact(hb5 k hk).imp (h.rLots k) id
theorem StIn.putTerms{w:World}{R:Nat→Prop}{b:Nat}{st:Tstate}{M:MState}(h:StIn w R b st M){a2:Option Addr}{n2 c2:Nat}{w5 w6:World}{xs:List Tterm}
 (ho:Own 152 4 Tterm.enc w5 a2 n2 c2 xs) (F5:Frm (fun k=>obk st.terms_a st.terms_c=some k) w w5) (hb5:∀k,obk a2 c2=some k→obk st.terms_a st.terms_c=some k∨w.heap.size≤k)
 (hat6:At w6 b (.cells ({st with terms_a:=a2,terms_n:=n2,terms_c:=c2}:Tstate).enc.toArray 120 (0,0))) (F6:Frm (fun k=>k=b) w5 w6):
 StIn w6 (fun k=>R k∨obk a2 c2=some k) b {st with terms_a:=a2,terms_n:=n2,terms_c:=c2} {M with terms:=xs}∧Step R w (fun k=>R k∨obk a2 c2=some k) w6:=by
 have hn:Own 152 4 Tterm.enc w6 a2 n2 c2 xs:=ho.frm F6 fun k hk e=>by
  subst e;rcases hb5 _ hk with hk | hk
  ·exact h.terms.notP h.blk (by decide) hk
  ·have:=h.blk.lt;omega
 refine⟨⟨hat6,h.day,(h.units.frm F5 (R':=R) (fun _=>id) (fun k cur hk=>h.terms.notP hk (by decide)) fun k cur hk=>h.terms.notP hk (by decide)).frm F6 (fun _=> .inl) (fun k cur hk e=>?_) (fun k cur hk e=>?_),hn,(h.lots.frm F5 fun k hk=>(by obtain⟨cur,hc⟩:=h.lots.at k hk;exact h.terms.notP hc (by decide))).frm F6 fun k hk e=>(by obtain⟨cur,hc⟩:=h.lots.at k hk;exact h.blk.neT hc (fun e=>by simp[tyO]at e) e.symm),(h.postings.frm F5 fun k hk=>(by obtain⟨cur,hc⟩:=h.postings.at k hk;exact h.terms.notP hc (by decide))).frm F6 fun k hk e=>(by obtain⟨cur,hc⟩:=h.postings.at k hk;exact h.blk.neT hc (fun e=>by simp[tyO]at e) e.symm),.inl h.rB,fun k hk=> .inl (h.rUnits k hk),fun k hk=> .inr hk,fun k hk=> .inl (h.rLots k hk),fun k hk=> .inl (h.rPostings k hk),?_⟩,?_,?_⟩
 ·subst e;exact absurd (Option.some.inj (hk.symm.trans (h.blk.frm F5 (h.terms.notP h.blk (by decide))))) (fun e=>by simp at e)
 ·subst e;exact absurd (Option.some.inj (hk.symm.trans (h.blk.frm F5 (h.terms.notP h.blk (by decide))))) (fun e=>by simp at e)
 ·have h1:=F5.size;have h2:=F6.size;rintro k (hk | hk)
  ·have:=h.rLt k hk;omega
  ·obtain⟨cur,hc⟩:=hn.at k hk;exact hc.lt
 ·exact(F5.mono fun k _ hk=>h.rTerms k hk).trans F6 fun k _ e=>by subst e;exact h.rB
 ·rintro k (hk | hk)
  ·exact .inl hk
  ·exact(hb5 k hk).imp (h.rTerms k) id
theorem tQ{w:World}{R:Nat→Prop}{b:Nat}{st:Tstate}{M:MState}(h:StIn w R b st M)(hl:M.postings.length≤1000000){day:Int}{name:ByteArray}{n:Int}{fk fi tk ti:Int}{why lot:Int}{Q:World→Prop}
 (hQ:∀w' R' st',StIn w' R' b st' (M.post ⟨day,name,n,fk,fi,tk,ti,why,lot⟩)→st'.lots_a=st.lots_a∧st'.lots_n=st.lots_n∧st'.lots_c=st.lots_c→Step R w R' w'→Q w'):
 Cl Pg 82 #[vp ⟨b,0,none⟩,vi day,vs name,vi n,vg [vu fk,vi fi],vg [vu tk,vi ti],vu why,vi lot] w (fun v w'=>v= .tuple #[]∧Q w'):=by
 refine oY.ok (from_:=⟨fk,fi⟩) (to_:=⟨tk,ti⟩) ?_;refine bW (er w) fun b1 w1 _ _ E _ _=>bW E fun b2 w2 _ _ E _ _=>iS E fun w3 E _=>⟨_,rfl,_,_,_,(h.ext E).rd.cells.at 4 rfl,bW E fun b3 w4 hb3 hat E E4 hn4=>?_⟩;have h4:=h.ext E;have hx:=Rd.one (enc:=TPosting.enc) (sz:=9) ⟨day,name,n,fk,fi,tk,ti,why,lot⟩ hat;refine jT ap22 m0 (fun x=>iN rfl) h4.postings hx ?_ ?_ fun a2 c2 w5 ho F5 hb5=>⟨_,rfl,?_⟩
 ·have:=h4.postings.1;omega
 ·have:=h4.postings.1;simp only[maxLen];omega
 refine nC (h4.blk.frm F5 (h4.postings.notP h4.blk (by decide))) (by simp[Tstate.enc]) fun w6 hat6 F6=>?_;obtain⟨h6,s6⟩:=h4.putPostings ho F5 hb5 hat6 F6;rw[←h4.postings.1]at*;exact hQ _ _ _ h6 ⟨rfl,rfl,rfl⟩ ((Ext.step E).trans s6)
theorem StIn.lotAt{w w':World}{R:Nat→Prop}{b:Nat}{st:Tstate}{M:MState}(h:StIn w R b st M){xs:List TLot}(ho:Own 45 10 TLot.enc w' st.lots_a st.lots_n st.lots_c xs)(F:Frm (fun k=>obk st.lots_a st.lots_c=some k) w w'):
 StIn w' R b st {M with lots:=xs}∧Step R w R w':=by
 refine⟨⟨h.blk.frm F (h.lots.notP h.blk (by decide)),h.day,h.units.frm F (fun _=>id) (fun k cur hk=>h.lots.notP hk (by decide)) fun k cur hk=>h.lots.notP hk (by decide),h.terms.frm F fun k hk=>?_,ho,h.postings.frm F fun k hk=>?_,h.rB,h.rUnits,h.rTerms,h.rLots,h.rPostings,fun k hk=>Nat.lt_of_lt_of_le (h.rLt k hk) F.size⟩,Step.of (F.mono fun k _ hk=>h.rLots k hk)⟩
 ·obtain⟨cur,hc⟩:=h.terms.at k hk;exact h.lots.notP hc (by decide)
 ·obtain⟨cur,hc⟩:=h.postings.at k hk;exact h.lots.notP hc (by decide)
theorem qL{w:World}{R:Nat→Prop}{b:Nat}{st:Tstate}{M:MState}(h:StIn w R b st M){i j:Nat}{x:TLot}(x':TLot)(hx:M.lots[i]? =some x){vs:List Value}(hj:j+vs.length≤10)
 (hv:∀r,r<10→(TLot.enc x')[r]? =if j≤r∧r<j+vs.length then vs[r-j]? else(TLot.enc x)[r]?) {a0:Addr} (ha:st.lots_a=some a0) {K:World→Prop}
 (hk:∀w',StIn w' R b st (M.setLot i x')→Step R w R w'→K w'):St w ((a0.add (i*10)).add j) vs K:=
 aAs iQ h.lots x' hx hj hv ha fun w' ho F=>hk w' (h.lotAt ho F).1 (h.lotAt ho F).2
theorem aCr{w:World}{R:Nat→Prop}{b:Nat}{st:Tstate}{M:MState}(h:StIn w R b st M)(hF:Fits M){x:TLot}{fk fi why:Int}{Q:Int→World→Prop}
 (hQ:∀w' R' st',StIn w' R' b st' (M.enter x fk fi why)→Step R w R' w'→Q M.nextId w'):
 Cl Pg 83 #[vp ⟨b,0,none⟩,vg x.enc,vg [vu fk,vi fi],vu why] w (fun v w'=>∃r,v=vi r∧Q r w'):=by
 have hn:st.lots_n≤1000000:=by rw[h.lots.1];exact hF.lots
 have hid:IntKind.wrap .i64 (((st.lots_n:Nat):Int)+1)=M.nextId:=by rw[bQ (by omega) (by omega),h.lots.1];rfl
 refine oG.ok (from_:=⟨fk,fi⟩) ?_;refine bW (er w) fun b1 w1 hb1 hat1 E _ _=>bW E fun b2 w2 hb2 hat2 E E' _=>⟨_,rfl,_,_,_,(h.ext E).rd.cells.at 3 rfl,?_⟩;dsimp only;rw[hid];refine lW E (hat1.ext E') hb1 fun w3 hat1 E f3=>lW E hat1 hb1 fun w4 hat1 E f4=>lW E hat1 hb1 fun w5 hat1 E f5=>iS E fun w6 E e6=>⟨_,rfl,_,_,_,(h.ext E).rd.cells.at 3 rfl,bW E fun b3 w7 hb3 hat3 E E7 _=>?_⟩;have h7:=h.ext E;have hlt:∀k,obk st.lots_a st.lots_c=some k→k<w.heap.size:=fun k hk=>(by obtain⟨cur,hc⟩:=h.lots.at k hk;exact hc.lt)
 have l1:b1<w7.heap.size:=by have:=hat1.lt;have:=e6.size;have:=E7.size;omega
 have l2:b2<w7.heap.size:=by have:=hat2.lt;have:=f3.size;have:=f4.size;have:=f5.size;have:=e6.size;have:=E7.size;omega
 refine jT aBa iQ (fun x=>iN rfl) h7.lots (Rd.one (enc:=TLot.enc) (sz:=10) {x with Id:=M.nextId,State:=1,Bag:=0} hat3) (by omega) (by simp only[maxLen];omega) fun a2 c2 w8 ho F8 hb8=>?_;refine⟨F8.blk _ l1 fun e=>absurd (hlt _ e) (by omega),F8.blk _ l2 fun e=>absurd (hlt _ e) (by omega),_,rfl,?_⟩;refine nC (h7.blk.frm F8 (h7.lots.notP h7.blk (by decide))) (by simp[Tstate.enc]) fun w9 hat9 F9=>?_;obtain⟨h9,s9⟩:=h7.putLots ho F8 hb8 hat9 F9;have hbw:=h.blk.lt;have:=F8.size
 refine⟨F9.blk _ (by omega) fun e=>absurd (show b1=b from e) (by omega),F9.blk _ (by omega) fun e=>absurd (show b2=b from e) (by omega),iS (er w9) fun w10 E10 _=>⟨_,rfl,_,(h9.ext E10).rd.cells.at 0 rfl,?_⟩⟩;rw[h.day];refine tQ (h9.ext E10) hF.postings fun w11 R11 st11 h11 _ s11=>⟨s11.frm.blk _ (by have:=F9.size;have:=E10.size;omega) (s9.out l1 fun hR=>by have:=h.rLt _ hR;omega),hQ _ _ _ h11 ((Ext.step E).trans (s9.trans ((Ext.step E10).trans s11)))⟩
theorem aCF{w:World}{R:Nat→Prop}{b:Nat}{st:Tstate}{M:MState}(h:StIn w R b st M)(hF:Fits M){id day:Int}(h0:1≤id)(h1:id≤M.lots.length){Q:World→Prop}
 (hQ:∀w' R' st',StIn w' R' b st' (M.forfeit id day)→Step R w R' w'→Q w'):
 Cl Pg 150 #[vp ⟨b,0,none⟩,vi id,vi day] w (fun v w'=>v= .tuple #[]∧Q w'):=by
 have hn:=hF.lots;have hid:IntKind.wrap .i64 (id-1)=id-1:=bQ (by omega) (by omega);refine m8.ok ⟨_,rfl,_,_,_,h.rd.cells.at 3 rfl,?_⟩;rw[hid];refine h.rd.lots.ix (by omega) (by have:=h.lots.1;omega) fun p2 x ha hx hc=>iS (er w) fun w1 E _=>⟨_,(hc.ext E).at 5 rfl,_,(hc.ext E).at 7 rfl,_,(hc.ext E).at 1 rfl,?_⟩;refine tQ (h.ext E) hF.postings fun w2 R2 st2 h2 ⟨e1,e2,e3⟩ s2=>?_;refine qL h2 {x with State:=3} hx (by decide) (fun r hr=>?_) (e1.trans ha) fun w3 h3 s3=>?_
 ·match r,hr with
  | 0,_ | 1,_ | 2,_ | 3,_ | 4,_ | 5,_ | 6,_ | 7,_ | 8,_ | 9,_=>rfl
 ·have hm:StIn w3 R2 b st2 (M.forfeit id day):=by
   unfold MState.forfeit;rw[hx];exact h3
  exact hQ _ _ _ hm ((Ext.step E).trans (s2.trans s3))
end Go.Proofs.YtcbijkakoepglaaGreat
namespace Go.Proofs.YtcbijkakoepglaaGreat
open Go Go.Wx
set_option maxRecDepth 100000
def pF.R(Q:Option Addr→Nat→Nat→World→Prop)(s_a:Option Addr)(s_n:Nat)(s_c:Nat)(w:World):Prop:=(
 Ifb s_a.isNone
 (Q none 0 0 w)
 (Al w (.cells #[] 150) fun b1 w1=>
 Ap Pg w1 #[117,117] 117 (vl (some ⟨b1,0,none⟩) 0 0) (vl s_a s_n s_c) fun a1_a a1_n a1_c w2=>
 Q a1_a a1_n a1_c w2))
theorem pF.ok{Q:Option Addr→Nat→Nat→World→Prop}{s_a:Option Addr}{s_n:Nat}{s_c:Nat}{w:World}(h:pF.R Q s_a s_n s_c w):Cl Pg 179 #[vl s_a s_n s_c] w (fun v w'=>∃r0a r0n r0c,v=vl r0a r0n r0c∧Q r0a r0n r0c w'):=by
 refine aI (args:=[vl s_a s_n s_c]) Tryz.func179 ?_
 unfold pF.R at h
 refine aC<|zp 1<|aD<|aL<|aC<|zp 1<|sH rfl rfl (v:=vb s_a.isNone) (pP (by kernel_rfl) rfl rfl rfl)<|aD<|zc h (fun h=>?_) fun h=>?_
 exact aC<|zp 1<|aD<|aN<|aH<|z1 ⟨_,_,_,rfl,h⟩
 refine aJ<|aC<|zv 0 h fun b1 w1 _ _ _ h=>zp 1<|za h ?_
 rintro a1_a a1_n a1_c w2 h
 exact zp 1<|aD<|aN<|z1 ⟨_,_,_,rfl,h⟩
def oV.R(Q:Option Addr→Nat→Nat→World→Prop)(s_a:Option Addr)(s_n:Nat)(s_c:Nat)(w:World):Prop:=(
 Ifb s_a.isNone
 (Q none 0 0 w)
 (Al w (.cells #[] 175) fun b1 w1=>
 Ap Pg w1 #[148,148] 148 (vl (some ⟨b1,0,none⟩) 0 0) (vl s_a s_n s_c) fun a1_a a1_n a1_c w2=>
 Q a1_a a1_n a1_c w2))
theorem oV.ok{Q:Option Addr→Nat→Nat→World→Prop}{s_a:Option Addr}{s_n:Nat}{s_c:Nat}{w:World}(h:oV.R Q s_a s_n s_c w):Cl Pg 180 #[vl s_a s_n s_c] w (fun v w'=>∃r0a r0n r0c,v=vl r0a r0n r0c∧Q r0a r0n r0c w'):=by
 refine aI (args:=[vl s_a s_n s_c]) Tryz.func180 ?_
 unfold oV.R at h
 refine aC<|zp 1<|aD<|aL<|aC<|zp 1<|sH rfl rfl (v:=vb s_a.isNone) (pP (by kernel_rfl) rfl rfl rfl)<|aD<|zc h (fun h=>?_) fun h=>?_
 exact aC<|zp 1<|aD<|aN<|aH<|z1 ⟨_,_,_,rfl,h⟩
 refine aJ<|aC<|zv 0 h fun b1 w1 _ _ _ h=>zp 1<|za h ?_
 rintro a1_a a1_n a1_c w2 h
 exact zp 1<|aD<|aN<|z1 ⟨_,_,_,rfl,h⟩
def pG.R(Q:Option Addr→Nat→Nat→World→Prop)(s_a:Option Addr)(s_n:Nat)(s_c:Nat)(w:World):Prop:=(
 Ifb s_a.isNone
 (Q none 0 0 w)
 (Al w (.cells #[] 152) fun b1 w1=>
 Ap Pg w1 #[118,118] 118 (vl (some ⟨b1,0,none⟩) 0 0) (vl s_a s_n s_c) fun a1_a a1_n a1_c w2=>
 Q a1_a a1_n a1_c w2))
theorem pG.ok{Q:Option Addr→Nat→Nat→World→Prop}{s_a:Option Addr}{s_n:Nat}{s_c:Nat}{w:World}(h:pG.R Q s_a s_n s_c w):Cl Pg 181 #[vl s_a s_n s_c] w (fun v w'=>∃r0a r0n r0c,v=vl r0a r0n r0c∧Q r0a r0n r0c w'):=by
 refine aI (args:=[vl s_a s_n s_c]) Tryz.func181 ?_
 unfold pG.R at h
 refine aC<|zp 1<|aD<|aL<|aC<|zp 1<|sH rfl rfl (v:=vb s_a.isNone) (pP (by kernel_rfl) rfl rfl rfl)<|aD<|zc h (fun h=>?_) fun h=>?_
 exact aC<|zp 1<|aD<|aN<|aH<|z1 ⟨_,_,_,rfl,h⟩
 refine aJ<|aC<|zv 0 h fun b1 w1 _ _ _ h=>zp 1<|za h ?_
 rintro a1_a a1_n a1_c w2 h
 exact zp 1<|aD<|aN<|z1 ⟨_,_,_,rfl,h⟩
def pQ.R(Q:Option Addr→Nat→Nat→World→Prop)(s_a:Option Addr)(s_n:Nat)(s_c:Nat)(w:World):Prop:=(
 Ifb s_a.isNone
 (Q none 0 0 w)
 (Al w (.cells #[] 45) fun b1 w1=>
 Ap Pg w1 #[46,46] 46 (vl (some ⟨b1,0,none⟩) 0 0) (vl s_a s_n s_c) fun a1_a a1_n a1_c w2=>
 Q a1_a a1_n a1_c w2))
theorem pQ.ok{Q:Option Addr→Nat→Nat→World→Prop}{s_a:Option Addr}{s_n:Nat}{s_c:Nat}{w:World}(h:pQ.R Q s_a s_n s_c w):Cl Pg 182 #[vl s_a s_n s_c] w (fun v w'=>∃r0a r0n r0c,v=vl r0a r0n r0c∧Q r0a r0n r0c w'):=by
 refine aI (args:=[vl s_a s_n s_c]) Tryz.func182 ?_
 unfold pQ.R at h
 refine aC<|zp 1<|aD<|aL<|aC<|zp 1<|sH rfl rfl (v:=vb s_a.isNone) (pP (by kernel_rfl) rfl rfl rfl)<|aD<|zc h (fun h=>?_) fun h=>?_
 exact aC<|zp 1<|aD<|aN<|aH<|z1 ⟨_,_,_,rfl,h⟩
 refine aJ<|aC<|zv 0 h fun b1 w1 _ _ _ h=>zp 1<|za h ?_
 rintro a1_a a1_n a1_c w2 h
 exact zp 1<|aD<|aN<|z1 ⟨_,_,_,rfl,h⟩
def nJ.R(Q:Option Addr→Nat→Nat→World→Prop)(s_a:Option Addr)(s_n:Nat)(s_c:Nat)(w:World):Prop:=(
 Ifb s_a.isNone
 (Q none 0 0 w)
 (Al w (.cells #[] 42) fun b1 w1=>
 Ap Pg w1 #[22,22] 22 (vl (some ⟨b1,0,none⟩) 0 0) (vl s_a s_n s_c) fun a1_a a1_n a1_c w2=>
 Q a1_a a1_n a1_c w2))
theorem nJ.ok{Q:Option Addr→Nat→Nat→World→Prop}{s_a:Option Addr}{s_n:Nat}{s_c:Nat}{w:World}(h:nJ.R Q s_a s_n s_c w):Cl Pg 85 #[vl s_a s_n s_c] w (fun v w'=>∃r0a r0n r0c,v=vl r0a r0n r0c∧Q r0a r0n r0c w'):=by
 refine aI (args:=[vl s_a s_n s_c]) Tryz.func85 ?_
 unfold nJ.R at h
 refine aC<|zp 1<|aD<|aL<|aC<|zp 1<|sH rfl rfl (v:=vb s_a.isNone) (pP (by kernel_rfl) rfl rfl rfl)<|aD<|zc h (fun h=>?_) fun h=>?_
 exact aC<|zp 1<|aD<|aN<|aH<|z1 ⟨_,_,_,rfl,h⟩
 refine aJ<|aC<|zv 0 h fun b1 w1 _ _ _ h=>zp 1<|za h ?_
 rintro a1_a a1_n a1_c w2 h
 exact zp 1<|aD<|aN<|z1 ⟨_,_,_,rfl,h⟩
def dZ.l1(Q:Tstate→World→Prop)(s:Tstate)(b1:Nat)(b2:Nat)(r1_a:Option Addr)(r1_n:Nat)(r1_c:Nat):Nat→Int→World→Prop
 | 0,_,_=>False
 | nl1+1,v1,w5=>(
 Ifb (decide (v1<((r1_n:Nat):Int)))
 (Dr w5 fun w6=>
 Ix r1_a r1_n v1 fun p1=>
 dU w6 (Addr.add (Addr.add p1 (v1.toNat*3)) 2) fun x1_a x1_n x1_c=>
 Cl Pg 180 #[vl x1_a x1_n x1_c] w6 (fun v w7=>∃r2_a r2_n r2_c,v=vl r2_a r2_n r2_c∧Kp b1 w6 w7∧Kp b2 w6 w7∧Ix r1_a r1_n v1 fun p2=>
 St w7 (Addr.add (Addr.add p2 (v1.toNat*3)) 2) ([vl r2_a r2_n r2_c]) fun w8=>
 Kp b1 w7 w8∧Kp b2 w7 w8∧(dZ.l1 Q s b1 b2 r1_a r1_n r1_c nl1) (IntKind.wrap .i64 (v1+1)) w8))
 (Cl Pg 181 #[vl s.terms_a s.terms_n s.terms_c] w5 (fun v w9=>∃r3_a r3_n r3_c,v=vl r3_a r3_n r3_c∧Kp b1 w5 w9∧Kp b2 w5 w9∧Sb w9 b1 (.cells #[vi s.day,vl r1_a r1_n r1_c,vl r3_a r3_n r3_c,vl s.lots_a s.lots_n s.lots_c,vl s.postings_a s.postings_n s.postings_c] 120 (0,0)) fun w10=>
 Cl Pg 182 #[vl s.lots_a s.lots_n s.lots_c] w10 (fun v w11=>∃r4_a r4_n r4_c,v=vl r4_a r4_n r4_c∧Kp b1 w10 w11∧Kp b2 w10 w11∧Sb w11 b1 (.cells #[vi s.day,vl r1_a r1_n r1_c,vl r3_a r3_n r3_c,vl r4_a r4_n r4_c,vl s.postings_a s.postings_n s.postings_c] 120 (0,0)) fun w12=>
 Cl Pg 85 #[vl s.postings_a s.postings_n s.postings_c] w12 (fun v w13=>∃r5_a r5_n r5_c,v=vl r5_a r5_n r5_c∧Kp b1 w12 w13∧Kp b2 w12 w13∧Sb w13 b1 (.cells #[vi s.day,vl r1_a r1_n r1_c,vl r3_a r3_n r3_c,vl r4_a r4_n r4_c,vl r5_a r5_n r5_c] 120 (0,0)) fun w14=>
 Sb w14 b2 (.cells #[vi s.day,vl r1_a r1_n r1_c,vl r3_a r3_n r3_c,vl r4_a r4_n r4_c,vl r5_a r5_n r5_c] 120 (0,0)) fun w15=>
 Q (⟨s.day,r1_a,r1_n,r1_c,r3_a,r3_n,r3_c,r4_a,r4_n,r4_c,r5_a,r5_n,r5_c⟩:Tstate) w15)))))
def dZ.R(Q:Tstate→World→Prop)(s:Tstate)(w:World):Prop:=(
 Al w (.cells #[vi s.day,vl s.units_a s.units_n s.units_c,vl s.terms_a s.terms_n s.terms_c,vl s.lots_a s.lots_n s.lots_c,vl s.postings_a s.postings_n s.postings_c] 120) fun b1 w1=>
 Al w1 (.cells #[vi 0,vl none 0 0,vl none 0 0,vl none 0 0,vl none 0 0] 120) fun b2 w2=>
 Cl Pg 179 #[vl s.units_a s.units_n s.units_c] w2 (fun v w3=>∃r1_a r1_n r1_c,v=vl r1_a r1_n r1_c∧Kp b1 w2 w3∧Kp b2 w2 w3∧Sb w3 b1 (.cells #[vi s.day,vl r1_a r1_n r1_c,vl s.terms_a s.terms_n s.terms_c,vl s.lots_a s.lots_n s.lots_c,vl s.postings_a s.postings_n s.postings_c] 120 (0,0)) fun w4=>
 ∃k,dZ.l1 Q s b1 b2 r1_a r1_n r1_c k 0 w4))
theorem dZ.ok{Q:Tstate→World→Prop}{s:Tstate}{w:World}(h:dZ.R Q s w):Cl Pg 139 #[vg (Tstate.enc s)] w (fun v w'=>∃r0,v=vg (Tstate.enc r0)∧Q r0 w'):=by
 refine aI (args:=[vg (Tstate.enc s)]) Tryz.func139 ?_
 unfold dZ.R at h
 refine aC<|zq h fun b1 w1 _ _ q1 h=>zq h fun b2 w2 eb ew q2 h=>?_
 have o1:=q1
 replace q1:=fQ ew q1
 have n1_2:b1≠b2:=lR o1 eb
 clear o1
 clear eb ew
 refine aD<|aC<|zp 1<|zb rM q1<|zk h ?_
 rintro _ w3 ⟨r1_a,r1_n,r1_c,rfl,hk0,hk1,h⟩
 replace q1:=bG hk0 q1
 replace q2:=bG hk1 q2
 refine zp 1<|zt rM q1 h fun w4 ew q h=>?_
 replace q2:=dC ew n1_2.symm q2
 replace q1:=q
 refine aD<|aL<|aC<|zp 1<|zb rM q1<|zp 2<|aD<|aR ?_
 obtain⟨nl1,h⟩:=h
 refine bS (fun k e w5=>∃(e0:Env) (v1:Int),e=upds e0 [(1,vp ⟨b1,0,none⟩),(2,vp ⟨b2,0,none⟩),(10,vi (r1_n:Nat)),(11,vi v1)]∧w5.heap[b1]? =some (.cells #[vi s.day,vl r1_a r1_n r1_c,vl s.terms_a s.terms_n s.terms_c,vl s.lots_a s.lots_n s.lots_c,vl s.postings_a s.postings_n s.postings_c] 120 (0,0))∧w5.heap[b2]? =some (.cells #[vi 0,vl none 0 0,vl none 0 0,vl none 0 0,vl none 0 0] 120 (0,0))∧b1≠b2∧dZ.l1 Q s b1 b2 r1_a r1_n r1_c k v1 w5) nl1 ?_ ?_ ?_
 rintro _ _ ⟨_,_,_,_,_,_,h⟩
 exact h
 exact⟨_,0,ag,q1,q2,n1_2,h⟩
 clear h nl1 q1 q2 n1_2
 rintro nl1 _ w5 ⟨e0,v1,rfl,q1,q2,n1_2,h⟩
 unfold dZ.l1 at h
 refine aC<|zp 1<|aD<|aL<|zc h (fun h=>?_) fun h=>?_
 refine aJ<|aL<|aR<|aC<|zp 2<|aD<|drw iG [[],[],[],[],[],[],[4],[4],[4],[4,8],[1,4,8],[1,4,8],[1,4,8]] [.p 0,.l 1,.p 2,.p 3,.l 4,.p 5,.p 6,.p 7,.l 8,.e 9,.p 10,.p 11,.e 12] h fun w6 ew h=>?_
 replace q1:=dN ew q1
 replace q2:=dN ew q2
 refine zP 1<|zB rM q1<|zP 2<|zB rM q1<|zP 1<|zI xM h fun p1 h=>zP 1<|zR aBo h fun x1_a x1_n x1_c hx1 h=>zK h ?_
 rintro _ w7 ⟨r2_a,r2_n,r2_c,rfl,hk0,hk1,h⟩
 replace q1:=bG hk0 q1
 replace q2:=bG hk1 q2
 refine⟨AllOk.cons (jW (jO rfl rfl (fW rM (aV q1 rfl))))<|AllOk.nil,?_⟩
 refine zI xM h fun p2 h=>zP 1<|zU aBo h ?_
 rintro w8 ⟨hk0,hk1,h⟩
 replace q1:=bG hk0 q1
 replace q2:=bG hk1 q2
 refine⟨AllOk.nil,?_⟩
 exact bF<|aG<|aW<|zp 2<|aD<|⟨_,IntKind.wrap .i64 (v1+1),ag,q1,q2,n1_2,h⟩
 refine dE<|aU<|aC<|zp 1<|zb aAk q1<|zk h ?_
 rintro _ w9 ⟨r3_a,r3_n,r3_c,rfl,hk0,hk1,h⟩
 replace q1:=bG hk0 q1
 replace q2:=bG hk1 q2
 refine zp 1<|zt aAk q1 h fun w10 ew q h=>?_
 replace q2:=dC ew n1_2.symm q2
 replace q1:=q
 refine aD<|aC<|zp 1<|zb iU q1<|zk h ?_
 rintro _ w11 ⟨r4_a,r4_n,r4_c,rfl,hk0,hk1,h⟩
 replace q1:=bG hk0 q1
 replace q2:=bG hk1 q2
 refine zp 1<|zt iU q1 h fun w12 ew q h=>?_
 replace q2:=dC ew n1_2.symm q2
 replace q1:=q
 refine aD<|aC<|zp 1<|zb sT q1<|zk h ?_
 rintro _ w13 ⟨r5_a,r5_n,r5_c,rfl,hk0,hk1,h⟩
 replace q1:=bG hk0 q1
 replace q2:=bG hk1 q2
 refine zp 1<|zt sT q1 h fun w14 ew q h=>?_
 replace q2:=dC ew n1_2.symm q2
 replace q1:=q
 refine aD<|aC<|zm aAj q1<|zt aAj q2 h fun w15 ew q h=>?_
 replace q2:=q
 exact aD<|aN<|retc (t:=2) (ty:=120) (v:=vg [vi s.day,vl r1_a r1_n r1_c,vl r3_a r3_n r3_c,vl r4_a r4_n r4_c,vl r5_a r5_n r5_c]) rfl rfl (bT aAj (vs:=[vi s.day,vl r1_a r1_n r1_c,vl r3_a r3_n r3_c,vl r4_a r4_n r4_c,vl r5_a r5_n r5_c]) rfl (dS q2 rfl)) ⟨_,rfl,h⟩
end Go.Proofs.YtcbijkakoepglaaGreat
namespace Go.Proofs.YtcbijkakoepglaaGreat
open Go Go.Wx
theorem aF5{w:World}{a:Option Addr}{n c:Nat}{xs:List Tunit}(hr:Rd Tunit.enc 3 w a n xs)(hn:n≤1000000){Q:Option Addr→Nat→Nat→World→Prop}
 (hQ:∀a2 c2 w',Own 150 3 Tunit.enc w' a2 n c2 xs→(∀k,obk a2 c2=some k→w.heap.size≤k)→Ext w w'→Q a2 n c2 w'):
 Cl Pg 179 #[vl a n c] w (fun v w'=>∃a2 n2 c2,v=vl a2 n2 c2∧Q a2 n2 c2 w'):=by
 refine pF.ok (ifb ?_);cases a with
 | none=>
  have h0:=hr.2.1 rfl;subst h0;obtain rfl:xs=[]:=List.eq_nil_of_length_eq_zero hr.1.symm;exact hQ _ _ _ Own.nil (fun k hk=>(by cases hk)) (er w)
 | some a0=>
  refine bW (er w) fun b1 w1 hb hat E _ _=>jT (c:=0) ap117 rV (fun x=>iN rfl) (xs:=[]) Own.nil' (hr.ext E) (by omega) (by simp only[maxLen];omega) fun a2 c2 w2 ho F hb2=>?_;rw[Nat.zero_add,List.nil_append]at*;exact hQ _ _ _ ho (fun k hk=>(hb2 k hk).elim (fun e=>(by cases e)) fun h=>Nat.le_trans E.size h) (E.trans (F.mono fun k _ e=>(by cases e)) fun _ _ h=>h)
theorem aE0{w:World}{a:Option Addr}{n c:Nat}{xs:List Tdated}(hr:Rd Tdated.enc 2 w a n xs)(hn:n≤1000000){Q:Option Addr→Nat→Nat→World→Prop}
 (hQ:∀a2 c2 w',Own 175 2 Tdated.enc w' a2 n c2 xs→(∀k,obk a2 c2=some k→w.heap.size≤k)→Ext w w'→Q a2 n c2 w'):
 Cl Pg 180 #[vl a n c] w (fun v w'=>∃a2 n2 c2,v=vl a2 n2 c2∧Q a2 n2 c2 w'):=by
 refine oV.ok (ifb ?_);cases a with
 | none=>
  have h0:=hr.2.1 rfl;subst h0;obtain rfl:xs=[]:=List.eq_nil_of_length_eq_zero hr.1.symm;exact hQ _ _ _ Own.nil (fun k hk=>(by cases hk)) (er w)
 | some a0=>
  refine bW (er w) fun b1 w1 hb hat E _ _=>jT (c:=0) ap148 aB3 (fun x=>iN rfl) (xs:=[]) Own.nil' (hr.ext E) (by omega) (by simp only[maxLen];omega) fun a2 c2 w2 ho F hb2=>?_;rw[Nat.zero_add,List.nil_append]at*;exact hQ _ _ _ ho (fun k hk=>(hb2 k hk).elim (fun e=>(by cases e)) fun h=>Nat.le_trans E.size h) (E.trans (F.mono fun k _ e=>(by cases e)) fun _ _ h=>h)
theorem aF6{w:World}{a:Option Addr}{n c:Nat}{xs:List Tterm}(hr:Rd Tterm.enc 4 w a n xs)(hn:n≤1000000){Q:Option Addr→Nat→Nat→World→Prop}
 (hQ:∀a2 c2 w',Own 152 4 Tterm.enc w' a2 n c2 xs→(∀k,obk a2 c2=some k→w.heap.size≤k)→Ext w w'→Q a2 n c2 w'):
 Cl Pg 181 #[vl a n c] w (fun v w'=>∃a2 n2 c2,v=vl a2 n2 c2∧Q a2 n2 c2 w'):=by
 refine pG.ok (ifb ?_);cases a with
 | none=>
  have h0:=hr.2.1 rfl;subst h0;obtain rfl:xs=[]:=List.eq_nil_of_length_eq_zero hr.1.symm;exact hQ _ _ _ Own.nil (fun k hk=>(by cases hk)) (er w)
 | some a0=>
  refine bW (er w) fun b1 w1 hb hat E _ _=>jT (c:=0) ap118 aA9 (fun x=>iN rfl) (xs:=[]) Own.nil' (hr.ext E) (by omega) (by simp only[maxLen];omega) fun a2 c2 w2 ho F hb2=>?_;rw[Nat.zero_add,List.nil_append]at*;exact hQ _ _ _ ho (fun k hk=>(hb2 k hk).elim (fun e=>(by cases e)) fun h=>Nat.le_trans E.size h) (E.trans (F.mono fun k _ e=>(by cases e)) fun _ _ h=>h)
theorem aGY{w:World}{a:Option Addr}{n c:Nat}{xs:List TLot}(hr:Rd TLot.enc 10 w a n xs)(hn:n≤1000000){Q:Option Addr→Nat→Nat→World→Prop}
 (hQ:∀a2 c2 w',Own 45 10 TLot.enc w' a2 n c2 xs→(∀k,obk a2 c2=some k→w.heap.size≤k)→Ext w w'→Q a2 n c2 w'):
 Cl Pg 182 #[vl a n c] w (fun v w'=>∃a2 n2 c2,v=vl a2 n2 c2∧Q a2 n2 c2 w'):=by
 refine pQ.ok (ifb ?_);cases a with
 | none=>
  have h0:=hr.2.1 rfl;subst h0;obtain rfl:xs=[]:=List.eq_nil_of_length_eq_zero hr.1.symm;exact hQ _ _ _ Own.nil (fun k hk=>(by cases hk)) (er w)
 | some a0=>
  refine bW (er w) fun b1 w1 hb hat E _ _=>jT (c:=0) aBa iQ (fun x=>iN rfl) (xs:=[]) Own.nil' (hr.ext E) (by omega) (by simp only[maxLen];omega) fun a2 c2 w2 ho F hb2=>?_;rw[Nat.zero_add,List.nil_append]at*;exact hQ _ _ _ ho (fun k hk=>(hb2 k hk).elim (fun e=>(by cases e)) fun h=>Nat.le_trans E.size h) (E.trans (F.mono fun k _ e=>(by cases e)) fun _ _ h=>h)
theorem yL{w:World}{a:Option Addr}{n c:Nat}{xs:List TPosting}(hr:Rd TPosting.enc 9 w a n xs)(hn:n≤1000000){Q:Option Addr→Nat→Nat→World→Prop}
 (hQ:∀a2 c2 w',Own 42 9 TPosting.enc w' a2 n c2 xs→(∀k,obk a2 c2=some k→w.heap.size≤k)→Ext w w'→Q a2 n c2 w'):
 Cl Pg 85 #[vl a n c] w (fun v w'=>∃a2 n2 c2,v=vl a2 n2 c2∧Q a2 n2 c2 w'):=by
 refine nJ.ok (ifb ?_);cases a with
 | none=>
  have h0:=hr.2.1 rfl;subst h0;obtain rfl:xs=[]:=List.eq_nil_of_length_eq_zero hr.1.symm;exact hQ _ _ _ Own.nil (fun k hk=>(by cases hk)) (er w)
 | some a0=>
  refine bW (er w) fun b1 w1 hb hat E _ _=>jT (c:=0) ap22 m0 (fun x=>iN rfl) (xs:=[]) Own.nil' (hr.ext E) (by omega) (by simp only[maxLen];omega) fun a2 c2 w2 ho F hb2=>?_;rw[Nat.zero_add,List.nil_append]at*;exact hQ _ _ _ ho (fun k hk=>(hb2 k hk).elim (fun e=>(by cases e)) fun h=>Nat.le_trans E.size h) (E.trans (F.mono fun k _ e=>(by cases e)) fun _ _ h=>h)
structure StFree(w:World)(R:Nat→Prop)(st:Tstate)(M:MState):Prop where
 day:st.day=M.day
 units:UnitsOwn w R st.units_a st.units_n st.units_c M.units
 terms:Own 152 4 Tterm.enc w st.terms_a st.terms_n st.terms_c M.terms
 lots:Own 45 10 TLot.enc w st.lots_a st.lots_n st.lots_c M.lots
 postings:Own 42 9 TPosting.enc w st.postings_a st.postings_n st.postings_c M.postings
 rUnits:∀k,obk st.units_a st.units_c=some k→R k
 rTerms:∀k,obk st.terms_a st.terms_c=some k→R k
 rLots:∀k,obk st.lots_a st.lots_c=some k→R k
 rPostings:∀k,obk st.postings_a st.postings_c=some k→R k
 rLt:∀k,R k→k<w.heap.size
structure CopyInv(w:World)(us:List MUnit)(a:Option Addr)(n c:Nat)(i:Nat)(ts:List Tunit)(w':World):Prop where
 own:Own 150 3 Tunit.enc w' a n c ts
 len:ts.length=us.length
 nk:∀(j:Nat) (t:Tunit) (u:MUnit),ts[j]? =some t→us[j]? =some u→t.name=u.name∧t.kind=u.kind
 todo:∀(j:Nat) (t:Tunit) (u:MUnit),ts[j]? =some t→us[j]? =some u→i≤j→Rd Tdated.enc 2 w t.values_a t.values_n u.values
 done:∀(j:Nat) (t:Tunit) (u:MUnit),ts[j]? =some t→us[j]? =some u→j<i→Own 175 2 Tdated.enc w' t.values_a t.values_n t.values_c u.values∧∀k,obk t.values_a t.values_c=some k→w.heap.size≤k
 apart:∀(j j':Nat) (t t':Tunit) (k:Nat),ts[j]? =some t→ts[j']? =some t'→j<i→j'<i→obk t.values_a t.values_c=some k→obk t'.values_a t'.values_c=some k→j=j'
theorem CopyInv.frm{w:World}{us:List MUnit}{a:Option Addr}{n c i:Nat}{ts:List Tunit}{w1 w2:World}{S:Nat→Prop}(h:CopyInv w us a n c i ts w1)(F:Frm S w1 w2)(hS:∀k cur T,At w1 k (.cells cur T (0,0))→T=150∨T=175→¬S k):CopyInv w us a n c i ts w2:=
 ⟨h.own.frm F fun k hk=>(by obtain⟨cur,hc⟩:=h.own.at k hk;exact hS k _ _ hc (.inl rfl)),h.len,h.nk,h.todo,fun j t u ht hu hj=>⟨(h.done j t u ht hu hj).1.frm F fun k hk=>(by obtain⟨cur,hc⟩:=(h.done j t u ht hu hj).1.at k hk;exact hS k _ _ hc (.inr rfl)),(h.done j t u ht hu hj).2⟩,h.apart⟩
theorem aDj{w:World}{s:Tstate}{us:List MUnit}(hv:∀u∈us,u.values.length≤1000000){b1 b2:Nat}{o1 o2:Array Value}{a:Option Addr}{n c:Nat}(hn:n≤1000000)(hb1:w.heap.size≤b1)(hb2:w.heap.size≤b2)(hac:∀k,obk a c=some k→w.heap.size≤k){Q:Tstate→World→Prop}{w0:World}
 (hQ:∀w' ts,CopyInv w us a n c n ts w'→Ext w w'→At w' b1 (.cells o1 120 (0,0))→At w' b2 (.cells o2 120 (0,0))→dZ.l1 Q s b1 b2 a n c 1 (n:Nat) w'):
 ∀m i w' ts,i+m=n→CopyInv w us a n c i ts w'→Ext w w'→At w' b1 (.cells o1 120 (0,0))→At w' b2 (.cells o2 120 (0,0))→dZ.l1 Q s b1 b2 a n c (m+1) (i:Nat) w':=by
 intro m;induction m with
 | zero=>
  intro i w' ts hi h E h1 h2;obtain rfl:i=n:=by omega
  exact hQ w' ts h E h1 h2
 | succ m ih=>
  intro i w' ts hi h E h1 h2;unfold dZ.l1;have hlen:=h.own.1;refine dQ (by omega) (iS E fun w6 E6 e6=>?_);have h6:=h.frm e6 (fun _ _ _ _ _=>id);refine(h6.own.rd rV).ix (by omega) (by omega) fun a0 t ha ht hc=>⟨_,_,_,hc.at 2 rfl,?_⟩;simp only[Int.toNat_natCast]at ht;obtain⟨u,hu⟩:∃u,us[i]? =some u:=⟨_,List.getElem?_eq_getElem (by have:=h.len;omega)⟩;have hrd:=(h.todo i t u ht hu (Nat.le_refl _)).ext E6;have hvl:t.values_n≤1000000:=by rw[hrd.1];exact hv u (List.mem_of_getElem? hu)
  refine aE0 hrd hvl fun a2 c2 w7 ho hf e7=>?_;have h7:=h6.frm e7 (fun _ _ _ _ _=>id);have h1':=(h1.ext e6).ext e7;have h2':=(h2.ext e6).ext e7;refine⟨e7.blk _ (h1.ext e6).lt id,e7.blk _ (h2.ext e6).lt id,(h7.own.rd rV).ix (by omega) (by omega) fun p2 t2 ha2 ht2 _=>?_⟩;rw[Int.toNat_natCast];refine aAs rV h7.own {t with values_a:=a2,values_n:=t.values_n,values_c:=c2} ht (by simp) (fun r hr=>?_) ha2 fun w8 ho8 F8=>?_
  ·match r,hr with
   | 0,_ | 1,_ | 2,_=>rfl
  have hk8:∀k cur T,At w7 k (.cells cur T (0,0))→T≠150→¬obk a c=some k:=fun k cur T hk hT=>h7.own.notP hk hT;refine⟨F8.blk _ h1'.lt (hk8 _ _ _ h1' (by decide)),F8.blk _ h2'.lt (hk8 _ _ _ h2' (by decide)),?_⟩;rw[fO (n:=n) (by omega) (by omega) (by simp only[maxLen];omega)];have hi':i<ts.length:=by omega
  refine ih (i+1) w8 _ (by omega) ⟨ho8,by rw[List.length_set];exact h.len,?_,?_,?_,?_⟩ ((E6.ext e7).trans F8 fun k hk e=>by have:=hac k e;omega) (h1'.frm F8 (hk8 _ _ _ h1' (by decide))) (h2'.frm F8 (hk8 _ _ _ h2' (by decide)))
  ·intro j t' u' ht' hu';by_cases e:i=j
   ·subst e;rw[List.getElem?_set_self hi']at ht';cases ht';exact h.nk i t u' ht hu'
   ·rw[List.getElem?_set_ne e]at ht';exact h.nk j t' u' ht' hu'
  ·intro j t' u' ht' hu' hj;rw[List.getElem?_set_ne (by omega)]at ht';exact h.todo j t' u' ht' hu' (by omega)
  ·intro j t' u' ht' hu' hj;by_cases e:i=j
   ·subst e;rw[List.getElem?_set_self hi']at ht';cases ht';obtain rfl:u=u':=Option.some.inj (hu.symm.trans hu');refine⟨ho.frm F8 fun k hk=>?_,fun k hk=>Nat.le_trans E6.size (hf k hk)⟩;obtain⟨cur,hc⟩:=ho.at k hk;exact hk8 _ _ _ hc (by decide)
   ·rw[List.getElem?_set_ne e]at ht';refine⟨(h7.done j t' u' ht' hu' (by omega)).1.frm F8 fun k hk=>?_,(h7.done j t' u' ht' hu' (by omega)).2⟩;obtain⟨cur,hc⟩:=(h7.done j t' u' ht' hu' (by omega)).1.at k hk;exact hk8 _ _ _ hc (by decide)
  ·have old:∀(j:Nat) (t':Tunit) (k:Nat),ts[j]? =some t'→j<i→obk t'.values_a t'.values_c=some k→k<w6.heap.size:=by
    intro j t' k ht' hj hk;obtain⟨u',hu'⟩:∃u,us[j]? =some u:=⟨_,List.getElem?_eq_getElem (by have:=h.len;omega)⟩;obtain⟨cur,hc⟩:=(h6.done j t' u' ht' hu' hj).1.at k hk;exact hc.lt
   intro j j' t' t'' k ht' ht'' hj hj' hk hk';by_cases e:i=j<;>by_cases e':i=j'
   ·omega
   ·subst e;rw[List.getElem?_set_self hi']at ht';rw[List.getElem?_set_ne e']at ht'';cases ht';have:=hf k hk;have:=old j' t'' k ht'' (by omega) hk';omega
   ·subst e';rw[List.getElem?_set_ne e]at ht';rw[List.getElem?_set_self hi']at ht'';cases ht'';have:=hf k hk';have:=old j t' k ht' (by omega) hk;omega
   ·rw[List.getElem?_set_ne e]at ht';rw[List.getElem?_set_ne e']at ht'';exact h.apart j j' t' t'' k ht' ht'' (by omega) (by omega) hk hk'
theorem keep1{α:Type}{enc:α→List Value}{sz T b:Nat}{a:Option Addr}{n c:Nat}{xs:List α}{w w':World}{o:Array Value}(ho:Own T sz enc w a n c xs)(hat:At w b (.cells o 120 (0,0)))(F:Frm (fun k=>k=b) w w')(hT:T≠120):Own T sz enc w' a n c xs:=
 ho.frm F fun k hk e=>(by obtain⟨cur,hc⟩:=ho.at k hk;exact hc.neT hat (fun e=>hT (Option.some.inj e)) e)
theorem CopyInv.keep1{w:World}{us:List MUnit}{a:Option Addr}{n c i:Nat}{ts:List Tunit}{w1 w2:World}{b:Nat}{o:Array Value}(h:CopyInv w us a n c i ts w1)(hat:At w1 b (.cells o 120 (0,0)))(F:Frm (fun k=>k=b) w1 w2):CopyInv w us a n c i ts w2:=
 h.frm F fun k cur T hk hT e=>(by rcases hT with rfl | rfl<;>exact hk.neT hat (by simp[tyO]) e)
theorem aGV{w:World}{p:Addr}{s:Tstate}{M:MState}(h:StRd w p s M)(hF:Fits M){Q:Tstate→World→Prop}
 (hQ:∀w' R st,StFree w' R st M→(∀k,R k→w.heap.size≤k)→Ext w w'→Q st w'):
 Cl Pg 139 #[vg s.enc] w (fun v w'=>∃r:Tstate,v=vg r.enc∧Q r w'):=by
 refine dZ.ok ?_;refine bW (er w) fun b1 w1 hb1 hat1 E _ _=>bW E fun b2 w2 hb2 hat2 E E' n2=>?_;have l1:=hat1.lt;have hat1:=hat1.ext E';obtain⟨ts0,hu,hul,hue⟩:=h.units;have hun:s.units_n≤1000000:=by have:=hF.units;rw[hu.1,hul];omega
 refine aF5 (hu.ext E) hun fun a1 c1 w3 ho1 hf1 E3=>?_;refine⟨E3.blk _ hat1.lt id,E3.blk _ hat2.lt id,lW (E.ext E3) (hat1.ext E3) hb1 fun w4 hat1 E4 f4=>⟨s.units_n+1,?_⟩⟩;have hat2:At w4 b2 _:=(hat2.ext E3).frm f4 (by omega)
 refine aDj (w:=w) (us:=M.units) hF.values hun hb1 hb2 (fun k hk=>Nat.le_trans E.size (hf1 k hk)) (w0:=w) ?_ s.units_n 0 w4 ts0 (by omega) ⟨ho1.frm f4 fun k hk e=>?_,hul,fun j t u ht hu'=>⟨(hue j t u ht hu').1,(hue j t u ht hu').2.1⟩,fun j t u ht hu' _=>(hue j t u ht hu').2.2,fun _ _ _ _ _ hj=>by omega,fun _ _ _ _ _ _ _ hj=>by omega⟩ E4 hat1 hat2
 ·intro w5 ts hi E5 hat1 hat2;unfold dZ.l1;refine dK (by omega) ?_;have ht:=h.terms;refine aF6 (ht.ext E5) (by rw[ht.1];have:=hF.terms;omega) fun a3 c3 w9 ho3 hf3 e9=>?_;refine⟨e9.blk _ hat1.lt id,e9.blk _ hat2.lt id,lW (E5.ext e9) (hat1.ext e9) hb1 fun w10 hat1' E10 f10=>?_⟩;have hat2':At w10 b2 _:=(hat2.ext e9).frm f10 (by omega);have hl:=h.lots;refine aGY (hl.ext E10) (by rw[hl.1];exact hF.lots) fun a4 c4 w11 ho4 hf4 e11=>?_
  refine⟨e11.blk _ hat1'.lt id,e11.blk _ hat2'.lt id,lW (E10.ext e11) (hat1'.ext e11) hb1 fun w12 hat1'' E12 f12=>?_⟩;have hat2'':At w12 b2 _:=(hat2'.ext e11).frm f12 (by omega);have hp:=h.postings;refine yL (hp.ext E12) (by rw[hp.1];exact hF.postings) fun a5 c5 w13 ho5 hf5 e13=>?_;refine⟨e13.blk _ hat1''.lt id,e13.blk _ hat2''.lt id,lW (E12.ext e13) (hat1''.ext e13) hb1 fun w14 hat1n E14 f14=>?_⟩;have hat2n:At w14 b2 _:=(hat2''.ext e13).frm f14 (by omega);refine lW E14 hat2n hb2 fun w15 hat2z E15 f15=>?_
  have hc:=((((((hi.frm e9 fun _ _ _ _ _=>id).keep1 (hat1.ext e9) f10).frm e11 fun _ _ _ _ _=>id).keep1 (hat1'.ext e11) f12).frm e13 fun _ _ _ _ _=>id).keep1 (hat1''.ext e13) f14).keep1 hat2n f15;have g3:=keep1 (keep1 ((keep1 ((keep1 ho3 (hat1.ext e9) f10 (by decide)).ext e11) (hat1'.ext e11) f12 (by decide)).ext e13) (hat1''.ext e13) f14 (by decide)) hat2n f15 (by decide);have g4:=keep1 (keep1 ((keep1 ho4 (hat1'.ext e11) f12 (by decide)).ext e13) (hat1''.ext e13) f14 (by decide)) hat2n f15 (by decide)
  have g5:=keep1 (keep1 ho5 (hat1''.ext e13) f14 (by decide)) hat2n f15 (by decide);refine hQ w15 (fun k=>w.heap.size≤k∧k<w15.heap.size) ⟨s.day,a1,s.units_n,c1,a3,s.terms_n,c3,a4,s.lots_n,c4,a5,s.postings_n,c5⟩ ?_ (fun k hk=>hk.1) E15;have s9:=E5.size;have s10:=E10.size;have s12:=E12.size
  refine⟨h.day,⟨ts,hc.own,hc.len,fun j t u ht hu=>⟨(hc.nk j t u ht hu).1,(hc.nk j t u ht hu).2,(hc.done j t u ht hu ?_).1,fun k hk=>⟨(hc.done j t u ht hu ?_).2 k hk,?_⟩⟩,fun j j' t t' k ht ht' hk hk'=>hc.apart j j' t t' k ht ht' ?_ ?_ hk hk'⟩,g3,g4,g5,fun k hk=>⟨Nat.le_trans E.size (hf1 k hk),?_⟩,fun k hk=>⟨Nat.le_trans s9 (hf3 k hk),?_⟩,fun k hk=>⟨Nat.le_trans s10 (hf4 k hk),?_⟩,fun k hk=>⟨Nat.le_trans s12 (hf5 k hk),?_⟩,fun k hk=>hk.2⟩
  ·have:=hc.own.1;have:=(List.getElem?_eq_some_iff.1 ht).1;omega
  ·have:=hc.own.1;have:=(List.getElem?_eq_some_iff.1 ht).1;omega
  ·obtain⟨cur,h⟩:=(hc.done j t u ht hu (by have:=hc.own.1;have:=(List.getElem?_eq_some_iff.1 ht).1;omega)).1.at k hk;exact h.lt
  ·have:=hc.own.1;have:=(List.getElem?_eq_some_iff.1 ht).1;omega
  ·have:=hc.own.1;have:=(List.getElem?_eq_some_iff.1 ht').1;omega
  ·obtain⟨cur,h⟩:=hc.own.at k hk;exact h.lt
  ·obtain⟨cur,h⟩:=g3.at k hk;exact h.lt
  ·obtain⟨cur,h⟩:=g4.at k hk;exact h.lt
  ·obtain⟨cur,h⟩:=g5.at k hk;exact h.lt
 ·obtain⟨cur,hc⟩:=ho1.at k hk;subst e;exact absurd rfl (hc.neT (At.ext ‹At w2 k _› E3) (by simp[tyO]))
end Go.Proofs.YtcbijkakoepglaaGreat
namespace Go.Proofs.YtcbijkakoepglaaGreat
open Go Go.Wx
set_option maxRecDepth 100000
def qI.R(Q:Int→World→Prop)(a:TTrialLine)(b:TTrialLine)(w:World):Prop:=(
 Al w (.cells #[vu a.Account_Kind,vi a.Account_Id,vs a.Unit,vi a.N] 49) fun b1 w1=>
 Al w1 (.cells #[vu b.Account_Kind,vi b.Account_Id,vs b.Unit,vi b.N] 49) fun b2 w2=>
 Dr w2 fun w3=>
 Cl Pg 129 #[vu a.Account_Kind,vu b.Account_Kind] w3 (fun v w4=>∃r1,v=vi r1∧Kp b1 w3 w4∧Kp b2 w3 w4∧Cl Pg 130 #[vi a.Account_Id,vi b.Account_Id] w4 (fun v w5=>∃r2,v=vi r2∧Kp b1 w4 w5∧Kp b2 w4 w5∧Cl Pg 131 #[vs a.Unit,vs b.Unit] w5 (fun v w6=>∃r3,v=vi r3∧Al w6 (.cells #[vi r1,vi r2,vi r3] 3) fun b3 w7=>
 Cl Pg 128 #[vl (some ⟨b3,0,none⟩) 3 3] w7 (fun v w8=>∃r4,v=vi r4∧Q r4 w8)))))
theorem qI.ok{Q:Int→World→Prop}{a:TTrialLine}{b:TTrialLine}{w:World}(h:qI.R Q a b w):Cl Pg 127 #[vg (TTrialLine.enc a),vg (TTrialLine.enc b)] w (fun v w'=>∃r0,v=vi r0∧Q r0 w'):=by
 refine aI (args:=[vg (TTrialLine.enc a),vg (TTrialLine.enc b)]) Tryz.func127 ?_
 unfold qI.R at h
 refine aC<|zq h fun b1 w1 _ _ q1 h=>zq h fun b2 w2 eb ew q2 h=>?_
 have o1:=q1
 replace q1:=fQ ew q1
 have n1_2:b1≠b2:=lR o1 eb
 clear o1
 clear eb ew
 refine zp 1<|aD<|drs iG [[],[],[],[],[],[],[2,5],[],[],[],[],[],[],[2,5,9,12],[],[],[],[],[2,5,9,12,15,17],[2,5,9,12,15,17],[2,5,9,12,15,17],[2,5,9,12,15,17]] [.p 0,.p 1,.l 2,.p 3,.p 4,.l 5,.p 7,.p 8,.l 9,.p 10,.p 11,.l 12,.p 14,.l 15,.p 16,.l 17,.e 6,.e 13,.e 18,.e 19,.e 20,.p 21] h fun w3 ew h=>?_
 replace q1:=dN ew q1
 replace q2:=dN ew q2
 refine zP 2<|zB tk5 q1<|zP 2<|zB tk5 q2<|zP 2<|zB tk3 q1<|zP 2<|zB tk3 q2<|zP 1<|zB tk9 q1<|zP 1<|zB tk9 q2<|zK h ?_
 rintro _ w4 ⟨r1,rfl,hk0,hk1,h⟩
 replace q1:=bG hk0 q1
 replace q2:=bG hk1 q2
 refine⟨AllOk.cons (jW (jO rfl rfl (fW tk9 (aV q2 rfl))))<|AllOk.cons (jW (jO rfl rfl (fW tk9 (aV q1 rfl))))<|AllOk.cons (jW (jO rfl rfl (fW tk3 (aV q2 rfl))))<|AllOk.cons (jW (jO rfl rfl (fW tk3 (aV q1 rfl))))<|AllOk.nil,?_⟩
 refine zK h ?_
 rintro _ w5 ⟨r2,rfl,hk0,hk1,h⟩
 replace q1:=bG hk0 q1
 replace q2:=bG hk1 q2
 refine⟨AllOk.cons (jW (jO rfl rfl (fW tk9 (aV q2 rfl))))<|AllOk.cons (jW (jO rfl rfl (fW tk9 (aV q1 rfl))))<|AllOk.nil,?_⟩
 refine zK h ?_
 rintro _ w6 ⟨r3,rfl,h⟩
 refine⟨AllOk.nil,?_⟩
 refine zV 3 h fun b3 w7 _ _ _ h=>⟨AllOk.nil,?_⟩
 refine zK h ?_
 rintro _ w8 ⟨r4,rfl,h⟩
 refine⟨AllOk.nil,?_⟩
 exact zP 1<|bF<|aN<|z1 ⟨_,rfl,h⟩
def mL.l1(Q:Int→World→Prop)(vals_a:Option Addr)(vals_n:Nat):Nat→Int→World→Prop
 | 0,_,_=>False
 | nl1+1,v1,w1=>(
 Ifb (decide (v1<((vals_n:Nat):Int)))
 (Ix vals_a vals_n v1 fun p1=>
 LdI .i64 w1 (Addr.add p1 (v1.toNat*1)) fun x1=>
 Ifb (x1 !=0)
 (Q x1 w1)
 ((mL.l1 Q vals_a vals_n nl1) (IntKind.wrap .i64 (v1+1)) w1))
 (Q 0 w1))
def mL.R(Q:Int→World→Prop)(vals_a:Option Addr)(vals_n:Nat)(vals_c:Nat)(w:World):Prop:=(
 ∃k,mL.l1 Q vals_a vals_n k 0 w)
theorem mL.ok{Q:Int→World→Prop}{vals_a:Option Addr}{vals_n:Nat}{vals_c:Nat}{w:World}(h:mL.R Q vals_a vals_n vals_c w):Cl Pg 128 #[vl vals_a vals_n vals_c] w (fun v w'=>∃r0,v=vi r0∧Q r0 w'):=by
 refine aI (args:=[vl vals_a vals_n vals_c]) Tryz.func128 ?_
 unfold mL.R at h
 refine aC<|zp 1<|aD<|aC<|zp 1<|aD<|aL<|aC<|zp 3<|aD<|aR ?_
 obtain⟨nl1,h⟩:=h
 refine bS (fun k e w1=>∃(e0:Env) (v1:Int),e=upds e0 [(3,vi 0),(6,vl vals_a vals_n vals_c),(7,vi (vals_n:Nat)),(8,vi v1)]∧mL.l1 Q vals_a vals_n k v1 w1) nl1 ?_ ?_ ?_
 rintro _ _ ⟨_,_,_,h⟩
 exact h
 exact⟨_,0,ag,h⟩
 clear h nl1
 rintro nl1 _ w1 ⟨e0,v1,rfl,h⟩
 unfold mL.l1 at h
 refine aC<|zp 1<|aD<|aL<|zc h (fun h=>?_) fun h=>?_
 refine aJ<|aL<|aR<|aC<|zi xB h fun p1 h=>zd tk3 h fun x1 hx1 h=>zp 1<|aD<|aC<|zp 3<|aD<|zc h (fun h=>?_) fun h=>?_
 exact aC<|zp 2<|aD<|aN<|bD<|aH<|aH<|bD<|aH<|z1 ⟨_,rfl,h⟩
 exact aJ<|aG<|aW<|zp 2<|aD<|⟨_,IntKind.wrap .i64 (v1+1),ag,h⟩
 exact dE<|aU<|aC<|zp 2<|aD<|aN<|z1 ⟨_,rfl,h⟩
def pK.R(Q:Int→World→Prop)(x:Int)(y:Int)(w:World):Prop:=(
 Cl Pg 174 #[vu x] w (fun v w1=>∃r1,v=vb r1∧Cl Pg 174 #[vu y] w1 (fun v w2=>∃r2,v=vb r2∧Ifb r1
 (Ifb r2
 (Q 0 w2)
 (Q (-1) w2))
 (Ifb r2
 (Q 1 w2)
 (Ifb (decide (x<y))
 (Q (-1) w2)
 (Ifb (decide (x>y))
 (Q 1 w2)
 (Q 0 w2)))))))
theorem pK.ok{Q:Int→World→Prop}{x:Int}{y:Int}{w:World}(h:pK.R Q x y w):Cl Pg 129 #[vu x,vu y] w (fun v w'=>∃r0,v=vi r0∧Q r0 w'):=by
 refine aI (args:=[vu x,vu y]) Tryz.func129 ?_
 unfold pK.R at h
 refine aC<|zp 1<|aD<|aC<|zp 1<|zk h ?_
 rintro _ w1 ⟨r1,rfl,h⟩
 refine zp 1<|aD<|aC<|zp 1<|zk h ?_
 rintro _ w2 ⟨r2,rfl,h⟩
 refine zp 1<|aD<|aL<|aC<|zp 1<|aD<|zc h (fun h=>?_) fun h=>?_
 refine aL<|aC<|zp 1<|aD<|zc h (fun h=>?_) fun h=>?_
 exact aC<|zp 1<|aD<|aN<|aH<|aH<|z1 ⟨_,rfl,h⟩
 exact aJ<|aC<|zp 1<|aD<|aN<|aH<|z1 ⟨_,rfl,h⟩
 refine aJ<|aL<|aC<|zp 1<|aD<|zc h (fun h=>?_) fun h=>?_
 exact aC<|zp 1<|aD<|aN<|aH<|z1 ⟨_,rfl,h⟩
 refine aJ<|aL<|aC<|zp 3<|aD<|zc h (fun h=>?_) fun h=>?_
 exact aC<|zp 1<|aD<|aN<|aH<|z1 ⟨_,rfl,h⟩
 refine aJ<|aL<|aC<|zp 3<|aD<|zc h (fun h=>?_) fun h=>?_
 exact aC<|zp 1<|aD<|aN<|aH<|z1 ⟨_,rfl,h⟩
 exact aJ<|aC<|zp 1<|aD<|aN<|z1 ⟨_,rfl,h⟩
def qJ.R(Q:Int→World→Prop)(x:Int)(y:Int)(w:World):Prop:=(
 Cl Pg 175 #[vi x] w (fun v w1=>∃r1,v=vb r1∧Cl Pg 175 #[vi y] w1 (fun v w2=>∃r2,v=vb r2∧Ifb r1
 (Ifb r2
 (Q 0 w2)
 (Q (-1) w2))
 (Ifb r2
 (Q 1 w2)
 (Ifb (decide (x<y))
 (Q (-1) w2)
 (Ifb (decide (x>y))
 (Q 1 w2)
 (Q 0 w2)))))))
theorem qJ.ok{Q:Int→World→Prop}{x:Int}{y:Int}{w:World}(h:qJ.R Q x y w):Cl Pg 130 #[vi x,vi y] w (fun v w'=>∃r0,v=vi r0∧Q r0 w'):=by
 refine aI (args:=[vi x,vi y]) Tryz.func130 ?_
 unfold qJ.R at h
 refine aC<|zp 1<|aD<|aC<|zp 1<|zk h ?_
 rintro _ w1 ⟨r1,rfl,h⟩
 refine zp 1<|aD<|aC<|zp 1<|zk h ?_
 rintro _ w2 ⟨r2,rfl,h⟩
 refine zp 1<|aD<|aL<|aC<|zp 1<|aD<|zc h (fun h=>?_) fun h=>?_
 refine aL<|aC<|zp 1<|aD<|zc h (fun h=>?_) fun h=>?_
 exact aC<|zp 1<|aD<|aN<|aH<|aH<|z1 ⟨_,rfl,h⟩
 exact aJ<|aC<|zp 1<|aD<|aN<|aH<|z1 ⟨_,rfl,h⟩
 refine aJ<|aL<|aC<|zp 1<|aD<|zc h (fun h=>?_) fun h=>?_
 exact aC<|zp 1<|aD<|aN<|aH<|z1 ⟨_,rfl,h⟩
 refine aJ<|aL<|aC<|zp 3<|aD<|zc h (fun h=>?_) fun h=>?_
 exact aC<|zp 1<|aD<|aN<|aH<|z1 ⟨_,rfl,h⟩
 refine aJ<|aL<|aC<|zp 3<|aD<|zc h (fun h=>?_) fun h=>?_
 exact aC<|zp 1<|aD<|aN<|aH<|z1 ⟨_,rfl,h⟩
 exact aJ<|aC<|zp 1<|aD<|aN<|z1 ⟨_,rfl,h⟩
def o7.R(Q:Int→World→Prop)(x:ByteArray)(y:ByteArray)(w:World):Prop:=(
 Cl Pg 176 #[vs x] w (fun v w1=>∃r1,v=vb r1∧Cl Pg 176 #[vs y] w1 (fun v w2=>∃r2,v=vb r2∧Ifb r1
 (Ifb r2
 (Q 0 w2)
 (Q (-1) w2))
 (Ifb r2
 (Q 1 w2)
 (Ifb (iO x y)
 (Q (-1) w2)
 (Ifb (!(iO x y||dF x y))
 (Q 1 w2)
 (Q 0 w2)))))))
theorem o7.ok{Q:Int→World→Prop}{x:ByteArray}{y:ByteArray}{w:World}(h:o7.R Q x y w):Cl Pg 131 #[vs x,vs y] w (fun v w'=>∃r0,v=vi r0∧Q r0 w'):=by
 refine aI (args:=[vs x,vs y]) Tryz.func131 ?_
 unfold o7.R at h
 refine aC<|zp 1<|aD<|aC<|zp 1<|zk h ?_
 rintro _ w1 ⟨r1,rfl,h⟩
 refine zp 1<|aD<|aC<|zp 1<|zk h ?_
 rintro _ w2 ⟨r2,rfl,h⟩
 refine zp 1<|aD<|aL<|aC<|zp 1<|aD<|zc h (fun h=>?_) fun h=>?_
 refine aL<|aC<|zp 1<|aD<|zc h (fun h=>?_) fun h=>?_
 exact aC<|zp 1<|aD<|aN<|aH<|aH<|z1 ⟨_,rfl,h⟩
 exact aJ<|aC<|zp 1<|aD<|aN<|aH<|z1 ⟨_,rfl,h⟩
 refine aJ<|aL<|aC<|zp 1<|aD<|zc h (fun h=>?_) fun h=>?_
 exact aC<|zp 1<|aD<|aN<|aH<|z1 ⟨_,rfl,h⟩
 refine aJ<|aL<|aC<|zp 3<|aD<|zc h (fun h=>?_) fun h=>?_
 exact aC<|zp 1<|aD<|aN<|aH<|z1 ⟨_,rfl,h⟩
 refine aJ<|aL<|aC<|zp 3<|aD<|zc h (fun h=>?_) fun h=>?_
 exact aC<|zp 1<|aD<|aN<|aH<|z1 ⟨_,rfl,h⟩
 exact aJ<|aC<|zp 1<|aD<|aN<|z1 ⟨_,rfl,h⟩
def oI.R(Q:Option Addr→Nat→Nat→World→Prop)(l_a:Option Addr)(l_n:Nat)(l_c:Nat)(key:Value)(w:World):Prop:=(
 aAO key=true∧Al w (.cells #[key] 172) fun b1 w1=>
 Cl Pg 177 #[vl l_a l_n l_c,.func (.func 178) #[] #[vp ⟨b1,0,none⟩]] w1 (fun v w2=>v= .tuple #[]∧Q l_a l_n l_c w2))
theorem oI.ok{Q:Option Addr→Nat→Nat→World→Prop}{l_a:Option Addr}{l_n:Nat}{l_c:Nat}{key:Value}{w:World}(h:oI.R Q l_a l_n l_c key w):Cl Pg 137 #[vl l_a l_n l_c,key] w (fun v w'=>∃r0a r0n r0c,v=vl r0a r0n r0c∧Q r0a r0n r0c w'):=by
 refine aI (args:=[vl l_a l_n l_c,key]) Tryz.func137 ?_
 unfold oI.R at h
 refine aC ?_
 obtain⟨hone,h⟩:=h
 refine aG7 (obj:= .cells #[key] 172) (vf:=fun b=> .pointer (some ⟨b,0,none⟩)) rfl rfl (aCq rfl rfl hone) ?_
 intro b1 w1 eb ew
 replace h:=Al.at h eb ew
 have q1:=wC eb ew
 clear eb ew q1
 refine zp 1<|aD<|aC<|zp 2<|zk h ?_
 rintro _ w2 ⟨rfl,h⟩
 exact aD<|aC<|zp 2<|aD<|aN<|z1 ⟨_,_,_,rfl,h⟩
def oH.R(Q:Int→Int→World→Prop)(x:TLot)(w:World):Prop:=(
 Al w (.cells #[vi x.Id,vi x.Thing,vi x.Layer,vi x.Day,vi x.Due,vs x.Unit,vi x.N,vi x.Left,vu x.State,vi x.Bag] 45) fun b1 w1=>
 Dr w1 fun w2=>
 Q x.Due x.Id w2)
theorem oH.ok{Q:Int→Int→World→Prop}{x:TLot}{w:World}(h:oH.R Q x w):Cl Pg 138 #[vg (TLot.enc x)] w (fun v w'=>∃r0 r1,v= .tuple #[vi r0,vi r1]∧Q r0 r1 w'):=by
 refine aI (args:=[vg (TLot.enc x)]) Tryz.func138 ?_
 unfold oH.R at h
 refine aC<|zq h fun b1 w1 _ _ q1 h=>zp 2<|aD<|drs iG [[],[],[],[],[1],[1,3]] [.p 0,.l 1,.p 2,.l 3,.p 4,.p 5] h fun w2 ew h=>?_
 replace q1:=dN ew q1
 exact zP 1<|zB tk3 q1<|zP 1<|zB tk3 q1<|zP 2<|bF<|aN<|z2 ⟨_,_,rfl,h⟩
def rG.R(Q:Int→World→Prop)(a:TAmount)(b:TAmount)(w:World):Prop:=(
 Al w (.cells #[vs a.Unit,vi a.N] 58) fun b1 w1=>
 Al w1 (.cells #[vs b.Unit,vi b.N] 58) fun b2 w2=>
 Cl Pg 131 #[vs a.Unit,vs b.Unit] w2 (fun v w3=>∃r1,v=vi r1∧Q r1 w3))
theorem rG.ok{Q:Int→World→Prop}{a:TAmount}{b:TAmount}{w:World}(h:rG.R Q a b w):Cl Pg 146 #[vg (TAmount.enc a),vg (TAmount.enc b)] w (fun v w'=>∃r0,v=vi r0∧Q r0 w'):=by
 refine aI (args:=[vg (TAmount.enc a),vg (TAmount.enc b)]) Tryz.func146 ?_
 unfold rG.R at h
 refine aC<|zq h fun b1 w1 _ _ q1 h=>zq h fun b2 w2 eb ew q2 h=>?_
 have o1:=q1
 replace q1:=fQ ew q1
 have n1_2:b1≠b2:=lR o1 eb
 clear o1
 clear eb ew
 refine zp 1<|aD<|aC<|zp 1<|zb tk9 q1<|zp 1<|zb tk9 q2<|zk h ?_
 rintro _ w3 ⟨r1,rfl,h⟩
 exact zp 1<|aD<|aN<|z1 ⟨_,rfl,h⟩
def mK.R(Q:Bool→World→Prop)(x:Int)(w:World):Prop:=(
 Q (x !=x) w)
theorem mK.ok{Q:Bool→World→Prop}{x:Int}{w:World}(h:mK.R Q x w):Cl Pg 174 #[vu x] w (fun v w'=>∃r0,v=vb r0∧Q r0 w'):=by
 refine aI (args:=[vu x]) Tryz.func174 ?_
 unfold mK.R at h
 exact aC<|zp 1<|aD<|aC<|zp 4<|aD<|aN<|z1 ⟨_,rfl,h⟩
def nZ.R(Q:Bool→World→Prop)(x:Int)(w:World):Prop:=(
 Q (x !=x) w)
theorem nZ.ok{Q:Bool→World→Prop}{x:Int}{w:World}(h:nZ.R Q x w):Cl Pg 175 #[vi x] w (fun v w'=>∃r0,v=vb r0∧Q r0 w'):=by
 refine aI (args:=[vi x]) Tryz.func175 ?_
 unfold nZ.R at h
 exact aC<|zp 1<|aD<|aC<|zp 4<|aD<|aN<|z1 ⟨_,rfl,h⟩
def l7.R(Q:Bool→World→Prop)(x:ByteArray)(w:World):Prop:=(
 Q (!dF x x) w)
theorem l7.ok{Q:Bool→World→Prop}{x:ByteArray}{w:World}(h:l7.R Q x w):Cl Pg 176 #[vs x] w (fun v w'=>∃r0,v=vb r0∧Q r0 w'):=by
 refine aI (args:=[vs x]) Tryz.func176 ?_
 unfold l7.R at h
 exact aC<|zp 1<|aD<|aC<|zp 4<|aD<|aN<|z1 ⟨_,rfl,h⟩
def m9.R(Q:Int→World→Prop)(a:TLot)(b:TLot)(p2_2:Addr)(w:World):Prop:=(
 Al w (.cells #[vi a.Id,vi a.Thing,vi a.Layer,vi a.Day,vi a.Due,vs a.Unit,vi a.N,vi a.Left,vu a.State,vi a.Bag] 45) fun b1 w1=>
 Al w1 (.cells #[vi b.Id,vi b.Thing,vi b.Layer,vi b.Day,vi b.Due,vs b.Unit,vi b.N,vi b.Left,vu b.State,vi b.Bag] 45) fun b2 w2=>
 LdV w2 p2_2 fun x1=>
 Clv Pg x1 #[vg [vi a.Id,vi a.Thing,vi a.Layer,vi a.Day,vi a.Due,vs a.Unit,vi a.N,vi a.Left,vu a.State,vi a.Bag]] w2 (fun v w3=>∃r1 r2,v= .tuple #[vi r1,vi r2]∧Kp b2 w2 w3∧LdV w3 p2_2 fun x2=>
 Clv Pg x2 #[vg [vi b.Id,vi b.Thing,vi b.Layer,vi b.Day,vi b.Due,vs b.Unit,vi b.N,vi b.Left,vu b.State,vi b.Bag]] w3 (fun v w4=>∃r3 r4,v= .tuple #[vi r3,vi r4]∧Cl Pg 130 #[vi r1,vi r3] w4 (fun v w5=>∃r5,v=vi r5∧Cl Pg 130 #[vi r2,vi r4] w5 (fun v w6=>∃r6,v=vi r6∧Al w6 (.cells #[vi r5,vi r6] 3) fun b3 w7=>
 Cl Pg 128 #[vl (some ⟨b3,0,none⟩) 2 2] w7 (fun v w8=>∃r7,v=vi r7∧Q r7 w8))))))
theorem m9.ok{Q:Int→World→Prop}{a:TLot}{b:TLot}{p2_2:Addr}{w:World}(h:m9.R Q a b p2_2 w):Cl Pg 178 #[vg (TLot.enc a),vg (TLot.enc b),vp p2_2] w (fun v w'=>∃r0,v=vi r0∧Q r0 w'):=by
 refine aI (args:=[vg (TLot.enc a),vg (TLot.enc b),vp p2_2]) Tryz.func178 ?_
 unfold m9.R at h
 refine aC<|zq h fun b1 w1 _ _ q1 h=>zq h fun b2 w2 eb ew q2 h=>?_
 have o1:=q1
 replace q1:=fQ ew q1
 have n1_2:b1≠b2:=lR o1 eb
 clear o1
 clear eb ew
 refine zp 1<|aD<|aC<|zd tk172 h fun x1 hx1 h=>zm jU q1<|zx h ?_
 rintro _ w3 ⟨r1,r2,rfl,hk0,h⟩
 replace q2:=bG hk0 q2
 refine zp 5<|aD<|aC<|zd tk172 h fun x2 hx2 h=>zm jU q2<|zx h ?_
 rintro _ w4 ⟨r3,r4,rfl,h⟩
 refine zp 5<|aD<|aC<|zp 2<|zk h ?_
 rintro _ w5 ⟨r5,rfl,h⟩
 refine zp 2<|zk h ?_
 rintro _ w6 ⟨r6,rfl,h⟩
 refine zv 2 h fun b3 w7 _ _ _ h=>zk h ?_
 rintro _ w8 ⟨r7,rfl,h⟩
 exact zp 1<|aD<|aN<|z1 ⟨_,rfl,h⟩
end Go.Proofs.YtcbijkakoepglaaGreat
namespace Go.Proofs.YtcbijkakoepglaaGreat
open Go Go.Wx
def wY(a b:Int):Int:=if a<b then -1 else if a>b then 1 else 0
def aCt(x y:ByteArray):Int:=if iO x y then -1 else if !(iO x y||dF x y)then 1 else 0
def rD:List Int→Int
 |[]=>0
 | x::xs=>if x !=0 then x else rD xs
theorem nY(x:ByteArray):dF x x=true:=by simp[dF]
theorem or_c{w:World}{a:Option Addr}{n c:Nat}{xs:List Int}{Q:Int→World→Prop}(hr:Rd (fun x=>[vi x]) 1 w a n xs)(hn:n≤maxLen)
 (hQ:∀w',Ext w w'→Q (rD xs) w'):Cl Pg 128 #[vl a n c] w (fun v w'=>∃r,v=vi r∧Q r w'):=by
 refine mL.ok ⟨n+1,?_⟩;have key:∀m i w',i+m=n→Ext w w'→(∀w',Ext w w'→Q (rD (xs.drop i)) w')→mL.l1 Q a n (m+1) (i:Nat) w':=by
  intro m;induction m with
  | zero=>
   intro i w' hi E hQ;unfold mL.l1;refine dK (by omega) ?_;rw[List.drop_of_length_le (by have:=hr.1;omega)]at hQ;exact hQ _ E
  | succ m ih=>
   intro i w' hi E hQ;unfold mL.l1;refine dQ (by omega) ((hr.ext E).ix (by omega) (by omega) fun a0 x ha hx hc=>⟨x,by have:=hc.at 0 rfl;rwa[rI,Nat.add_zero]at this,ifb ?_⟩);simp only[Int.toNat_natCast]at hx;obtain⟨hl,hx⟩:=List.getElem?_eq_some_iff.1 hx;rw[List.drop_eq_getElem_cons hl,hx]at hQ;simp only[rD]at hQ;split
   ·rename_i h;rw[if_pos h]at hQ;exact hQ _ E
   ·rename_i h;rw[if_neg h]at hQ;rw[fO (n:=n) (by omega) (by omega) hn];exact ih (i+1) w' (by omega) E hQ
 exact key n 0 w (by omega) (er w) (by simpa using hQ)
theorem cmp129{w:World}{x y:Int}{Q:Int→World→Prop}(hQ:Q (wY x y) w):Cl Pg 129 #[vu x,vu y] w (fun v w'=>∃r,v=vi r∧Q r w'):=by
 refine pK.ok (mK.ok ?_);unfold mK.R;refine mK.ok ?_;unfold mK.R;simp only[bne_self_eq_false];refine jJ (jJ (ifb ?_));unfold wY at hQ;split
 ·rename_i h;rw[if_pos (of_decide_eq_true h)]at hQ;exact hQ
 ·rename_i h;rw[if_neg (by simpa using h)]at hQ;refine ifb ?_;split
  ·rename_i h;rw[if_pos (of_decide_eq_true h)]at hQ;exact hQ
  ·rename_i h;rw[if_neg (by simpa using h)]at hQ;exact hQ
theorem aEZ{w:World}{x y:Int}{Q:Int→World→Prop}(hQ:Q (wY x y) w):Cl Pg 130 #[vi x,vi y] w (fun v w'=>∃r,v=vi r∧Q r w'):=by
 refine qJ.ok (nZ.ok ?_);unfold nZ.R;refine nZ.ok ?_;unfold nZ.R;simp only[bne_self_eq_false];refine jJ (jJ (ifb ?_));unfold wY at hQ;split
 ·rename_i h;rw[if_pos (of_decide_eq_true h)]at hQ;exact hQ
 ·rename_i h;rw[if_neg (by simpa using h)]at hQ;refine ifb ?_;split
  ·rename_i h;rw[if_pos (of_decide_eq_true h)]at hQ;exact hQ
  ·rename_i h;rw[if_neg (by simpa using h)]at hQ;exact hQ
theorem aGX{w:World}{x y:ByteArray}{Q:Int→World→Prop}(hQ:Q (aCt x y) w):Cl Pg 131 #[vs x,vs y] w (fun v w'=>∃r,v=vi r∧Q r w'):=by
 refine o7.ok (l7.ok ?_);unfold l7.R;refine l7.ok ?_;unfold l7.R;simp only[nY,Bool.not_true];refine jJ (jJ (ifb ?_));unfold aCt at hQ;split
 ·rename_i h;rw[if_pos h]at hQ;exact hQ
 ·rename_i h;rw[if_neg h]at hQ;refine ifb ?_;split
  ·rename_i h;rw[if_pos h]at hQ;exact hQ
  ·rename_i h;rw[if_neg h]at hQ;exact hQ
def aA2{α:Type}(f:Value)(enc:α→List Value)(cf:α→α→Int)(S:Nat→Prop)(w0:World):Prop:=
 ∀x y w,Frm S w0 w→∀K:Int→World→Prop,(∀w',Ext w w'→K (cf x y) w')→Clv Pg f #[vg (enc x),vg (enc y)] w (fun v w'=>∃r,v=vi r∧K r w')
def vY(a b:TAmount):Int:=aCt a.Unit b.Unit
def aCv(a b:TTrialLine):Int:=rD [wY a.Account_Kind b.Account_Kind,wY a.Account_Id b.Account_Id,aCt a.Unit b.Unit]
def uH(a b:TLot):Int:=rD [wY a.Due b.Due,wY a.Id b.Id]
theorem aEY(S:Nat→Prop)(w0:World):aA2 (.func (.func 146) #[] #[]) TAmount.enc vY S w0:=by
 intro x y w _ K hK;refine oT (rG.ok (bW (er w) fun b1 w1 _ _ E _ _=>bW E fun b2 w2 _ _ E _ _=>aGX (hK _ E)))
theorem qX{w:World}{b:Nat}{T:TypeId}{fr:Nat × Nat}(l:List Int)(h:At w b (.cells (l.map vi).toArray T fr)):Rd (fun x=>[vi x]) 1 w (some ⟨b,0,none⟩) l.length l:=by
 refine⟨rfl,fun h=>(by cases h),fun a0 ha i y hy=>?_⟩;cases ha;rw[Nat.mul_one,mC];refine Cells.of_at h ?_;obtain⟨hi,rfl⟩:=List.getElem?_eq_some_iff.1 hy;simp only[List.length_singleton,Nat.zero_add];rw[List.drop_eq_getElem_cons (by simpa using hi)];simp
theorem aGW(S:Nat→Prop)(w0:World):aA2 (.func (.func 127) #[] #[]) TTrialLine.enc aCv S w0:=by
 intro x y w _ K hK;refine oT (qI.ok (bW (er w) fun b1 w1 _ h1 E _ _=>bW E fun b2 w2 _ h2 E _ _=>iS E fun w3 E _=>cmp129 ⟨rfl,rfl,aEZ ⟨rfl,rfl,aGX (bW E fun b3 w4 _ hat E _ _=>?_)⟩⟩));exact or_c (qX [wY x.Account_Kind y.Account_Kind,wY x.Account_Id y.Account_Id,aCt x.Unit y.Unit] hat) (by simp only[maxLen];omega) fun w' E'=>hK _ (E.ext E')
theorem key138(x:TLot){w:World}{K:Int→Int→World→Prop}(hK:∀w',Ext w w'→K x.Due x.Id w'):Clv Pg (.func (.func 138) #[] #[]) #[vg (TLot.enc x)] w (fun v w'=>∃r1 r2,v= .tuple #[vi r1,vi r2]∧K r1 r2 w'):=
 oT (oH.ok (bW (er w) fun b1 w1 _ h1 E _ _=>iS E fun w3 E _=>hK _ E))
def aE3(f:Value):Prop:=∀(x:TLot) (w:World) (K:Int→Int→World→Prop),(∀w',Ext w w'→K x.Due x.Id w')→Clv Pg f #[vg (TLot.enc x)] w (fun v w'=>∃r1 r2,v= .tuple #[vi r1,vi r2]∧K r1 r2 w')
theorem cmpsLot{f:Value}(hf:aE3 f){S:Nat→Prop}{w0:World}{b:Nat}{T:TypeId}(hat:At w0 b (.cells #[f] T (0,0)))(hS:¬S b):aA2 (.func (.func 178) #[] #[vp ⟨b,0,none⟩]) TLot.enc uH S w0:=by
 intro x y w E0 K hK;refine oT (m9.ok (bW (er w) fun b1 w1 _ h1 E _ _=>bW E fun b2 w2 _ h2 E _ _=>⟨f,aV ((hat.frm E0 hS).ext E) rfl,?_⟩));refine hf x w2 _ fun w3 E3=>⟨E3.blk _ h2.lt id,f,aV (((hat.frm E0 hS).ext E).ext E3) rfl,?_⟩;refine hf y w3 _ fun w4 E4=>aEZ (aEZ (bW ((E.ext E3).ext E4) fun b3 w5 _ hat E _ _=>?_));exact or_c (qX [wY x.Due y.Due,wY x.Id y.Id] hat) (by simp only[maxLen];omega) fun w' E'=>hK _ (E.ext E')
end Go.Proofs.YtcbijkakoepglaaGreat
namespace Go.Proofs.YtcbijkakoepglaaGreat
open Go Go.Wx
set_option maxRecDepth 100000
def aP.j1(Q:World→Prop)(data_a:Option Addr)(data_n:Nat)(v1:Int)(kl1:Int→World→Prop)(v2:Int)(kl2:Int→World→Prop)(v3:Bool)(w3:World):Prop:=(
 Ifb v3
 (Dr w3 fun w4=>
 Ix data_a data_n (IntKind.wrap .i64 (v2-1)) fun p1=>
 LdT TLot.enc w4 (Addr.add p1 ((IntKind.wrap .i64 (v2-1)).toNat*10)) fun x1=>
 Ix data_a data_n v2 fun p2=>
 LdT TLot.enc w4 (Addr.add p2 (v2.toNat*10)) fun x2=>
 Ix data_a data_n v2 fun p3=>
 St w4 (Addr.add p3 (v2.toNat*10)) (TLot.enc x1) fun w5=>
 Ix data_a data_n (IntKind.wrap .i64 (v2-1)) fun p4=>
 St w5 (Addr.add p4 ((IntKind.wrap .i64 (v2-1)).toNat*10)) (TLot.enc x2) fun w6=>
 kl2 (IntKind.wrap .i64 (v2-1)) w6)
 (kl1 (IntKind.wrap .i64 (v1+1)) w3))
def aP.l2(Q:World→Prop)(data_a:Option Addr)(data_n:Nat)(a:Int)(cmp:Value)(v1:Int)(kl1:Int→World→Prop):Nat→Int→World→Prop
 | 0,_,_=>False
 | nl2+1,v2,w2=>(
 Dr w2 fun w7=>
 Ifb (decide (v2>a))
 (Ix data_a data_n v2 fun p5=>
 LdT TLot.enc w7 (Addr.add p5 (v2.toNat*10)) fun x3=>
 Ix data_a data_n (IntKind.wrap .i64 (v2-1)) fun p6=>
 LdT TLot.enc w7 (Addr.add p6 ((IntKind.wrap .i64 (v2-1)).toNat*10)) fun x4=>
 Clv Pg cmp #[vg (TLot.enc x3),vg (TLot.enc x4)] w7 (fun v w8=>∃r1,v=vi r1∧aP.j1 Q data_a data_n v1 kl1 v2 (aP.l2 Q data_a data_n a cmp v1 kl1 nl2) (decide (r1<0)) w8))
 (aP.j1 Q data_a data_n v1 kl1 v2 (aP.l2 Q data_a data_n a cmp v1 kl1 nl2) false w7))
def aP.l1(Q:World→Prop)(data_a:Option Addr)(data_n:Nat)(a:Int)(b:Int)(cmp:Value):Nat→Int→World→Prop
 | 0,_,_=>False
 | nl1+1,v1,w1=>(
 Ifb (decide (v1<b))
 (∃k,aP.l2 Q data_a data_n a cmp v1 (aP.l1 Q data_a data_n a b cmp nl1) k v1 w1)
 (Q w1))
def aP.R(Q:World→Prop)(data_a:Option Addr)(data_n:Nat)(data_c:Nat)(a:Int)(b:Int)(cmp:Value)(w:World):Prop:=(
 ∃k,aP.l1 Q data_a data_n a b cmp k (IntKind.wrap .i64 (a+1)) w)
theorem aP.ok{Q:World→Prop}{data_a:Option Addr}{data_n:Nat}{data_c:Nat}{a:Int}{b:Int}{cmp:Value}{w:World}(h:aP.R Q data_a data_n data_c a b cmp w):Cl Pg 212 #[vl data_a data_n data_c,vi a,vi b,cmp] w (fun v w'=>v= .tuple #[]∧Q w'):=by
 refine aI (args:=[vl data_a data_n data_c,vi a,vi b,cmp]) Tryz.func212 ?_
 unfold aP.R at h
 refine aC<|zp 3<|aD<|aR ?_
 obtain⟨nl1,h⟩:=h
 refine bS (fun k e w1=>∃(e0:Env) (v1:Int),e=upds e0 [(0,vl data_a data_n data_c),(1,vi a),(2,vi b),(3,cmp),(8,vi v1)]∧aP.l1 Q data_a data_n a b cmp k v1 w1) nl1 ?_ ?_ ?_
 rintro _ _ ⟨_,_,_,h⟩
 exact h
 exact⟨_,IntKind.wrap .i64 (a+1),ag,h⟩
 clear h nl1
 rintro nl1 _ w1 ⟨e0,v1,rfl,h⟩
 unfold aP.l1 at h
 refine aL<|aC<|zp 3<|aD<|zc h (fun h=>?_) fun h=>?_
 refine aJ<|aL<|aR<|aC<|zp 2<|aD<|aR ?_
 obtain⟨nl2,h⟩:=h
 refine bS (fun k e w2=>∃(e0:Env) (v2:Int),e=upds e0 [(0,vl data_a data_n data_c),(1,vi a),(2,vi b),(3,cmp),(8,vi v1),(9,vi v2)]∧aP.l2 Q data_a data_n a cmp v1 (aP.l1 Q data_a data_n a b cmp nl1) k v2 w2) nl2 ?_ ?_ ?_
 rintro _ _ ⟨_,_,_,h⟩
 exact h
 exact⟨_,v1,ag,h⟩
 clear h nl2
 rintro nl2 _ w2 ⟨e0,v2,rfl,h⟩
 unfold aP.l2 at h
 refine aL<|fD (fun e w3=>∃(e0:Env) (v3:Bool),e=upds e0 [(0,vl data_a data_n data_c),(1,vi a),(2,vi b),(3,cmp),(8,vi v1),(9,vi v2),(34,vb v3)]∧aP.j1 Q data_a data_n v1 (aP.l1 Q data_a data_n a b cmp nl1) v2 (aP.l2 Q data_a data_n a cmp v1 (aP.l1 Q data_a data_n a b cmp nl1) nl2) v3 w3) ?_ ?_
 refine drw iG [[],[],[],[],[],[],[],[],[],[],[],[],[],[],[8,13],[8,13],[8,13]] [.p 0,.p 1,.p 2,.p 3,.p 4,.p 5,.p 6,.p 7,.l 8,.p 9,.p 10,.p 11,.p 12,.l 13,.e 14,.p 15,.p 16] h fun w7 _ h=>zP 4<|zS 21 h (fun h=>?_) fun h=>?_
 refine zP 3<|zI dX h fun p5 h=>?_
 obtain⟨x3,hx3,h⟩:=h
 refine zN jU hx3<|zP 3<|zI dX h fun p6 h=>?_
 obtain⟨x4,hx4,h⟩:=h
 refine zN jU hx4<|zX h ?_
 rintro _ w8 ⟨r1,rfl,h⟩
 refine⟨AllOk.nil,?_⟩
 exact zP 2<|bF<|⟨_,decide (r1<0),ag,h⟩
 exact zP 4<|ze<|zP 4<|ze<|zE<|zP 2<|bF<|⟨_,false,ag,h⟩
 clear h
 rintro _ w3 ⟨e0,v3,rfl,h⟩
 unfold aP.j1 at h
 refine zc h (fun h=>?_) fun h=>?_
 refine aJ<|aL<|aR<|drw iG [[],[],[],[],[],[],[],[],[],[],[],[],[],[],[9,13],[9,13],[9,13],[9,13]] [.p 0,.p 1,.p 2,.p 3,.p 4,.p 5,.p 6,.p 7,.p 8,.l 9,.p 10,.p 11,.p 12,.l 13,.p 14,.e 15,.p 16,.e 17] h fun w4 _ h=>zP 8<|zI dX h fun p1 h=>?_
 obtain⟨x1,hx1,h⟩:=h
 refine zN jU hx1<|zP 2<|zI dX h fun p2 h=>?_
 obtain⟨x2,hx2,h⟩:=h
 refine zN jU hx2<|zI dX h fun p3 h=>zU jU h ?_
 rintro w5 h
 refine⟨AllOk.nil,?_⟩
 refine zI dX h fun p4 h=>zU jU h ?_
 rintro w6 h
 refine⟨AllOk.nil,?_⟩
 exact bF<|aG<|aW<|zp 3<|aD<|⟨_,IntKind.wrap .i64 (v2-1),ag,h⟩
 exact dE<|aU<|aG<|aW<|zp 3<|aD<|⟨_,IntKind.wrap .i64 (v1+1),ag,h⟩
 exact dE<|aU<|vG<|uA rfl ⟨rfl,h⟩
def aX.l3(Q:World→Prop)(data_a:Option Addr)(data_n:Nat)(data_c:Nat)(n:Int)(cmp:Value)(v3:Int)(kl2:Int→World→Prop):Nat→Int→Int→World→Prop
 | 0,_,_,_=>False
 | nl3+1,v4,v5,w5=>(
 Ifb (decide (v5≤n))
 (Cl Pg 213 #[vl data_a data_n data_c,vi v4,vi (IntKind.wrap .i64 (v4+v3)),vi v5,cmp] w5 (fun v w6=>v= .tuple #[]∧(aX.l3 Q data_a data_n data_c n cmp v3 kl2 nl3) v5 (IntKind.wrap .i64 (v5+(IntKind.wrap .i64 ((2:Int)*v3)))) w6))
 (Ifb (decide ((IntKind.wrap .i64 (v4+v3))<n))
 (Cl Pg 213 #[vl data_a data_n data_c,vi v4,vi (IntKind.wrap .i64 (v4+v3)),vi n,cmp] w5 (fun v w7=>v= .tuple #[]∧kl2 (IntKind.wrap .i64 (v3*2)) w7))
 (kl2 (IntKind.wrap .i64 (v3*2)) w5)))
def aX.l2(Q:World→Prop)(data_a:Option Addr)(data_n:Nat)(data_c:Nat)(n:Int)(cmp:Value):Nat→Int→World→Prop
 | 0,_,_=>False
 | nl2+1,v3,w4=>(
 Ifb (decide (v3<n))
 (∃k,aX.l3 Q data_a data_n data_c n cmp v3 (aX.l2 Q data_a data_n data_c n cmp nl2) k 0 (IntKind.wrap .i64 ((2:Int)*v3)) w4)
 (Q w4))
def aX.l1(Q:World→Prop)(data_a:Option Addr)(data_n:Nat)(data_c:Nat)(n:Int)(cmp:Value):Nat→Int→Int→World→Prop
 | 0,_,_,_=>False
 | nl1+1,v1,v2,w1=>(
 Ifb (decide (v2≤n))
 (Cl Pg 212 #[vl data_a data_n data_c,vi v1,vi v2,cmp] w1 (fun v w2=>v= .tuple #[]∧(aX.l1 Q data_a data_n data_c n cmp nl1) v2 (IntKind.wrap .i64 (v2+20)) w2))
 (Cl Pg 212 #[vl data_a data_n data_c,vi v1,vi n,cmp] w1 (fun v w3=>v= .tuple #[]∧∃k,aX.l2 Q data_a data_n data_c n cmp k 20 w3)))
def aX.R(Q:World→Prop)(data_a:Option Addr)(data_n:Nat)(data_c:Nat)(n:Int)(cmp:Value)(w:World):Prop:=(
 ∃k,aX.l1 Q data_a data_n data_c n cmp k 0 20 w)
theorem aX.ok{Q:World→Prop}{data_a:Option Addr}{data_n:Nat}{data_c:Nat}{n:Int}{cmp:Value}{w:World}(h:aX.R Q data_a data_n data_c n cmp w):Cl Pg 198 #[vl data_a data_n data_c,vi n,cmp] w (fun v w'=>v= .tuple #[]∧Q w'):=by
 refine aI (args:=[vl data_a data_n data_c,vi n,cmp]) Tryz.func198 ?_
 unfold aX.R at h
 refine aC<|zp 1<|aD<|aC<|zp 3<|aD<|aL<|aR ?_
 obtain⟨nl1,h⟩:=h
 refine bS (fun k e w1=>∃(e0:Env) (v1:Int) (v2:Int),e=upds e0 [(0,vl data_a data_n data_c),(1,vi n),(2,cmp),(6,vi 20),(7,vi v1),(8,vi v2)]∧aX.l1 Q data_a data_n data_c n cmp k v1 v2 w1) nl1 ?_ ?_ ?_
 rintro _ _ ⟨_,_,_,_,h⟩
 exact h
 exact⟨_,0,20,ag,h⟩
 clear h nl1
 rintro nl1 _ w1 ⟨e0,v1,v2,rfl,h⟩
 unfold aX.l1 at h
 refine aL<|aC<|zp 3<|aD<|zc h (fun h=>?_) fun h=>?_
 refine aJ<|aR<|aC<|zp 4<|zk h ?_
 rintro _ w2 ⟨rfl,h⟩
 exact aD<|aC<|zp 2<|aD<|aW<|zp 4<|aD<|aG<|⟨_,v2,IntKind.wrap .i64 (v2+20),ag,h⟩
 refine dE<|aU<|aC<|zp 4<|zk h ?_
 rintro _ w3 ⟨rfl,h⟩
 refine aD<|aR ?_
 obtain⟨nl2,h⟩:=h
 refine bS (fun k e w4=>∃(e0:Env) (v3:Int),e=upds e0 [(0,vl data_a data_n data_c),(1,vi n),(2,cmp),(6,vi v3)]∧aX.l2 Q data_a data_n data_c n cmp k v3 w4) nl2 ?_ ?_ ?_
 rintro _ _ ⟨_,_,_,h⟩
 exact h
 exact⟨_,20,ag,h⟩
 clear h nl2
 rintro nl2 _ w4 ⟨e0,v3,rfl,h⟩
 unfold aX.l2 at h
 refine aL<|aC<|zp 3<|aD<|zc h (fun h=>?_) fun h=>?_
 refine aJ<|aR<|aC<|zp 4<|aD<|aL<|aR ?_
 obtain⟨nl3,h⟩:=h
 refine bS (fun k e w5=>∃(e0:Env) (v4:Int) (v5:Int),e=upds e0 [(0,vl data_a data_n data_c),(1,vi n),(2,cmp),(6,vi v3),(7,vi v4),(8,vi v5)]∧aX.l3 Q data_a data_n data_c n cmp v3 (aX.l2 Q data_a data_n data_c n cmp nl2) k v4 v5 w5) nl3 ?_ ?_ ?_
 rintro _ _ ⟨_,_,_,_,h⟩
 exact h
 exact⟨_,0,IntKind.wrap .i64 ((2:Int)*v3),ag,h⟩
 clear h nl3
 rintro nl3 _ w5 ⟨e0,v4,v5,rfl,h⟩
 unfold aX.l3 at h
 refine aL<|aC<|zp 3<|aD<|zc h (fun h=>?_) fun h=>?_
 refine aJ<|aR<|aC<|zp 7<|zk h ?_
 rintro _ w6 ⟨rfl,h⟩
 exact aD<|aC<|zp 2<|aD<|aW<|zp 5<|aD<|aG<|⟨_,v5,IntKind.wrap .i64 (v5+(IntKind.wrap .i64 ((2:Int)*v3))),ag,h⟩
 refine dE<|aU<|aL<|aC<|zp 4<|aD<|aC<|zp 3<|aD<|zc h (fun h=>?_) fun h=>?_
 refine aW<|zp 5<|zk h ?_
 rintro _ w7 ⟨rfl,h⟩
 exact aD<|aW<|zp 3<|aD<|aG<|⟨_,IntKind.wrap .i64 (v3*2),ag,h⟩
 exact aJ<|aW<|zp 3<|aD<|aG<|⟨_,IntKind.wrap .i64 (v3*2),ag,h⟩
 exact dE<|aU<|vG<|uA rfl ⟨rfl,h⟩
def lT.R(Q:World→Prop)(x_a:Option Addr)(x_n:Nat)(x_c:Nat)(cmp:Value)(w:World):Prop:=(
 Cl Pg 198 #[vl x_a x_n x_c,vi (x_n:Nat),cmp] w (fun v w1=>v= .tuple #[]∧Q w1))
theorem lT.ok{Q:World→Prop}{x_a:Option Addr}{x_n:Nat}{x_c:Nat}{cmp:Value}{w:World}(h:lT.R Q x_a x_n x_c cmp w):Cl Pg 177 #[vl x_a x_n x_c,cmp] w (fun v w'=>v= .tuple #[]∧Q w'):=by
 refine aI (args:=[vl x_a x_n x_c,cmp]) Tryz.func177 ?_
 unfold lT.R at h
 refine aW<|zp 4<|zk h ?_
 rintro _ w1 ⟨rfl,h⟩
 exact aD<|vG<|uA rfl ⟨rfl,h⟩
end Go.Proofs.YtcbijkakoepglaaGreat
namespace Go.Proofs.YtcbijkakoepglaaGreat
open Go Go.Wx Go.Sort
theorem iX{x y:ByteArray}:dF x y=true↔x=y:=by
 unfold dF;rw[beq_iff_eq,ByteArray.toList_eq,ByteArray.toList_eq];constructor
 ·intro h;cases x;cases y;simp only at h;congr 1;exact Array.ext' h
 ·rintro rfl;rfl
theorem xX(x y:ByteArray):iO x y=ltStr x.data.toList y.data.toList:=by
 unfold iO ltStr;rw[Go.Proofs.bytesLess_eq,ByteArray.toList_eq,ByteArray.toList_eq]
theorem swoStr:SWO iO:={
 irrefl x:=by rw[xX];exact swo_ltStr.irrefl _
 trans x y z h1 h2:=by rw[xX]at*;exact swo_ltStr.trans _ _ _ h1 h2
 ntrans x y z h1 h2:=by rw[xX]at*;exact swo_ltStr.ntrans _ _ _ h1 h2}
theorem nX{x y:ByteArray}(h1:iO x y=false)(h2:iO y x=false):x=y:=by
 rw[xX]at h1 h2;simp only[ltStr,decide_eq_false_iff_not,List.not_lt]at h1 h2;have h:=List.le_antisymm h2 h1;cases x;cases y;simp only at h;congr 1;exact Array.ext' h
theorem yK{a b:Int}:wY a b<0↔a<b:=by unfold wY;split<;>(try split)<;>omega
theorem zF{a b:Int}:wY a b=0↔a=b:=by unfold wY;split<;>(try split)<;>omega
theorem aDk{a b:ByteArray}:aCt a b<0↔iO a b=true:=by
 unfold aCt;cases iO a b<;>simp
 split<;>omega
theorem aF4{a b:ByteArray}:aCt a b=0↔a=b:=by
 unfold aCt;constructor
 ·intro h;cases h1:iO a b<;>rw[h1]at h<;>simp at h
  exact iX.1 h
 ·rintro rfl;rw[swoStr.irrefl,nY];rfl
theorem sA{x:Int}{xs:List Int}:rD (x::xs)<0↔x<0∨x=0∧rD xs<0:=by
 show(if x !=0 then x else rD xs)<0↔_;split
 ·rename_i h;simp at h;omega
 ·rename_i h;simp at h;omega
theorem aAP:¬rD []<0:=by simp[rD]
def fR(x y:TLot):Bool:=decide (uH x y<0)
def mM(x y:TAmount):Bool:=decide (vY x y<0)
def iZ(x y:TTrialLine):Bool:=decide (aCv x y<0)
theorem aCA{x y:TLot}:fR x y=true↔x.Due<y.Due∨x.Due=y.Due∧x.Id<y.Id:=by
 unfold fR uH;rw[decide_eq_true_eq,sA,sA,yK,zF,yK];have:=aAP;omega
theorem nP{x y:TAmount}:mM x y=true↔iO x.Unit y.Unit=true:=by
 unfold mM vY;rw[decide_eq_true_eq,aDk]
theorem pN{x y:TTrialLine}:iZ x y=true↔x.Account_Kind<y.Account_Kind∨x.Account_Kind=y.Account_Kind∧(x.Account_Id<y.Account_Id∨x.Account_Id=y.Account_Id∧iO x.Unit y.Unit=true):=by
 unfold iZ aCv;rw[decide_eq_true_eq,sA,sA,sA,yK,zF,yK,zF,aDk,aF4];have:=aAP;constructor
 ·rintro(h | ⟨h,h2 | ⟨h2,h3 | ⟨_,h3⟩⟩⟩)
  ·exact .inl h
  ·exact .inr ⟨h,.inl h2⟩
  ·exact .inr ⟨h,.inr ⟨h2,h3⟩⟩
  ·exact absurd h3 this
 ·rintro(h | ⟨h,h2 | ⟨h2,h3⟩⟩)
  ·exact .inl h
  ·exact .inr ⟨h,.inl h2⟩
  ·exact .inr ⟨h,.inr ⟨h2,.inl h3⟩⟩
theorem qR{x y:TLot}:fR x y=false↔¬(x.Due<y.Due∨x.Due=y.Due∧x.Id<y.Id):=by rw[←aCA];simp
theorem swoLot:SWO fR:={
 irrefl x:=by rw[qR];omega
 trans x y z h1 h2:=by rw[aCA]at*;omega
 ntrans x y z h1 h2:=by rw[qR]at*;omega}
theorem tY:SWO mM:={
 irrefl x:=by cases h:mM x x with
  | false=>rfl
  | true=>rw[nP,swoStr.irrefl]at h;cases h
 trans x y z h1 h2:=by rw[nP]at*;exact swoStr.trans _ _ _ h1 h2
 ntrans x y z h1 h2:=by
  have e:∀{a b:TAmount},mM a b=false↔iO a.Unit b.Unit=false:=fun{a b}=>by
   rw[←Bool.not_eq_true,nP,Bool.not_eq_true]
  rw[e]at*;exact swoStr.ntrans _ _ _ h1 h2}
theorem qY{x y:TTrialLine}:iZ x y=false↔¬(x.Account_Kind<y.Account_Kind∨x.Account_Kind=y.Account_Kind∧(x.Account_Id<y.Account_Id∨x.Account_Id=y.Account_Id∧iO x.Unit y.Unit=true)):=by rw[←pN];simp
theorem swoLine:SWO iZ:={
 irrefl x:=by
  rw[qY];rintro(h | ⟨_,h | ⟨_,h⟩⟩)
  ·omega
  ·omega
  ·rw[swoStr.irrefl]at h;cases h
 trans x y z h1 h2:=by
  rw[pN]at*;rcases h1 with h1 | ⟨h1,h1' | ⟨h1',h1''⟩⟩<;>rcases h2 with h2 | ⟨h2,h2' | ⟨h2',h2''⟩⟩<;>first
   | (left;omega)
   | (right;refine⟨by omega,.inl (by omega)⟩)
   | (right;exact⟨by omega,.inr ⟨by omega,swoStr.trans _ _ _ h1'' h2''⟩⟩)
 ntrans x y z h1 h2:=by
  rw[qY]at*;rintro(h | ⟨h,h' | ⟨h',h''⟩⟩)
  ·apply h1;by_cases h3:x.Account_Kind<y.Account_Kind
   ·exact .inl h3
   ·exact absurd (.inl (by omega)) h2
  ·have hk:x.Account_Kind=y.Account_Kind:=by
    apply Classical.byContradiction;intro hne;by_cases h3:x.Account_Kind<y.Account_Kind
    ·exact h1 (.inl h3)
    ·exact h2 (.inl (by omega))
   by_cases h4:x.Account_Id<y.Account_Id
   ·exact h1 (.inr ⟨hk,.inl h4⟩)
   ·exact h2 (.inr ⟨by omega,.inl (by omega)⟩)
  ·have hk:x.Account_Kind=y.Account_Kind:=by
    apply Classical.byContradiction;intro hne;by_cases h3:x.Account_Kind<y.Account_Kind
    ·exact h1 (.inl h3)
    ·exact h2 (.inl (by omega))
   have hi:x.Account_Id=y.Account_Id:=by
    apply Classical.byContradiction;intro hne;by_cases h3:x.Account_Id<y.Account_Id
    ·exact h1 (.inr ⟨hk,.inl h3⟩)
    ·exact h2 (.inr ⟨by omega,.inl (by omega)⟩)
   cases h5:iO x.Unit y.Unit with
   | true=>exact h1 (.inr ⟨hk,.inr ⟨hi,h5⟩⟩)
   | false=>
    cases h6:iO y.Unit z.Unit with
    | true=>exact h2 (.inr ⟨by omega,.inr ⟨by omega,h6⟩⟩)
    | false=>rw[swoStr.ntrans _ _ _ h5 h6]at h'';cases h''}
section
variable {α : Type} (lt : α → α → Bool)
def uU(x:α):List α→List α
 |[]=>[x]
 | y::ys=>if lt x y then x::y::ys else y::uU x ys
def isort:List α→List α
 |[]=>[]
 | x::xs=>uU lt x (isort xs)
variable {lt}
theorem uT(x:α):∀l,(uU lt x l).Perm (x::l)
 |[]=> .refl _
 | y::ys=>by
  unfold uU;split
  ·exact .refl _
  ·exact((uT x ys).cons y).trans (.swap x y ys)
theorem dI:∀l,(isort lt l).Perm l
 |[]=> .refl _
 | x::xs=>(uT x _).trans ((dI xs).cons x)
def Asc(lt:α→α→Bool)(l:List α):Prop:=l.Pairwise fun x y=>lt y x=false
theorem aAN(hS:SWO lt)(x:α):∀l,Asc lt l→Asc lt (uU lt x l)
 |[],_=>by simp[uU,Asc]
 | y::ys,h=>by
  obtain⟨h1,h2⟩:=List.pairwise_cons.1 h;unfold uU;split
  ·rename_i hxy;refine List.pairwise_cons.2 ⟨fun z hz=>?_,h⟩;rcases List.mem_cons.1 hz with rfl | hz
   ·exact hS.asymmA hxy
   ·exact hS.ntrans _ _ _ (h1 z hz) (hS.asymmA hxy)
  ·rename_i hxy;refine List.pairwise_cons.2 ⟨fun z hz=>?_,aAN hS x ys h2⟩;rcases List.mem_cons.1 ((uT x ys).mem_iff.1 hz)with rfl | hz
   ·simpa using hxy
   ·exact h1 z hz
theorem lZ(hS:SWO lt):∀l,Asc lt (isort lt l)
 |[]=> .nil
 | x::xs=>aAN hS x _ (lZ hS xs)
theorem lN(hS:SWO lt){l l':List α}(hp:l'.Perm l)(ha:Asc lt l')(hk:∀x∈l,∀y∈l,lt x y=false→lt y x=false→x=y):l'=isort lt l:=
 List.Perm.eq_of_pairwise (le:=fun x y=>lt y x=false) (fun a b h1 h2 h3 h4=>hk a (hp.mem_iff.1 h1) b ((dI l).mem_iff.1 h2) h4 h3) ha (lZ hS l) (hp.trans (dI l).symm)
theorem aA0 [Inhabited α]{d:Array α}(h:SortedIn lt 0 d.size d):Asc lt d.toList:=by
 refine List.pairwise_iff_getElem.2 fun i j hi hj hij=>?_;have:=h i j (Nat.zero_le _) hij (by simpa using hj);rw[getElem!_pos d j (by simpa using hj),getElem!_pos d i (by simpa using hi)]at this;simpa using this
theorem aBG [Inhabited α]{d d':Array α}(h:PermIn 0 d.size d d'):d'.toList.Perm d.toList:=by
 obtain⟨h1,_,h3⟩:=h;rw[Array.extract_size]at h3;have:d'.extract 0 d.size=d':=by rw[←h1];exact Array.extract_size
 rwa[this]at h3
end
end Go.Proofs.YtcbijkakoepglaaGreat
namespace Go.Proofs.YtcbijkakoepglaaGreat
open Go Go.Wx
instance : Inhabited TLot := ⟨⟨0, 0, 0, 0, 0, ByteArray.mk #[], 0, 0, 0, 0⟩⟩
theorem aA4{α:Type}{enc:α→List Value}{sz T:Nat}{w:World}(he:∀x,(enc x).length=sz){a:Option Addr}{n c:Nat}{xs:List α}(ho:Own T sz enc w a n c xs){i:Nat}{x:α}(x':α)(hx:xs[i]? =some x){a0:Addr}(ha:a=some a0)
 {K:World→Prop} (hk:∀w',Own T sz enc w' a n c (xs.set i x')→Frm (fun b=>obk a c=some b) w w'→K w'):St w (a0.add (i*sz)) (enc x') K:=by
 have:=aAs (vs:=enc x') (j:=0) he ho x' hx (by rw[he];omega) (fun r hr=>by rw[if_pos ⟨by omega,by rw[he];omega⟩];rfl) ha hk;rwa[rI,Nat.add_zero]at this
theorem aEu{α:Type} [Inhabited α]{d:Array α}{i:Nat}{x:α}(h:d.toList[i]? =some x):d[i]! =x:=by
 rw[Array.getElem?_toList]at h;obtain⟨hi,h⟩:=Array.getElem?_eq_some_iff.1 h;rw[getElem!_pos d i hi,h]
section
variable {S : Nat → Prop} {w0 : World} {f : Value} {a : Option Addr} {n c : Nat} {Q : World → Prop}
theorem aFV(hf:aA2 f TLot.enc uH S w0)(hS:∀k,obk a c=some k→S k)(hn:n≤maxLen){lo:Nat}{v1:Int}{kl1:Int→World→Prop}:
 ∀(j:Nat) (d:Array TLot) (w:World),j<d.size→Own 45 10 TLot.enc w a n c d.toList→Frm S w0 w→(∀w',Own 45 10 TLot.enc w' a n c (Sort.insInner fR lo j d).toList→Frm S w0 w'→kl1 (IntKind.wrap .i64 (v1+1)) w')→
  aP.l2 Q a n lo f v1 kl1 (j+1) (j:Nat) w:=by
 intro j;induction j with
 | zero=>
  intro d w hj ho F hk;unfold aP.l2;refine iS F fun w7 F e7=>dK (by omega) ?_;unfold aP.j1;exact jJ (hk _ (ho.ext e7) F)
 | succ j ih=>
  intro d w hj ho F hk;unfold aP.l2;have hlen:n=d.size:=by have:=ho.1;simpa using this
  refine iS F fun w7 F e7=>ifb ?_;have ho:=ho.ext e7;have hw:IntKind.wrap .i64 (((j+1:Nat):Int)-1)=(j:Nat):=by rw[bQ (by omega) (by simp only[maxLen]at hn;omega)];omega
  rw[hw];split
  ·rename_i hlo;have hlo:lo<j+1:=by have:=of_decide_eq_true hlo;omega
   refine(ho.rd iQ).ix (by omega) (by omega) fun a0 x ha hx hc=>⟨x,hc,(ho.rd iQ).ix (by omega) (by omega) fun a0 y ha hy hc'=>⟨y,hc',?_⟩⟩;simp only[Int.toNat_natCast]at hx hy;refine hf x y w7 F _ fun w8 E8=>?_;have hlt:decide (uH x y<0)=fR x y:=rfl;have hx':=aEu hx;have hy':=aEu hy;rw[hlt];unfold aP.j1;unfold Sort.insInner at hk;rw[hx',hy']at hk;refine ifb ?_;cases hb:fR x y with
   | true=>
    rw[hb]at hk;simp only[if_true];simp only[Bool.and_true,decide_eq_true_eq,gt_iff_lt,hlo,if_true]at hk;rw[hw];have ho8:=ho.ext E8;refine iS (F.ext E8) fun w9 F9 e9=>?_;have ho9:=ho8.ext e9;refine(ho9.rd iQ).ix (by omega) (by omega) fun p1 y1 hp1 hy1 hc1=>⟨y1,hc1,(ho9.rd iQ).ix (by omega) (by omega) fun p2 x1 hp2 hx1 hc2=>⟨x1,hc2,(ho9.rd iQ).ix (by omega) (by omega) fun p3 _ hp3 _ _=>?_⟩⟩;simp only[Int.toNat_natCast]at hy1 hx1 ⊢;obtain rfl:y=y1:=Option.some.inj (hy.symm.trans hy1);obtain rfl:x=x1:=Option.some.inj (hx.symm.trans hx1)
    refine aA4 iQ ho9 y hx hp3 fun w10 ho10 F10=>?_;refine(ho10.rd iQ).ix (by omega) (by omega) fun p4 z hp4 hz _=>?_;simp only[Int.toNat_natCast]at hz ⊢;refine aA4 iQ ho10 x hz hp4 fun w11 ho11 F11=>?_;have hsw:(d.toList.set (j+1) y).set j x=(Sort.swp d (j+1) j).toList:=by
     unfold Sort.swp;rw[Array.toList_setIfInBounds,Array.toList_setIfInBounds,hx',hy']
    rw[hsw]at ho11;exact ih (Sort.swp d (j+1) j) w11 (by rw[Sort.swp_size];omega) ho11 ((F9.trans F10 fun k _ hk=>hS k hk).trans F11 fun k _ hk=>hS k hk) hk
   | false=>
    rw[hb]at hk;simp only[Bool.false_eq_true,if_false];simp only[Bool.and_false,Bool.false_eq_true,if_false]at hk;exact hk _ (ho.ext E8) (F.ext E8)
  ·rename_i hlo;have hlo:¬lo<j+1:=by simp at hlo;omega
   unfold aP.j1;unfold Sort.insInner at hk;simp only[gt_iff_lt,hlo,decide_false,Bool.false_and,Bool.false_eq_true,if_false]at hk;exact jJ (hk _ ho F)
theorem ins_c(hf:aA2 f TLot.enc uH S w0)(hS:∀k,obk a c=some k→S k)(hn':n≤1000000000){lo hi:Nat}{d:Array TLot}{w:World}(hhi:hi≤n)(hlo:lo≤hi)(ho:Own 45 10 TLot.enc w a n c d.toList)(F:Frm S w0 w)
 (hQ:∀w',Own 45 10 TLot.enc w' a n c (Sort.insertionSort fR d lo hi).toList→Frm S w0 w'→Q w'):Cl Pg 212 #[vl a n c,vi lo,vi hi,f] w (fun v w'=>v= .tuple #[]∧Q w'):=by
 have hn:n≤maxLen:=by simp only[maxLen];omega
 refine aP.ok ⟨hi-(lo+1)+1,?_⟩;have hw:IntKind.wrap .i64 ((lo:Int)+1)=((lo+1:Nat):Int):=by rw[bQ (by omega) (by omega)];omega
 rw[hw];unfold Sort.insertionSort at hQ;have key:∀m i (d:Array TLot) w,hi-i=m→Own 45 10 TLot.enc w a n c d.toList→Frm S w0 w→(∀w',Own 45 10 TLot.enc w' a n c (Sort.insOuter fR lo hi i d).toList→Frm S w0 w'→Q w')→aP.l1 Q a n lo hi f (m+1) (i:Nat) w:=by
  intro m;induction m with
  | zero=>
   intro i d w hi' ho F hQ;unfold aP.l1;unfold Sort.insOuter at hQ;rw[if_neg (by omega)]at hQ;exact dK (by omega) (hQ _ ho F)
  | succ m ih=>
   intro i d w hi' ho F hQ;unfold aP.l1;unfold Sort.insOuter at hQ;rw[if_pos (by omega)]at hQ;have hlen:n=d.size:=by have:=ho.1;simpa using this
   refine dQ (by omega) ⟨i+1,aFV hf hS hn i d w (by omega) ho F fun w' ho' F'=>?_⟩;rw[fO (n:=n) (by omega) (by omega) hn];exact ih (i+1) _ w' (by omega) ho' F' hQ
 exact key _ (lo+1) d w rfl ho F hQ
end
end Go.Proofs.YtcbijkakoepglaaGreat
namespace Go.Proofs.YtcbijkakoepglaaGreat
open Go Go.Wx Go.Sort
section
variable {α : Type} {lt : α → α → Bool}
def Tot(lt:α→α→Bool)(l:List α):Prop:=∀x∈l,∀y∈l,lt x y=false→lt y x=false→x=y
theorem Tot.sub{l l':List α}(h:Tot lt l)(hs:∀x∈l',x∈l):Tot lt l':=fun x hx y hy=>h x (hs x hx) y (hs y hy)
theorem pY(hS:SWO lt){l:List α}(hk:Tot lt l)(h:Asc lt l):isort lt l=l:=(lN hS (.refl _) h hk).symm
theorem aDV(hS:SWO lt){l l':List α}(hk:Tot lt l)(hp:l'.Perm l):isort lt l'=isort lt l:=
 lN hS ((dI l').trans hp) (lZ hS l') hk
theorem aFT(hS:SWO lt){l r:List α}(hk:Tot lt (l++r))(h:∀x∈l,∀y∈r,lt y x=false):isort lt (l++r)=isort lt l++isort lt r:=by
 symm;refine lN hS ((dI l).append (dI r)) ?_ hk;refine List.pairwise_append.2 ⟨lZ hS l,lZ hS r,fun x hx y hy=>h x ((dI l).mem_iff.1 hx) y ((dI r).mem_iff.1 hy)⟩
theorem aAL(hS:SWO lt){A1 A2 B1 B2:List α}(hA:Asc lt (A1++A2))(hB:Asc lt (B1++B2))(hk:Tot lt (A1++A2++(B1++B2)))
 (h1:∀x y,A1.getLast? =some x→B2.head? =some y→lt y x=false) (h2:∀x y,B1.getLast? =some x→A2.head? =some y→lt y x=false):
 isort lt (A1++A2++(B1++B2))=isort lt (A1++B1)++isort lt (A2++B2):=by
 have hp:(A1++B1++(A2++B2)).Perm (A1++A2++(B1++B2)):=by
  rw[List.append_assoc,List.append_assoc];refine List.Perm.append_left A1 ?_;rw[←List.append_assoc,←List.append_assoc];exact List.Perm.append_right B2 List.perm_append_comm
 have hk':Tot lt (A1++B1++(A2++B2)):=hk.sub fun x hx=>hp.mem_iff.1 hx;rw[←aDV hS hk hp];refine aFT hS hk' ?_;obtain⟨a1,a2,a12⟩:=List.pairwise_append.1 hA;obtain⟨b1,b2,b12⟩:=List.pairwise_append.1 hB;have toLast:∀{l:List α} {x z:α},Asc lt l→x∈l→l.getLast? =some z→lt z x=false:=fun{l x z} hl hx hz=>by
  obtain⟨l',rfl⟩:=List.getLast?_eq_some_iff.1 hz;rcases List.mem_append.1 hx with hx | hx
  ·exact(List.pairwise_append.1 hl).2.2 x hx z (by simp)
  ·simp at hx;subst hx;exact hS.irrefl _
 have fromHead:∀{l:List α} {y z:α},Asc lt l→y∈l→l.head? =some z→lt y z=false:=fun{l y z} hl hy hz=>by
  cases l with
  | nil=>cases hz
  | cons u l=>
   cases hz;rcases List.mem_cons.1 hy with rfl | hy
   ·exact hS.irrefl _
   ·exact(List.pairwise_cons.1 hl).1 y hy
 have cross:∀{l r:List α},Asc lt l→Asc lt r→(∀x y,l.getLast? =some x→r.head? =some y→lt y x=false)→∀x∈l,∀y∈r,lt y x=false:=fun{l r} hl hr h x hx y hy=>by
  obtain⟨z,hz⟩:∃z,l.getLast? =some z:=by
   cases hz:l.getLast? with
   | none=>rw[List.getLast?_eq_none_iff]at hz;subst hz;cases hx
   | some z=>exact⟨z,rfl⟩
  obtain⟨u,hu⟩:∃u,r.head? =some u:=by
   cases r with
   | nil=>cases hy
   | cons u r=>exact⟨u,rfl⟩
  have e1:=toLast hl hx hz;have e2:=fromHead hr hy hu;exact hS.ntrans _ _ _ e2 (hS.ntrans _ _ _ (h z u hz hu) e1)
 intro x hx y hy;rcases List.mem_append.1 hx with hx | hx<;>rcases List.mem_append.1 hy with hy | hy
 ·exact a12 x hx y hy
 ·exact cross a1 b2 h1 x hx y hy
 ·exact cross b1 a2 h2 x hx y hy
 ·exact b12 x hx y hy
theorem aEj(hS:SWO lt){x:α}{B1 B2:List α}(hB:Asc lt (B1++B2))(h1:∀y,B1.getLast? =some y→lt x y=false)(h2:∀y,B2.head? =some y→lt y x=false)(hk:Tot lt (x::(B1++B2))):
 B1++x::B2=isort lt (x::(B1++B2)):=by
 have:=aAL hS (A1:=[]) (A2:=[x]) (B1:=B1) (B2:=B2) (by simp[Asc]) hB (by simpa using hk) (fun _ _ h=>by cases h) (fun u v hu hv=>by simp at hv;subst hv;exact h1 u hu);simp only[List.nil_append,List.singleton_append]at this;rw[this];obtain⟨b1,b2,_⟩:=List.pairwise_append.1 hB;rw[pY hS (hk.sub fun z hz=>by simp[hz]) b1];rw[pY hS (hk.sub fun z hz=>by simp at hz ⊢;rcases hz with h | h<;>simp[h]) ?_];refine List.pairwise_cons.2 ⟨fun y hy=>?_,b2⟩;cases B2 with
 | nil=>cases hy
 | cons u B2=>
  have hux:=h2 u rfl;rcases List.mem_cons.1 hy with rfl | hy
  ·exact hux
  ·exact hS.ntrans _ _ _ ((List.pairwise_cons.1 b2).1 y hy) hux
end
end Go.Proofs.YtcbijkakoepglaaGreat
namespace Go.Proofs.YtcbijkakoepglaaGreat
open Go Go.Wx Go.Sort
section
variable {α : Type} {lt : α → α → Bool}
inductive Chunked(lt:α→α→Bool)(sz:Nat):List α→Prop
 | last {l:List α}:l.length≤sz→Asc lt l→Chunked lt sz l
 | cons {A T:List α}:A.length=sz→Asc lt A→Chunked lt sz T→Chunked lt sz (A++T)
inductive Full(lt:α→α→Bool)(sz:Nat):List α→Prop
 | nil:Full lt sz []
 | snoc {P A:List α}:Full lt sz P→A.length=sz→Asc lt A→Full lt sz (P++A)
theorem Full.app{sz:Nat}{P T:List α}(h:Full lt sz P)(hT:Chunked lt sz T):Chunked lt sz (P++T):=by
 induction h generalizing T with
 | nil=>exact hT
 | snoc _ hl ha ih=>rw[List.append_assoc];exact ih (.cons hl ha hT)
theorem Chunked.asc{sz:Nat}{l:List α}(h:Chunked lt sz l)(hl:l.length≤sz):Asc lt l:=by
 cases h with
 | last _ h=>exact h
 | @cons A T h1 h2 h3=>
  obtain rfl:T=[]:=List.eq_nil_of_length_eq_zero (by rw[List.length_append]at hl;omega);simpa using h2
theorem Chunked.one{sz:Nat}{l:List α}(h:Chunked lt sz l)(hl:sz<l.length):∃A T,l=A++T∧A.length=sz∧Asc lt A∧Chunked lt sz T:=by
 cases h with
 | last h _=>omega
 | @cons A T h1 h2 h3=>exact⟨A,T,rfl,h1,h2,h3⟩
theorem Chunked.two{sz:Nat}{l:List α}(h:Chunked lt sz l)(h0:0<sz)(hl:2*sz≤l.length):∃A B T,l=A++B++T∧A.length=sz∧B.length=sz∧Asc lt A∧Asc lt B∧Chunked lt sz T:=by
 obtain⟨A,T,rfl,h1,h2,h3⟩:=h.one (by omega);rw[List.length_append]at hl;by_cases hT:sz<T.length
 ·obtain⟨B,T',rfl,g1,g2,g3⟩:=h3.one hT;exact⟨A,B,T',by simp,h1,g1,h2,g2,g3⟩
 ·exact⟨A,T,[],by simp,h1,by omega,h2,h3.asc (by omega),.last (by simp) (by simp[Asc])⟩
theorem nQ{L1 L2:List α}{x:α}{i:Nat}(hi:i=L1.length):(L1++x::L2)[i]? =some x:=by
 subst hi;simp
theorem uM{L1 L2:List α}{x y:α}{i:Nat}(hi:i=L1.length):(L1++x::L2).set i y=L1++y::L2:=by
 subst hi;simp
theorem sw_lo{L1 L2 L3:List α}{u v:α}{i j:Nat}(hj:j=L1.length)(hi:i=L1.length+1+L2.length):((L1++u::(L2++v::L3)).set j v).set i u=L1++v::(L2++u::L3):=by
 rw[uM hj];have e:∀(z:α),L1++v::(L2++z::L3)=(L1++v::L2)++z::L3:=fun z=>by simp
 rw[e,uM (by simp;omega),e]
theorem sw_hi{L1 L2 L3:List α}{u v:α}{i j:Nat}(hj:j=L1.length)(hi:i=L1.length+1+L2.length):((L1++u::(L2++v::L3)).set i u).set j v=L1++v::(L2++u::L3):=by
 have e:∀(z:α),L1++u::(L2++z::L3)=(L1++u::L2)++z::L3:=fun z=>by simp
 rw[e,uM (by simp;omega),←e,uM hj]
theorem aER{L1 L2 L3:List α}{u v:α}{i:Nat}(hi:i=L1.length+1+L2.length):(L1++u::(L2++v::L3))[i]? =some v:=by
 have e:L1++u::(L2++v::L3)=(L1++u::L2)++v::L3:=by simp
 rw[e,nQ (by simp;omega)]
theorem aDX [Inhabited α](hS:SWO lt){P A T:List α}(hk:Tot lt A){d:Array α}(hd:d.toList=P++A++T){lo hi:Nat}(h1:lo=P.length)(h2:hi=P.length+A.length):
 (insertionSort lt d lo hi).toList=P++isort lt A++T:=by
 have hsz:d.size=P.length+A.length+T.length:=by rw[←Array.length_toList,hd];simp;omega
 obtain⟨⟨p1,p2,p3⟩,hs⟩:=insertionSort_holds (lt:=lt) hS d lo hi (by omega) (by omega);generalize hD:insertionSort lt d lo hi=D at*;have hA:(d.extract lo hi).toList=A:=by
  rw[Array.toList_extract,hd,h1,h2,List.append_assoc,List.extract_eq_take_drop,List.drop_left,show P.length+A.length-P.length=A.length by omega,List.take_left]
 have hlen:D.toList.length=d.toList.length:=by simpa using p1
 have getD:∀i,i<D.size→D.toList[i]? =some D[i]! :=fun i hi=>by rw[Array.getElem?_toList,Array.getElem?_eq_getElem hi,getElem!_pos D i hi]
 have getd:∀i,i<d.size→d.toList[i]? =some d[i]! :=fun i hi=>by rw[Array.getElem?_toList,Array.getElem?_eq_getElem hi,getElem!_pos d i hi]
 have hout:∀i,(i<lo∨hi≤i)→D.toList[i]? =d.toList[i]? :=fun i hi'=>by
  by_cases hlt:i<d.size
  ·rw[getD i (by omega),getd i hlt,p2 i hi']
  ·rw[List.getElem?_eq_none (by simp;omega),List.getElem?_eq_none (by simp;omega)]
 have hE:D.toList=P++(D.extract lo hi).toList++T:=by
  rw[Array.toList_extract];apply List.ext_getElem?;intro i;rw[List.append_assoc];by_cases hi1:i<P.length
  ·rw[hout i (.inl (by omega)),hd,List.append_assoc,List.getElem?_append_left hi1,List.getElem?_append_left hi1]
  ·rw[List.getElem?_append_right (by omega)];have hel:(D.toList.extract lo hi).length=A.length:=by rw[List.extract_eq_take_drop];simp;omega
   by_cases hi2:i<hi
   ·rw[List.getElem?_append_left (by rw[hel];omega),List.extract_eq_take_drop,List.getElem?_take,if_pos (by omega),List.getElem?_drop];congr 1;omega
   ·rw[List.getElem?_append_right (by rw[hel];omega),hel,hout i (.inr (by omega)),hd,List.append_assoc,List.getElem?_append_right (by omega),List.getElem?_append_right (by omega)]
 rw[hE];congr 2;refine lN hS ?_ ?_ hk
 ·rw[←hA];exact p3
 ·refine List.pairwise_iff_getElem.2 fun i j hi' hj hij=>?_;simp only[Array.toList_extract,List.extract_eq_take_drop,List.length_take,List.length_drop,Array.length_toList]at hi' hj;have:=hs (lo+i) (lo+j) (by omega) (by omega) (by omega);rw[getElem!_pos D _ (by omega),getElem!_pos D _ (by omega)]at this;simpa using this
end
end Go.Proofs.YtcbijkakoepglaaGreat
