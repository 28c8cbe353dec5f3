/- The law holds: part 343. Conditions: none. -/
import Derived.Test.YtpndfdfipkadkaaGreatDoorKU10
set_option linter.all false
set_option maxRecDepth 100000
namespace Go.Proofs.YtpndfdfipkadkaaGreatDoor
open Go Go.Wx Go.Ax
def refL(s:List Pl)(e:Ev):Int:=if foundedL s e !=0 then foundedL s e else if(e.kind==3||e.kind==4)&&cont s e.place e.other then 20 else 0
structure StOk(s:List Pl):Prop where
 par:ParOk s
 zero:hereB s 0=false
 fin:FinP s
 len:s.length≤100000
theorem contP_c(s:List Pl)(a b:Int)(h:StOk s):Pur Pg 116 [stD s,di a,di b] (db (cont s a b)):=
 containsP_c s a b _ h.par h.zero (h.fin.pth h.par b).1 (h.fin.pth h.par b).2 h.len
theorem refuses_c(s:List Pl)(e:Ev)(h:StOk s):Pur Pg 96 [stD s,.agg e.enc] (di (refL s e)):=by
 refine fn Tryz.func96 [] [] (.cons (pd_st s) (.cons (.agg (pdEv e)) .nil)) ?_
 refine if_ (fun k1=>?_) fun k1=>?_
 ·cases hg:get s e.place with
  | some p=>
   refine st_at hg ?_
   exact frzi (by simp[refL,foundedL,k1,hg])
  | none=>
   refine st_no hg ?_
   refine if_ (fun ho=>?_) fun ho=>?_
   ·refine(missing_c s e.other).call ?_
    refine if_ (fun hm=>?_) fun hm=>?_
    ·refine frzi ?_
     cases ho2:get s e.other with
     | none=>simp_all[refL,foundedL]
     | some q=>cases hh:hereB s e.other<;>simp_all[refL,foundedL]
    ·have hf:foundedL s e=0:=by
      cases ho2:get s e.other with
      | none=>simp_all
      | some q=>cases hh:hereB s e.other<;>simp_all[foundedL]
     have k3:(e.kind==3)=false:=by simp at k1;simp[k1]
     have k4:(e.kind==4)=false:=by simp at k1;simp[k1]
     refine iff_ k3 (iff_ k4 ?_)
     exact frzi (by simp[refL,hf,k3,k4])
   ·have hf:foundedL s e=0:=by simp_all[foundedL]
    have k3:(e.kind==3)=false:=by simp at k1;simp[k1]
    have k4:(e.kind==4)=false:=by simp at k1;simp[k1]
    refine iff_ k3 (iff_ k4 ?_)
    exact frzi (by simp[refL,hf,k3,k4])
 ·refine(missing_c s e.place).call ?_
  refine if_ (fun hm=>?_) fun hm=>?_
  ·refine frzi ?_
   cases ho2:get s e.place with
   | none=>simp_all[refL,foundedL]
   | some q=>cases hh:hereB s e.place<;>simp_all[refL,foundedL]
  ·obtain⟨pp,hpg,hph⟩:∃pp,get s e.place=some pp∧hereB s e.place=true:=by
    cases ho2:get s e.place with
    | none=>simp_all
    | some q=>cases hh:hereB s e.place<;>simp_all
   have tail:foundedL s e=0→∀r:Int,r=(if(e.kind==3||e.kind==4)&&cont s e.place e.other then 20 else 0)→refL s e=r:=fun hf r hr=>by rw[refL,hf,hr];rfl
   refine if_ (fun ho=>?_) fun ho=>?_
   ·refine(missing_c s e.other).call ?_
    refine if_ (fun hm=>?_) fun hm=>?_
    ·refine frzi ?_
     cases ho2:get s e.other with
     | none=>simp_all[refL,foundedL]
     | some q=>cases hh:hereB s e.other<;>simp_all[refL,foundedL]
    ·have hf:foundedL s e=0:=by
      cases ho2:get s e.other with
      | none=>simp_all
      | some q=>cases hh:hereB s e.other<;>simp_all[foundedL]
     refine if_ (fun k3=>?_) fun k3=>if_ (fun k4=>?_) fun k4=>?_
     ·refine(contP_c s _ _ h).call ?_
      refine if_ (fun hc=>frzi (tail hf _ (by simp[k3,hc])).symm) fun hc=>frzi (tail hf _ (by simp[hc])).symm
     ·refine(contP_c s _ _ h).call ?_
      refine if_ (fun hc=>frzi (tail hf _ (by simp[k4,hc])).symm) fun hc=>frzi (tail hf _ (by simp[hc])).symm
     ·exact frzi (tail hf _ (by simp[k3,k4])).symm
   ·have hf:foundedL s e=0:=by simp_all[foundedL]
    refine if_ (fun k3=>?_) fun k3=>if_ (fun k4=>?_) fun k4=>?_
    ·refine(contP_c s _ _ h).call ?_
     refine if_ (fun hc=>frzi (tail hf _ (by simp[k3,hc])).symm) fun hc=>frzi (tail hf _ (by simp[hc])).symm
    ·refine(contP_c s _ _ h).call ?_
     refine if_ (fun hc=>frzi (tail hf _ (by simp[k4,hc])).symm) fun hc=>frzi (tail hf _ (by simp[hc])).symm
    ·exact frzi (tail hf _ (by simp[k3,k4])).symm
theorem lastT_none:∀{l:List Use},(∀x∈l,(x.kind==1)=false)→lastT l= -1
 |[],_=>rfl
 | u::r,h=>by
  rw[lastT,lastT_none fun x hx=>h x (List.mem_cons_of_mem _ hx),if_neg (by decide),if_neg (by rw[h u List.mem_cons_self];decide)]
theorem lastT_at{l:List Use}{j:Nat}(hj:j<l.length)(hk:(l[j].kind==1)=true)(h:∀x∈l.drop (j+1),(x.kind==1)=false):lastT l=j:=by
 have hs:l=l.take j++(l[j]::l.drop (j+1)):=by rw[←List.drop_eq_getElem_cons hj,List.take_append_drop]
 have key:∀(a:List Use) (b:List Use),0≤lastT b→lastT (a++b)=a.length+lastT b:=by
  intro a
  induction a with
  | nil=>intro b _;simp
  | cons x a ih=>
   intro b hb
   rw[List.cons_append,lastT,ih b hb,if_pos (by omega)]
   simp;omega
 have h1:lastT (l[j]::l.drop (j+1))=0:=by rw[lastT,lastT_none h,if_neg (by decide),if_pos hk]
 rw[hs,key _ _ (by rw[h1];exact Int.le_refl _),h1,List.length_take]
 omega
theorem lastTrue_c(l:List Use):Pur Pg 109 [rows Use.enc l] (di (lastT l)):=by
 refine Pur_len 0 rfl fun hl=>fn Tryz.func109 [] [] (.one (pd_rows pdUse l)) ?_
 rw[List.length_map]at hl
 have hw0:IntKind.wrap .i64 (((l.map Use.enc).length:Int)-1)=(l.length:Int)-1:=by
  simp only[maxLen]at hl
  rw[List.length_map,wrap_id (by omega) (by omega)]
 refine AW_idx l.length (fun i st=>(∀x∈l.drop (l.length-i),(x.kind==1)=false)∧Has [(0,rows Use.enc l),(3,di ((l.length:Int)-1-i))] [] st) ⟨by simp,has ⟨rfl,by show D.v (.int .i64 _)=_;rw[hw0];simp[di],trivial⟩ rfl⟩ ?_
 rintro i _ hi ⟨h3,e,rfl⟩
 refine go [] [] (if_ (fun hlt=>?_) (fun hlt=>?_))
 ·have hlt:i<l.length:=by simp at hlt;omega
  have hj:l.length-1-i<l.length:=by omega
  have hji:(l.length:Int)-1-i=((l.length-1-i:Nat):Int):=by omega
  refine lst_at (ds:=(l[l.length-1-i]'hj).enc) (by rw[hji];exact ixl_at (by rw[List.getElem?_map,List.getElem?_eq_getElem hj];rfl)) ?_
  have hd:l.drop (l.length-(i+1))=l[l.length-1-i]'hj::l.drop (l.length-i):=by
   rw[show l.length-(i+1)=l.length-1-i by omega,List.drop_eq_getElem_cons hj,show l.length-1-i+1=l.length-i by omega]
  refine if_ (fun he=>?_) (fun he=>?_)
  ·refine frzi ?_
   rw[hji]
   exact(lastT_at hj he (by rw[show l.length-1-i+1=l.length-i by omega];exact h3)).symm
  ·refine⟨hlt,?_,has ⟨rfl,?_,trivial⟩ rfl⟩
   ·rw[hd]
    intro x hx
    rcases List.mem_cons.1 hx with rfl | hx
    ·exact he
    ·exact h3 x hx
   ·show D.v (.int .i64 _)=_
    simp only[maxLen]at hl
    rw[wrap_id (by omega) (by omega)]
    simp only[di]
    congr 2
    omega
 ·have hge:l.length≤i:=by simp at hlt;omega
  rw[show l.length-i=0 by omega,List.drop_zero]at h3
  exact frzi (lastT_none h3).symm
theorem anyUse_c(l:List Use)(g:FuncId)(caps:List D)(p:Use→Bool)(hc:PdL caps)(hp:∀u∈l,Pur Pg g (.agg u.enc::caps) (db (p u))):∃r:Int,(decide (r≥0)=l.any p)∧Pur Pg 211 [rows Use.enc l,.clo g caps] (di r):=by
 have loop:∀(N:Nat) (r:Int),(∀i,(hi:i<l.length)→i<N→p l[i]=false)→(N≤l.length)→(N<l.length→(∃h:N<l.length,p l[N]=true)∧r=N)→(N=l.length→r= -1)→Pur Pg 211 [rows Use.enc l,.clo g caps] (di r):=by
  intro N r h1 h2 h3 h4
  refine Pur_len 0 rfl fun hl=>fn Tryz.func211 [] [] (.cons (pd_rows pdUse l) (.cons (.clo hc) .nil)) ?_
  rw[List.length_map]at hl
  refine AW_idx l.length (fun i st=>i≤N∧Has [(0,rows Use.enc l),(1,.clo g caps),(7,di (l.map Use.enc).length),(8,di i)] [] st) ⟨by omega,has ⟨rfl,rfl,rfl,rfl,trivial⟩ rfl⟩ ?_
  rintro i _ _ ⟨hi,e,rfl⟩
  refine go [] [] (if_ (fun hlt=>?_) (fun hlt=>?_))
  ·simp at hlt
   refine row_at hlt ?_
   refine(hp _ (List.getElem_mem hlt)).call ?_
   refine if_ (fun he=>?_) (fun he=>?_)
   ·refine frzi ?_
    rcases Nat.lt_or_eq_of_le hi with h | h
    ·have:=h1 i hlt h;rw[he]at this;cases this
    ·rw[(h3 (by omega)).2,h]
   ·refine⟨hlt,?_,has ⟨rfl,rfl,rfl,inc hlt hl,trivial⟩ rfl⟩
    rcases Nat.lt_or_eq_of_le hi with h | h
    ·omega
    ·obtain⟨⟨_,h5⟩,_⟩:=h3 (by omega)
     subst h
     rw[h5]at he;cases he
  ·simp at hlt
   exact frzi (h4 (by omega)).symm
 by_cases hex:∃i:Nat,∃hi:i<l.length,p l[i]=true∧∀k,(hk:k<l.length)→k<i→p l[k]=false
 ·obtain⟨i0,h0,h1,h2⟩:=hex
  exact⟨i0,by rw[any_take h0 h1];simp,loop i0 i0 (fun k hk h=>h2 k hk h) (by omega) (fun _=>⟨⟨h0,h1⟩,rfl⟩) fun h=>by omega⟩
 ·have hall:∀i,(hi:i<l.length)→p l[i]=false:=by
   intro i
   induction i using Nat.strongRecOn with
   | _ i ih=>
    intro hi
    cases hb:p l[i]with
    | false=>rfl
    | true=>exact absurd ⟨i,hi,hb,fun k hk h=>ih k h hk⟩ hex
  refine⟨-1,?_,loop l.length (-1) (fun i hi _=>hall i hi) (Nat.le_refl _) (fun h=>by omega) fun _=>rfl⟩
  have:l.any p=false:=List.any_eq_false.2 fun x hx=>by
   obtain⟨k,hk,rfl⟩:=List.getElem_of_mem hx
   rw[hall k hk];simp
  rw[this];rfl
theorem containsFunc_c(l:List Use)(g:FuncId)(caps:List D)(p:Use→Bool)(hc:PdL caps)(hp:∀u∈l,Pur Pg g (.agg u.enc::caps) (db (p u))):Pur Pg 165 [rows Use.enc l,.clo g caps] (db (l.any p)):=by
 obtain⟨r,h1,h2⟩:=anyUse_c l g caps p hc hp
 refine fn Tryz.func165 [] [] (.cons (pd_rows pdUse l) (.cons (.clo hc) .nil)) ?_
 refine h2.call ?_
 exact frzb h1
theorem named1_c(u:Use)(e:Ev):Pur Pg 166 [.agg u.enc,.fp e.enc] (db (strEq u.name e.name&&(u.til==100001))):=by
 refine fn Tryz.func166 [] [] (.cons (.agg (pdUse u)) (.cons (.fp (pdEv e)) .nil)) ?_
 refine if_ (fun h=>?_) fun h=>?_
 ·exact frzb (by rw[h];rfl)
 ·exact frzb (by rw[h];rfl)
def pl97:Plan:=[(4,[.p 0,.p 1,.p 2,.l 3,.p 4,.p 5,.p 6,.l 7,.p 12,.l 13,.e 8,.p 9,.p 10,.l 11,.p 14,.p 15])]
theorem named_c(s:List Pl)(e:Ev)(hk:e.kind=2∨e.kind=5→∃p,get s e.place=some p∧0≤lastT p.uses):Pur Pg 97 [stD s,.agg e.enc] (db (twiceB s e)):=by
 refine fn Tryz.func97 [] pl97 (.cons (pd_st s) (.cons (.agg (pdEv e)) .nil)) ?_
 cases hg:get s e.place with
 | none=>
  have k2:(e.kind==2)=false:=by
   rw[beq_eq_false_iff_ne];intro h
   obtain⟨p,hp,_⟩:=hk (.inl h);rw[hg]at hp;cases hp
  have k5:(e.kind==5)=false:=by
   rw[beq_eq_false_iff_ne];intro h
   obtain⟨p,hp,_⟩:=hk (.inr h);rw[hg]at hp;cases hp
  refine st_no hg ?_
  refine iff_ k2 (iff_ k5 ?_)
  exact frzb (by simp[twiceB,k2,k5])
 | some p=>
  have hu:usesOf s e.place=p.uses:=by rw[usesOf,hg];rfl
  refine st_at hg ?_
  refine if_ (fun k2=>?_) fun k2=>if_ (fun k5=>?_) fun k5=>?_
  ·obtain⟨p',hp',ht⟩:=hk (.inl (by simpa using k2))
   rw[hg]at hp';cases hp'
   have hlt:=lastT_lt p.uses
   obtain⟨j,hj⟩:=Int.eq_ofNat_of_zero_le ht
   have hj2:j<p.uses.length:=by omega
   have k5:(e.kind==5)=false:=by simp at k2;simp[k2]
   refine(lastTrue_c p.uses).call ?_
   rw[hj]
   refine ck rfl ?_
   refine row_at hj2 ?_
   exact frzb (by rw[twiceB,k2,k5,hu,lastName,hj];simp[hj2])
  ·have hb:=(containsFunc_c p.uses 166 [.fp e.enc] _ (.one (.fp (pdEv e))) fun u _=>named1_c u e).borrow (H:=[.arr 23 5 [e.enc]]) (args:=[rows Use.enc p.uses,.clo 166 [.ptr 0 0 0 1]]) (.v _)
    (.cons (.pd (pd_rows pdUse _)) (.cons (.clo rfl fun j d d' h1 h2=>by
     cases j with
     | zero=>cases h1;cases h2;exact .fp rfl rfl (FrzL.refl (pdEv e)).2
     | succ j=>cases h1) .nil))
   refine hb.call ?_
   refine frzb ?_
   rw[twiceB,k2,k5,hu,openB]
   simp
  ·exact frzb (by rw[twiceB,k2,k5];rfl)
end Go.Proofs.YtpndfdfipkadkaaGreatDoor
set_option maxRecDepth 100000
namespace Go.Proofs.YtpndfdfipkadkaaGreatDoor
open Go Go.Wx Go.Ax
theorem pd_enc{α:Type}{enc:α→List D}(he:∀x,PdL (enc x))(l:List α):∀y∈l.map enc,∀d∈y,Pd d:=fun y hy d hd=>by
 obtain⟨x,_,rfl⟩:=List.mem_map.1 hy
 exact he x d hd
def cmpI(a b:Int):Int:=if a<b then -1 else if a>b then 1 else 0
def cmpS(a b:ByteArray):Int:=if strLt a b then -1 else if !(strLt a b||strEq a b)then 1 else 0
def orI(l:List Int):Int:=(l.find? (· !=0)).getD 0
theorem nan_c(n:Int):Pur Pg 239 [di n] (db false):=by
 refine fn Tryz.func239 [] [] (.one (.v _)) ?_
 exact frzb (by simp)
theorem nanB_c(n:Int):Pur Pg 243 [du n] (db false):=by
 refine fn Tryz.func243 [] [] (.one (.v _)) ?_
 exact frzb (by simp)
theorem cmp_c(a b:Int):Pur Pg 205 [di a,di b] (di (cmpI a b)):=by
 refine fn Tryz.func205 [] [] (.cons (.v _) (.one (.v _))) ?_
 refine(nan_c a).call ?_
 refine(nan_c b).call ?_
 refine if_ (fun h=>?_) fun h=>if_ (fun h2=>?_) fun h2=>?_
 ·exact frzi (by simp at h;simp[cmpI,h])
 ·simp at h h2;exact frzi (by rw[cmpI,if_neg (by omega),if_pos h2])
 ·simp at h h2;exact frzi (by rw[cmpI,if_neg (by omega),if_neg (by omega)])
theorem cmpB_c(a b:Int):Pur Pg 215 [du a,du b] (di (cmpI a b)):=by
 refine fn Tryz.func215 [] [] (.cons (.v _) (.one (.v _))) ?_
 refine(nanB_c a).call ?_
 refine(nanB_c b).call ?_
 refine if_ (fun h=>?_) fun h=>if_ (fun h2=>?_) fun h2=>?_
 ·exact frzi (by simp at h;simp[cmpI,h])
 ·simp at h h2;exact frzi (by rw[cmpI,if_neg (by omega),if_pos h2])
 ·simp at h h2;exact frzi (by rw[cmpI,if_neg (by omega),if_neg (by omega)])
theorem lfi(n:Int):Lf (di n):= .v _
theorem or_c(l:List Int):Pur Pg 204 [rows ienc l] (di (orI l)):=by
 refine Pur_len 0 rfl fun hl=>fn Tryz.func204 [] [] (.one (pd_rows pdI l)) ?_
 rw[List.length_map]at hl
 refine AW_idx l.length (fun i st=>(∀x∈l.take i,(x !=0)=false)∧Has [(3,di 0),(6,rows ienc l),(7,di l.length),(8,di i)] [] st) ⟨by simp,has ⟨rfl,rfl,by simp[rows,dlen];rfl,rfl,trivial⟩ rfl⟩ ?_
 rintro i _ _ ⟨h,e,rfl⟩
 refine go [] [] (if_ (fun hlt=>?_) (fun hlt=>?_))
 ·simp at hlt
  refine row_at hlt ?_
  refine if_ (fun he=>?_) fun he=>?_
  ·refine frzi ?_
   unfold orI
   have:l.find? (· !=0)=some l[i]:=by
    rw[List.find?_eq_some_iff_getElem]
    refine⟨he,i,hlt,rfl,fun j hj=>?_⟩
    have:=h (l[j]'(by omega)) (by rw[List.mem_take_iff_getElem];exact⟨j,by omega,rfl⟩)
    simp[this]
   rw[this];rfl
  ·exact⟨hlt,take_succ hlt h he,has ⟨rfl,rfl,rfl,inc hlt hl,trivial⟩ rfl⟩
 ·simp at hlt
  refine frzi ?_
  rw[List.take_of_length_le hlt]at h
  rw[orI,List.find?_eq_none.2 fun x hx=>by rw[h x hx];simp]
  rfl
theorem nanS_c(n:ByteArray):Pur Pg 304 [ds' n] (db false):=by
 refine fn Tryz.func304 [] [] (.one (.v _)) ?_
 exact frzb (by rw[strEq_iff.2 rfl];rfl)
theorem cmpS_c(a b:ByteArray):Pur Pg 281 [ds' a,ds' b] (di (cmpS a b)):=by
 refine fn Tryz.func281 [] [] (.cons (.v _) (.one (.v _))) ?_
 refine(nanS_c a).call ?_
 refine(nanS_c b).call ?_
 refine if_ (fun h=>?_) fun h=>if_ (fun h2=>?_) fun h2=>?_
 ·exact frzi (by rw[cmpS,if_pos h])
 ·exact frzi (by rw[cmpS,if_neg (by rw[h];simp),if_pos h2])
 ·exact frzi (by rw[cmpS,if_neg (by rw[h];simp),if_neg (by rw[h2];simp)])
theorem or_row{H:Heap}(l:List Int):Ex Pg 204 [.row true (l.map ienc)] H (di (orI l)):=(or_c l).borrow (lfi _) (.cons (.row (pd_enc pdI l)) .nil)
structure Arc where
 frm:Int
 to:Int
 letter:Int
 cost:Int
def Arc.enc(x:Arc):List D:=[di x.frm,di x.to,du x.letter,di x.cost]
theorem pdArc:∀x:Arc,PdL x.enc:=fun _=> .cons (.v _) (.cons (.v _) (.cons (.v _) (.cons (.v _) .nil)))
def arcCmp(x y:Arc):Int:=orI [cmpI x.frm y.frm,cmpI x.to y.to,cmpI x.letter y.letter]
def pl222:Plan:=[(1,[.p 0,.l 1,.p 2,.l 3,.p 5,.l 6,.p 7,.l 8,.p 10,.l 11,.p 12,.l 13,.e 4,.e 9,.e 14,.e 15,.e 16,.p 17])]
theorem arcCmp_c(x y:Arc):Pur Pg 222 [.agg x.enc,.agg y.enc] (di (arcCmp x y)):=by
 refine fn Tryz.func222 [] pl222 (.cons (.agg (pdArc x)) (.one (.agg (pdArc y)))) ?_
 refine(cmp_c _ _).call ?_
 refine(cmp_c _ _).call ?_
 refine(cmpB_c _ _).call ?_
 refine(or_row [cmpI x.frm y.frm,cmpI x.to y.to,cmpI x.letter y.letter]).call ?_
 exact frzi rfl
end Go.Proofs.YtpndfdfipkadkaaGreatDoor
