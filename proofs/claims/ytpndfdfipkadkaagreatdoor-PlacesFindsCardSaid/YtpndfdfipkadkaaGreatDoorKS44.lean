/- The law holds: part 254. Conditions: none. -/
import Derived.Test.YtpndfdfipkadkaaGreatDoorKS4
import Derived.Test.YtpndfdfipkadkaaGreatDoorKS22
import Derived.Test.YtpndfdfipkadkaaGreatDoorKS25
import Derived.Test.YtpndfdfipkadkaaGreatDoorKS26
import Derived.Test.YtpndfdfipkadkaaGreatDoorKS42
set_option linter.all false
set_option maxRecDepth 100000
namespace Go.Proofs.YtpndfdfipkadkaaGreatDoor
open Go Go.Wx Go.Ax
theorem occ_iff{s x:ByteArray}{i:Nat}(hi:i≤s.size):occB s i x=true↔i+x.size≤s.size∧s.extract i (i+x.size)=x:=by
 have h1:(s.extract i s.size).data.toList=s.data.toList.drop i:=by
  rw[ByteArray.data_extract,Array.toList_extract,List.extract_eq_take_drop]
  exact List.take_of_length_le (by simp)
 have h2:(s.extract i (i+x.size)).data.toList=(s.data.toList.drop i).take x.size:=by
  rw[ByteArray.data_extract,Array.toList_extract,List.extract_eq_take_drop,Nat.add_sub_cancel_left]
 have hx:x.data.toList.length=x.size:=by simp
 have hs:s.data.toList.length=s.size:=by simp
 unfold occB Lib.hasPrefix
 rw[h1,List.isPrefixOf_iff_prefix]
 refine⟨fun h=>?_,fun h=>?_⟩
 ·have hl:=h.length_le
  rw[List.length_drop]at hl
  refine⟨by omega,?_⟩
  have ht:=List.prefix_iff_eq_take.1 h
  rw[hx,←h2]at ht
  cases hh:s.extract i (i+x.size)with
  | mk d=>
   rw[hh]at ht
   cases x
   simp only at ht
   rw[Array.toList_inj.1 ht]
 ·rw[List.prefix_iff_eq_take,hx,←h2,h.2]
theorem occurs_c(s x:ByteArray)(i:Nat)(hi:i≤s.size)(hs:s.size≤maxLen)(hx:x.size≤maxLen):Pur Pg 185 [ds' s,di i,ds' x] (db (occB s i x)):=by
 refine fn Tryz.func185 [] [] (.cons (.v _) (.cons (.v _) (.one (.v _)))) ?_
 simp only[maxLen]at hs hx
 refine if_ (fun h2=>?_) fun h2=>?_
 rotate_left
 ·simp at h2;omega
 have hw:IntKind.wrap .i64 ((s.size:Int)-i)=(s.size:Int)-i:=wrap_id (by omega) (by omega)
 refine if_ (fun h3=>?_) fun h3=>?_
 rotate_left
 ·rw[hw]at h3
  simp at h3
  refine frzb ?_
  cases ho:occB s i x with
  | false=>rfl
  | true=>have:=((occ_iff hi).1 ho).1;omega
 rw[hw]at h3
 simp at h3
 have hw2:IntKind.wrap .i64 ((i:Int)+x.size)=((i+x.size:Nat):Int):=by rw[wrap_id (by omega) (by omega)];omega
 have hp1:pos' (some (i:Int))=true:=by
  have h:(0:Int)≤(i:Int):=by omega
  exact nonneg_iff.2 h
 have hp2:pos' (some (IntKind.wrap .i64 ((i:Int)+x.size)))=true:=by
  rw[hw2]
  have h:(0:Int)≤((i+x.size:Nat):Int):=by omega
  exact nonneg_iff.2 h
 have hb1:(lo' (some (i:Int))).ble (hi' s.size (some (IntKind.wrap .i64 ((i:Int)+x.size))))=true:=by
  rw[hw2]
  exact Nat.ble_eq_true_of_le (by show i≤i+x.size;omega)
 have hb2:(hi' s.size (some (IntKind.wrap .i64 ((i:Int)+x.size)))).ble s.size=true:=by
  rw[hw2]
  exact Nat.ble_eq_true_of_le (by show i+x.size≤s.size;omega)
 have he:s.extract (lo' (some (i:Int))) (hi' s.size (some (IntKind.wrap .i64 ((i:Int)+x.size))))=s.extract i (i+x.size):=by rw[hw2];rfl
 refine ck (and_t (and_t hp1 (and_t hp2 (and_t hb1 hb2))) rfl) ?_
 refine frzb ?_
 show strEq (s.extract (lo' (some (i:Int))) (hi' s.size (some (IntKind.wrap .i64 ((i:Int)+x.size))))) x=_
 rw[he]
 cases ho:occB s i x with
 | true=>exact strEq_iff'.2 ((occ_iff hi).1 ho).2
 | false=>
  cases hq:strEq (s.extract i (i+x.size)) x with
  | false=>rfl
  | true=>rw[(occ_iff hi).2 ⟨by omega,strEq_iff'.1 hq⟩]at ho;cases ho
theorem rMatches_c(s:ByteArray)(l:List Spell)(hs:s.size≤100)(hl:l.length≤100)(hz:∀x∈l,x.frm.size≤maxLen):PurN Pg 132 [ds' s,rows Spell.enc l] (rows Mt.enc (mtL s l)):=by
 refine PurN_of (PdL.cons (.v _) (.one (pd_rows pdSpell l))) (pd_rows pdMt _) (AC_fn Tryz.func132 rfl rfl rfl [] (fun _=>true) (fun b h=>nomatch h) (go [] [] ?_))
 refine AW_ghost 5 184 2 (Nat.zero_le _) ?_
 refine AW_idx s.size (fun i st=>∃out n,out=mtU s l i∧out.length=n∧HasG [(0,ds' s),(1,rows Spell.enc l),(5,.sl 0 0 n n),(6,di i)] [.arr 184 2 (out.map Mt.enc)] st) ⟨[],0,rfl,rfl,hasG (G:=[]) ⟨rfl,rfl,rfl,rfl,trivial⟩ rfl⟩ ?_
 rintro i _ hi ⟨out,n,ho,hn,e0,G,rfl⟩
 have hml:s.size*l.length≤10000:=Nat.mul_le_mul hs hl
 refine AW_drop (BlL.cons (.pd (.v _)) (.cons (.pd (pd_rows pdSpell l)) (.cons (.sl (by simp)) (.v .nil)))) (BlH.cons (BlO.enc pdMt) .nil) (Nat.zero_le _) fun e=>?_
 refine go [] [] (if_ (fun hlt=>?_) (fun hlt=>?_))
 ·simp at hlt
  have hml2:i*l.length≤s.size*l.length:=Nat.mul_le_mul_right _ (Nat.le_of_lt hlt)
  refine AW_idx l.length (fun k st=>∃out n,out=mtU s l i++mtK s l i k∧out.length=n∧HasG [(0,ds' s),(1,rows Spell.enc l),(5,.sl 0 0 n n),(6,di i),(7,di k)] [.arr 184 2 (out.map Mt.enc)] st) ⟨out,n,by rw[ho];simp[mtK],hn,hasG (G:=[]) ⟨rfl,rfl,rfl,rfl,rfl,trivial⟩ rfl⟩ ?_
  clear ho hn
  clear out n
  rintro k _ hk ⟨out,n,ho,hn,e1,G1,rfl⟩
  have hb:n≤10100:=by
   rw[←hn,ho,List.length_append]
   have h1:=mtU_len s l i
   have h2:=mtK_len s l i k
   omega
  refine AW_drop (BlL.cons (.pd (.v _)) (.cons (.pd (pd_rows pdSpell l)) (.cons (.sl (by simp)) (.v (.v .nil))))) (BlH.cons (BlO.enc pdMt) .nil) (Nat.zero_le _) fun e=>?_
  refine go [] [] (if_ (fun hklt=>?_) (fun hklt=>?_))
  ·simp at hklt
   refine row_at hklt ?_
   have hx:l[k]? =some l[k]:=List.getElem?_eq_getElem hklt
   conv=>whnf
   refine(occurs_c s l[k].frm i hi (by simp only[maxLen];omega) (hz _ (List.getElem_mem hklt))).call ?_
   refine if_ (fun ho2=>?_) fun ho2=>?_
   ·refine push (by simp[hn]) (by omega) ?_
    exact⟨hklt,out++[⟨i,k⟩],n+1,by rw[mtK_succ hx,if_pos ho2,ho,List.append_assoc],by simp[hn],hasG ⟨rfl,rfl,rfl,rfl,inc hklt (by simp only[maxLen];omega),trivial⟩ (by rw[List.map_append];rfl)⟩
   ·exact⟨hklt,out,n,by rw[mtK_succ hx,if_neg (by rw[ho2];simp),ho,List.append_nil],hn,hasG ⟨rfl,rfl,rfl,rfl,inc hklt (by simp only[maxLen];omega),trivial⟩ rfl⟩
  ·simp at hklt
   have hkl:k=l.length:=by omega
   subst hkl
   exact⟨hlt,out,n,by rw[mtU_succ,←mtK_all];exact ho,hn,hasG (G:=[]) ⟨rfl,rfl,rfl,inc hlt (by simp only[maxLen];omega),trivial⟩ rfl⟩
 ·simp at hlt
  have his:i=s.size:=by omega
  subst his
  exact frzN_rows (enc:=Mt.enc) (xs:=mtL s l) (T:=184) (sz:=2) (by rw[ho];rfl) (by rw[←hn,ho];rfl) (by rw[←hn,ho];rfl) mtV fun _=>rfl
theorem before_c(x y:Arc):Pur Pg 184 [.agg x.enc,.agg y.enc] (db (arcLt x y)):=by
 refine fn Tryz.func184 [] [] (.cons (.agg (pdArc x)) (.one (.agg (pdArc y)))) ?_
 refine if_ (fun h=>?_) fun h=>?_
 ·exact frzb (by unfold arcLt;rw[if_pos (by simpa using h)])
 refine if_ (fun h2=>?_) fun h2=>?_
 ·exact frzb (by unfold arcLt;rw[if_neg (by simpa using h),if_pos (by simpa using h2)])
 ·exact frzb (by unfold arcLt;rw[if_neg (by simpa using h),if_neg (by simpa using h2)])
theorem ahead_c(x y:Arc):Pur Pg 223 [.agg x.enc,.agg y.enc] (db (arcLt x y)):=by
 refine fn Tryz.func223 [] [] (.cons (.agg (pdArc x)) (.one (.agg (pdArc y)))) ?_
 refine if_ (fun h=>?_) fun h=>?_
 ·exact frzb (by unfold arcLt;rw[if_pos (by simpa using h)])
 refine if_ (fun h2=>?_) fun h2=>?_
 ·exact frzb (by unfold arcLt;rw[if_neg (by simpa using h),if_pos (by simpa using h2)])
 ·exact frzb (by unfold arcLt;rw[if_neg (by simpa using h),if_neg (by simpa using h2)])
def pl131:Plan:=[(12,[.p 0,.l 1,.p 2,.p 3,.p 4,.l 5,.l 6,.e 7,.p 8]),(19,[.p 0,.l 1,.p 2,.p 3,.p 4,.l 5,.p 6,.l 7,.p 8,.p 9,.p 10,.p 11,.l 12,.p 13,.p 14,.p 15,.p 16,.l 17,.p 18,.p 19,.p 20,.p 21,.p 22,.p 23,.p 24,.l 25,.p 26,.p 27,.p 28,.p 29,.l 30,.p 31,.l 32,.p 33,.p 34,.p 35])]
theorem rCheck_c(a:Auto):Pur Pg 131 [.agg a.enc] (di (chkA a)):=by
 refine fn Tryz.func131 [] pl131 (.one (.agg (pdAuto a))) ?_
 have hlim:(a.states>400∨a.arcs.length>4000∨a.ends.length>400)→FrzK 0 [.arr 75 3 [a.enc]] (.v (.int .i64 2)) (di (chkA a)):=fun h=>frzi (by rw[chkA,if_pos h])
 refine if_ (fun h1=>?_) fun h1=>if_ (fun h2=>?_) fun h2=>if_ (fun h3=>?_) fun h3=>?_
 ·exact hlim (by simp at h1;omega)
 ·exact hlim (by simp at h2;omega)
 ·exact hlim (by simp at h3;omega)
 have hL:¬(a.states>400∨a.arcs.length>4000∨a.ends.length>400):=by simp at h1 h2 h3;omega
 clear hlim h1 h2 h3
 refine if_ (fun h4=>?_) fun h4=>?_
 ·exact frzi (by rw[chkA,if_neg hL,if_pos (by simpa using h4)])
 have hS:¬a.states<1:=by simpa using h4
 clear h4
 refine AW_idx a.arcs.length (fun i st=>(∀j,j<i→arcBad a j=false)∧HasG [(1,.ptr 0 0 0 1),(3,di i)] [.arr 75 3 [a.enc]] st) ⟨by simp,hasG (G:=[]) ⟨rfl,rfl,trivial⟩ rfl⟩ ?_
 rintro i _ _ ⟨hb,e,G,rfl⟩
 refine AW_drop (BlL.cons (.ptr (by simp)) (.v .nil)) (BlH.cons (fun y hy d hd=>by rw[List.mem_singleton.1 hy]at hd;exact .pd (pdAuto a d hd)) .nil) (Nat.zero_le _) fun e=>?_
 refine go [] pl131 (if_ (fun hlt=>?_) (fun hlt=>?_))
 ·simp at hlt
  refine row_at hlt ?_
  have hx:a.arcs[i]? =some a.arcs[i]:=List.getElem?_eq_getElem hlt
  have bad:arcBad a i=true→∀H,FrzK 0 H (.v (.int .i64 1)) (di (chkA a)):=fun h H=>frzi (by rw[chkA_arc hL hS hlt h])
  have hdef:arcBad a i=(decide (a.arcs[i].frm<0)||(decide (a.arcs[i].frm≥a.arcs[i].to)||(decide (a.arcs[i].to≥a.states)||(!letB a.arcs[i].letter||(decide (a.arcs[i].cost<0)||(decide (a.arcs[i].cost>1000000)||(decide (0<i)&& !(match a.arcs[i-1]? with | none=>true | some w=>arcLt w a.arcs[i])))))))):=by unfold arcBad;rw[hx];rfl
  have next:arcBad a i=false→∀j,j<i+1→arcBad a j=false:=fun h j hj=>by
   rcases Nat.lt_or_eq_of_le (Nat.le_of_lt_succ hj)with h' | rfl
   ·exact hb j h'
   ·exact h
  have hil:i≤maxLen:=by simp only[maxLen];omega
  refine if_ (fun c1=>bad (by rw[hdef,c1];rfl) _) fun c1=>?_
  refine if_ (fun c2=>bad (by rw[hdef,c1,c2];rfl) _) fun c2=>?_
  refine if_ (fun c3=>bad (by rw[hdef,c1,c2,c3];rfl) _) fun c3=>?_
  refine if_ (fun c5=>bad (by rw[hdef,c1,c2,c3,c5];simp) _) fun c5=>?_
  refine if_ (fun c6=>bad (by rw[hdef,c1,c2,c3,c5,c6];simp) _) fun c6=>?_
  obtain⟨r,hr,hp⟩:=place_c a.arcs[i].letter
  refine hp.call ?_
  refine if_ (fun c4=>?_) fun c4=>?_
  ·have c4':letB a.arcs[i].letter=false:=by rw[←hr];simp at c4 ⊢;omega
   exact bad (by rw[hdef,c1,c2,c3,c4'];rfl) _
  have c4':letB a.arcs[i].letter=true:=by rw[←hr];simp at c4 ⊢;omega
  refine if_ (fun c7=>?_) fun c7=>?_
  ·have h0:0<i:=by simp at c7;omega
   have hx1:a.arcs[i-1]? =some (a.arcs[i-1]'(by omega)):=List.getElem?_eq_getElem (by omega)
   refine lst_at (ds:=Arc.enc (a.arcs[i-1]'(by omega))) (by rw[subNat h0 hil];exact ixl_at (by rw[List.getElem?_map,hx1];rfl)) ?_
   refine(before_c _ _).call ?_
   have hl:(match a.arcs[i-1]? with | none=>true | some w=>arcLt w a.arcs[i])=arcLt (a.arcs[i-1]'(by omega)) a.arcs[i]:=by rw[hx1]
   refine if_ (fun c8=>?_) fun c8=>?_
   ·exact bad (by rw[hdef,hl];simp at c8;simp[h0,c8]) _
   ·exact⟨hlt,next (by rw[hdef,hl,c1,c2,c3,c4',c5,c6];simp at c8;simp[c8]),hasG ⟨rfl,inc hlt (by simp only[maxLen];omega),trivial⟩ rfl⟩
  ·have h0:¬0<i:=by simp at c7;omega
   exact⟨hlt,next (by rw[hdef,c1,c2,c3,c4',c5,c6];simp[h0]),hasG ⟨rfl,inc hlt (by simp only[maxLen];omega),trivial⟩ rfl⟩
 ·have h3:∀j,j<a.arcs.length→arcBad a j=false:=fun j hj=>hb j (by simp at hlt;omega)
  clear hb hlt
  refine AW_idx a.ends.length (fun i st=>(∀j,j<i→endBad a j=false)∧HasG [(1,.ptr 0 0 0 1),(6,di i)] [.arr 75 3 [a.enc]] st) ⟨by simp,hasG (G:=[]) ⟨rfl,rfl,trivial⟩ rfl⟩ ?_
  rintro i _ _ ⟨hb,e,G,rfl⟩
  refine AW_drop (BlL.cons (.ptr (by simp)) (.v .nil)) (BlH.cons (fun y hy d hd=>by rw[List.mem_singleton.1 hy]at hd;exact .pd (pdAuto a d hd)) .nil) (Nat.zero_le _) fun e=>?_
  refine go [] pl131 (if_ (fun hlt=>?_) (fun hlt=>?_))
  ·simp at hlt
   refine row_at hlt ?_
   have hx:a.ends[i]? =some a.ends[i]:=List.getElem?_eq_getElem hlt
   have bad:endBad a i=true→∀H,FrzK 0 H (.v (.int .i64 1)) (di (chkA a)):=fun h H=>frzi (by rw[chkA_end hL hS h3 hlt h])
   have hdef:endBad a i=(decide (a.ends[i].state<0)||(decide (a.ends[i].state≥a.states)||(decide (a.ends[i].cost<0)||(decide (a.ends[i].cost>1000000)||(decide (0<i)&&(match a.ends[i-1]? with | none=>false | some w=>decide (w.state≥a.ends[i].state))))))):=by unfold endBad;rw[hx];rfl
   have next:endBad a i=false→∀j,j<i+1→endBad a j=false:=fun h j hj=>by
    rcases Nat.lt_or_eq_of_le (Nat.le_of_lt_succ hj)with h' | rfl
    ·exact hb j h'
    ·exact h
   have hil:i≤maxLen:=by simp only[maxLen];omega
   refine if_ (fun c1=>bad (by rw[hdef,c1];rfl) _) fun c1=>?_
   refine if_ (fun c2=>bad (by rw[hdef,c1,c2];rfl) _) fun c2=>?_
   refine if_ (fun c3=>bad (by rw[hdef,c1,c2,c3];rfl) _) fun c3=>?_
   refine if_ (fun c4=>bad (by rw[hdef,c1,c2,c3,c4];rfl) _) fun c4=>?_
   refine if_ (fun c7=>?_) fun c7=>?_
   ·have h0:0<i:=by simp at c7;omega
    have hx1:a.ends[i-1]? =some (a.ends[i-1]'(by omega)):=List.getElem?_eq_getElem (by omega)
    refine lst_at (ds:=End.enc (a.ends[i-1]'(by omega))) (by rw[subNat h0 hil];exact ixl_at (by rw[List.getElem?_map,hx1];rfl)) ?_
    have hl:(match a.ends[i-1]? with | none=>false | some w=>decide (w.state≥a.ends[i].state))=decide ((a.ends[i-1]'(by omega)).state≥a.ends[i].state):=by rw[hx1]
    refine if_ (fun c8=>?_) fun c8=>?_
    ·exact bad (by rw[hdef,hl,c8];simp[h0]) _
    ·exact⟨hlt,next (by rw[hdef,hl,c1,c2,c3,c4,c8];simp),hasG ⟨rfl,inc hlt (by simp only[maxLen];omega),trivial⟩ rfl⟩
   ·have h0:¬0<i:=by simp at c7;omega
    exact⟨hlt,next (by rw[hdef,c1,c2,c3,c4];simp[h0]),hasG ⟨rfl,inc hlt (by simp only[maxLen];omega),trivial⟩ rfl⟩
  ·exact frzi (by rw[chkA_ok hL hS h3 fun j hj=>hb j (by simp at hlt;omega)])
end Go.Proofs.YtpndfdfipkadkaaGreatDoor
set_option maxRecDepth 100000
namespace Go.Proofs.YtpndfdfipkadkaaGreatDoor
open Go Go.Wx Go.Ax
theorem arcV(x:Arc):∀d∈x.enc,∃v,d=D.v v:=fun d hd=>by
 simp[Arc.enc]at hd
 rcases hd with rfl | rfl | rfl | rfl<;>exact⟨_,rfl⟩
def pl186:Plan:=[(6,[.l 0,.p 1,.p 2,.p 3,.l 4,.e 5,.p 6])]
theorem withArc_c(l:List Arc)(a:Arc)(hl:l.length≤100000):PurN Pg 186 [rows Arc.enc l,.agg a.enc] (rows Arc.enc (isortIn arcLt a l)):=by
 refine PurN_of (PdL.cons (pd_rows pdArc l) (.one (.agg (pdArc a)))) (pd_rows pdArc _) (AC_fn Tryz.func186 rfl rfl rfl [] (fun _=>true) (fun b h=>nomatch h) (go [] pl186 ?_))
 refine AW_ghost 5 205 4 (Nat.zero_le _) ?_
 refine AW_idx l.length (fun i st=>∃out n d,isortIn arcLt a l=out++(if d=true then l.drop i else isortIn arcLt a (l.drop i))∧out.length=n∧(n≤i+1∧(d=false→n≤i))∧HasG [(0,rows Arc.enc l),(3,.ptr 0 0 0 1),(5,.sl 1 0 n n),(6,db d),(7,di i)] [.arr 205 4 [a.enc],.arr 205 4 (out.map Arc.enc)] st)
  ⟨[],0,false,by simp,rfl,⟨by omega,fun _=>by omega⟩,hasG (G:=[]) ⟨rfl,rfl,rfl,rfl,rfl,trivial⟩ rfl⟩ ?_
 rintro i _ hi ⟨out,n,d,ho,hn,⟨hni,hnd⟩,e0,G,rfl⟩
 refine AW_drop (BlL.cons (.pd (pd_rows pdArc l)) (.cons (.ptr (by simp)) (.cons (.sl (by simp)) (.v (.v .nil))))) (BlH.cons (fun y hy d hd=>by rw[List.mem_singleton.1 hy]at hd;exact .pd (pdArc a d hd)) (.cons (BlO.enc pdArc) .nil)) (Nat.zero_le _) fun e=>?_
 refine go [] pl186 (if_ (fun hlt=>?_) (fun hlt=>?_))
 ·simp at hlt
  have hdr:l.drop i=l[i]::l.drop (i+1):=List.drop_eq_getElem_cons hlt
  rw[hdr]at ho
  refine row_at hlt ?_
  refine(ahead_c a l[i]).call ?_
  cases d with
  | true=>
   refine row_at hlt ?_
   refine push (by simp[hn]) (by omega) ?_
   rw[if_pos rfl]at ho
   exact⟨hlt,out++[l[i]],n+1,true,by rw[ho,if_pos rfl];simp,by simp[hn],⟨by omega,fun h=>by cases h⟩,hasG ⟨rfl,rfl,rfl,rfl,inc hlt (by simp only[maxLen];omega),trivial⟩ (by rw[List.map_append];rfl)⟩
  | false=>
   rw[if_neg (by simp)]at ho
   have hni:=hnd rfl
   refine if_ (fun hf=>?_) fun hf=>?_
   ·refine push (by simp[hn]) (by omega) ?_
    refine row_at hlt ?_
    refine push (by simp[hn]) (by simp;omega) ?_
    rw[wArc_f hf]at ho
    exact⟨hlt,out++[a]++[l[i]],n+1+1,true,by rw[ho,if_pos rfl];simp,by simp[hn],⟨by omega,fun h=>by cases h⟩,hasG ⟨rfl,rfl,rfl,rfl,inc hlt (by simp only[maxLen];omega),trivial⟩ (by rw[List.map_append,List.map_append];rfl)⟩
   ·refine row_at hlt ?_
    refine push (by simp[hn]) (by omega) ?_
    rw[wArc_n hf]at ho
    exact⟨hlt,out++[l[i]],n+1,false,by rw[ho,if_neg (by simp)];simp,by simp[hn],⟨by omega,fun _=>by omega⟩,hasG ⟨rfl,rfl,rfl,rfl,inc hlt (by simp only[maxLen];omega),trivial⟩ (by rw[List.map_append];rfl)⟩
 ·simp at hlt
  rw[List.drop_of_length_le hlt]at ho
  cases d with
  | true=>
   rw[if_pos rfl,List.append_nil]at ho
   exact frzN_rows (enc:=Arc.enc) (xs:=isortIn arcLt a l) (T:=205) (sz:=4) (by rw[ho];rfl) (by rw[ho];exact hn) (by rw[ho];exact hn) arcV fun _=>rfl
  | false=>
   refine push (by simp[hn]) (by omega) ?_
   rw[if_neg (by simp)]at ho
   have ho2:isortIn arcLt a l=out++[a]:=ho
   exact frzN_rows (enc:=Arc.enc) (xs:=isortIn arcLt a l) (T:=205) (sz:=4) (by rw[ho2,List.map_append];rfl) (by rw[ho2];simp[hn]) (by rw[ho2];simp[hn]) arcV fun _=>rfl
noncomputable def c133:Code:=Tryz.f133.body.getD .skip
def pl133:Plan:=[(18,[.p 0,.l 1,.p 2,.p 3,.p 4,.l 5,.p 6,.p 7,.p 8,.p 9,.l 10,.p 11,.p 12,.p 13,.p 14,.e 15,.p 16,.e 17])]
theorem rows_at{xs:List Int}{i:Nat}(h:i<xs.length){K:List D→Prop}(k:K [di (xs.getD i 0)]):lst (ixl (xs.map ienc) 0 (xs.map ienc).length (i:Int)) K:=by
 refine row_at h ?_
 have:xs.getD i 0=xs[i]:=by simp[List.getD_eq_getElem?_getD,h]
 rw[this]at k
 exact k
abbrev zA:AO:= .arr 75 3 [[di 0,.v (.slice none 0 0),.v (.slice none 0 0)]]
theorem zA_bl(k:Nat):BlO k zA:=fun y hy d hd=>by
 rw[List.mem_singleton.1 hy]at hd
 simp at hd
 rcases hd with rfl | rfl<;>exact .pd (.v _)
theorem pdEndR(n:Int):Pd (endR n):= .row fun l hl d hd=>by rw[List.mem_singleton.1 hl]at hd;simp at hd;rcases hd with rfl | rfl<;>exact .v _
abbrev cA(n:Int)(xs:List Arc)(m:Int):AO:= .arr 75 3 [[di n,rows Arc.enc xs,endR m]]
theorem cA_bl(k:Nat)(n:Int)(xs:List Arc)(m:Int):BlO k (cA n xs m):=fun y hy d hd=>by
 rw[List.mem_singleton.1 hy]at hd
 simp at hd
 rcases hd with rfl | rfl | rfl
 ·exact .pd (.v _)
 ·exact .pd (pd_rows pdArc _)
 ·exact .pd (pdEndR m)
set_option maxHeartbeats 4000000 in
theorem rRaw_c(s:ByteArray)(l:List Spell)(hs:s.size≤100)(hr:RulesOk l):Pur Pg 133 [ds' s,rows Spell.enc l] (.agg (rawR s l).enc):=by
 have hl:l.length≤100:=by have:=hr.len;omega
 have hz:∀x∈l,x.frm.size≤maxLen:=fun x hx=>by
  have:=hr.ok x hx
  unfold RuleOk at this
  simp only[maxLen];omega
 have hml:(mtL s l).length≤10000:=Nat.le_trans (mtU_len s l s.size) (Nat.mul_le_mul hs hl)
 have hmat:=(rMatches_c s l hs hl hz).pur (.cons (.v _) (.one (pd_rows pdSpell l)))
 have hmt:=mtL_mt (l:=l) (s:=s)
 have hrm:=mt_rules hr s
 have hlen:=(nmI_ref hr s).arcs_len hr
 have hpm:=insF_perm (s:=s) (l:=l) (ms:=mtL s l) (N:=refNum l s (mtL s l)) fun q m hq=>by
  obtain⟨p,k,x,rfl,hx,hru,hle,_⟩:=hmt q m hq
  have:=hr.ok x (List.mem_of_getElem? hx)
  unfold RuleOk at this
  exact⟨p,k,rfl,by omega⟩
 have hE:(.agg (rawR s l).enc:D)= .agg [di (refU l (mtL s l) (s.size+1)).1,rows Arc.enc (ins (insF s l (mtL s l) (refNum l s (mtL s l)) s.size)),rows End.enc [⟨(refU l (mtL s l) s.size).1,0⟩]]:=by
  rw[insF_eq hr s]
  show D.agg [di _,rows Arc.enc (rawR s l).arcs,rows End.enc [⟨nmv (refNum l s (mtL s l)) s.size,0⟩]]=_
  rw[refNum_nm (Nat.le_refl _)]
  rfl
 rw[hE]
 clear hE
 generalize mtL s l=ms at hml hmat hmt hrm hlen hpm
 have hU:∀i,i≤101→0≤(refU l ms i).1∧(refU l ms i).1≤30000:=fun i hi=>by
  have h1:=refU_next hrm i
  have h2:=List.countP_le_length (p:=fun m:Mt=>decide (m.at_<(i:Int))) (l:=ms)
  refine⟨?_,by omega⟩
  rcases Nat.eq_zero_or_pos i with h | h
  ·subst h;exact Int.le_refl _
  ·have:=refU_lt hrm (j:=0) (i-1)
   rw[show 0+1+(i-1)=i by omega]at this
   have h0:(refU l ms 0).1=0:=rfl
   omega
 have hK:∀(i:Nat) k (n:Int),k≤ms.length→n≤rK l ms i k n∧rK l ms i k n≤n+20000:=fun i k n hk=>by
  have h1:=rK_mono hrm (i:=(i:Int)) (n:=n) (k:=0) k
  rw[Nat.zero_add]at h1
  have h2:=rK_cnt hrm (i:=(i:Int)) k n
  have h3:=List.countP_le_length (p:=fun m:Mt=>decide (m.at_=(i:Int))) (l:=ms.take k)
  rw[List.length_take]at h3
  have h0:rK l ms i 0 n=n:=rfl
  omega
 refine Pur_of (PdL.cons (.v _) (.one (pd_rows pdSpell l))) (AC_fn Tryz.func133 rfl rfl rfl [] (fun _=>true) (fun b h=>nomatch h) (AW_rest (c':=restC 0 c133) ?_))
 refine goC 4 [] pl133 ?_
 refine hmat.call ?_
 conv=>whnf
 refine AW_ghost 6 3 1 (Nat.zero_le _) ?_
 refine goC 1 [] pl133 ?_
 refine AW_idx (s.size+1) (fun i st=>HasG [(0,ds' s),(1,rows Spell.enc l),(4,.ptr 0 0 0 1),(5,rows Mt.enc ms),(6,.sl 1 0 i i),(7,di (refU l ms i).1),(8,di i)] [zA,.arr 3 1 ((refU l ms i).2.map ienc)] st) (hasG (G:=[]) ⟨rfl,rfl,rfl,rfl,rfl,rfl,rfl,trivial⟩ rfl) ?_
 ·rintro i _ hi ⟨e0,G,rfl⟩
  have hUl:=refU_len l ms i
  have hUi:=hU i (by omega)
  refine AW_drop (BlL.v (.cons (.pd (pd_rows pdSpell l)) (.cons (.ptr (by simp)) (.cons (.pd (pd_rows pdMt ms)) (.cons (.sl (by simp)) (.v (.v .nil))))))) (BlH.cons (zA_bl _) (.cons (BlO.enc pdI) .nil)) (Nat.zero_le _) fun e=>?_
  refine go [] pl133 (if_ (fun hlt=>?_) (fun hlt=>?_))
  ·have hlt:i<s.size+1:=by simp at hlt;omega
   refine push (by simp[hUl]) (by omega) ?_
   have hw:IntKind.wrap .i64 ((refU l ms i).1+1)=(refU l ms i).1+1:=wadd (by omega) (by omega)
   refine AW_idx ms.length (fun k st=>HasG [(0,ds' s),(1,rows Spell.enc l),(4,.ptr 0 0 0 1),(5,rows Mt.enc ms),(6,.sl 1 0 (i+1) (i+1)),(7,di (rK l ms i k ((refU l ms i).1+1))),(8,di i),(9,di k)] [zA,.arr 3 1 ((refU l ms (i+1)).2.map ienc)] st) ?_ ?_
   ·refine hasG (G:=[]) ⟨rfl,rfl,rfl,rfl,rfl,congrArg di hw,rfl,rfl,trivial⟩ ?_
    show _=[zA,AO.arr 3 1 (((refU l ms i).2++[(refU l ms i).1]).map ienc)]
    rw[List.map_append]
    rfl
   rintro k _ hk ⟨e1,G1,rfl⟩
   refine AW_drop (BlL.v (.cons (.pd (pd_rows pdSpell l)) (.cons (.ptr (by simp)) (.cons (.pd (pd_rows pdMt ms)) (.cons (.sl (by simp)) (.v (.v (.v .nil)))))))) (BlH.cons (zA_bl _) (.cons (BlO.enc pdI) .nil)) (Nat.zero_le _) fun e=>?_
   have hKi:=hK i k ((refU l ms i).1+1) hk
   refine go [] pl133 (if_ (fun hklt=>?_) (fun hklt=>?_))
   ·simp at hklt
    obtain⟨p,k',x,hm,hx,hru,hle,hocc⟩:=hmt k _ (List.getElem?_eq_getElem hklt)
    have hmk:ms[k]? =some ⟨p,k'⟩:=by rw[List.getElem?_eq_getElem hklt,hm]
    obtain⟨r1,r2,r3,r4,r5,r6⟩:=hr.ok x (List.mem_of_getElem? hx)
    have hrow:ixl (l.map Spell.enc) 0 (l.map Spell.enc).length (k':Int)=some x.enc:=ixl_at (by rw[List.getElem?_map,hx];rfl)
    have hsucc:=rK_succ (l:=l) (i:=(i:Int)) hmk ((refU l ms i).1+1)
    rw[hm]at hru
    have hmw:mW l ⟨p,k'⟩=x.to.size-1:=by unfold mW;rw[hru]
    rw[hmw]at hsucc
    simp only at hsucc
    refine row_at hklt ?_
    generalize ms[k]=mm at hm
    subst hm
    refine if_ (fun h=>?_) fun h=>?_
    ·have he:(p:Int)=i:=by simpa using h
     rw[if_pos he]at hsucc
     refine row_at hklt ?_
     have hm2:ms[k]=⟨p,k'⟩:=by rw[List.getElem?_eq_getElem hklt]at hmk;exact Option.some.inj hmk
     rw[hm2]
     refine lst_at hrow ?_
     have w1:IntKind.wrap .i64 (rK l ms i k ((refU l ms i).1+1)+(x.to.size:Int))=rK l ms i k ((refU l ms i).1+1)+(x.to.size:Int):=wadd (by omega) (by omega)
     have w2:IntKind.wrap .i64 (rK l ms i k ((refU l ms i).1+1)+(x.to.size:Int)-1)=rK l ms i k ((refU l ms i).1+1)+(x.to.size:Int)-1:=wrap_id (by omega) (by omega)
     refine⟨hklt,hasG ⟨rfl,rfl,rfl,rfl,rfl,?_,rfl,inc hklt (by simp only[maxLen];omega),trivial⟩ rfl⟩
     show D.v (.int .i64 (IntKind.wrap .i64 (IntKind.wrap .i64 (rK l ms i k ((refU l ms i).1+1)+(x.to.size:Int))-1)))=_
     rw[w1,w2,hsucc]
     exact congrArg di (by omega)
    ·have he:¬(p:Int)=i:=by simpa using h
     rw[if_neg he]at hsucc
     exact⟨hklt,hasG ⟨rfl,rfl,rfl,rfl,rfl,congrArg di hsucc.symm,rfl,inc hklt (by simp only[maxLen];omega),trivial⟩ rfl⟩
   ·simp at hklt
    have hkl:k=ms.length:=by omega
    subst hkl
    exact⟨hlt,hasG ⟨rfl,rfl,rfl,rfl,rfl,rfl,inc hlt (by simp only[maxLen];omega),trivial⟩ rfl⟩
  ·have hin:i=s.size+1:=by simp at hlt;omega
   subst hin
   obtain⟨nums,hnums⟩:∃nums,nums=(refU l ms (s.size+1)).2:=⟨_,rfl⟩
   obtain⟨top,htop⟩:∃top,top=(refU l ms (s.size+1)).1:=⟨_,rfl⟩
   have hnl:nums.length=s.size+1:=by rw[hnums];exact refU_len l ms _
   have hng:∀j,j≤s.size→nums.getD j 0=(refU l ms j).1:=fun j hj=>by rw[hnums];exact refU_at l ms _ (by omega)
   rw[←hnums,←htop]
   conv=>whnf
   refine AW_has (l:=[(0,ds' s),(1,rows Spell.enc l),(4,.ptr 0 0 0 1),(5,rows Mt.enc ms),(6,.sl 1 0 (s.size+1) (s.size+1)),(7,di top)]) (fun e1=>?_) ⟨rfl,rfl,rfl,rfl,rfl,rfl,trivial⟩
   refine AW_frz (r:=[(0,ds' s),(1,rows Spell.enc l),(4,.ptr 0 0 0 1),(5,rows Mt.enc ms),(6,rows ienc nums),(7,di top)]) (H1:=[zA]) (G:=[.arr 3 1 (nums.map ienc)]) (Nat.zero_le _) (BlH.cons (zA_bl _) .nil) ⟨rfl,.v,rfl,.pd (pd_rows pdSpell l),rfl,.b (.ptr (by simp)),rfl,.pd (pd_rows pdMt ms),rfl,.fz (frzK_rows (enc:=ienc) (xs:=nums) (T:=3) (sz:=1) rfl hnl hnl pdI (fun _=>rfl) (Nat.le_refl _)),rfl,.v,trivial⟩ fun e2=>?_
   refine goC 1 [] pl133 ?_
   conv=>whnf
   refine rows_at (i:=s.size) (by omega) ?_
   conv=>whnf
   rw[hng s.size (Nat.le_refl _)]
   obtain⟨nS,hnS⟩:∃nS,nS=(refU l ms s.size).1:=⟨_,rfl⟩
   rw[←hnS]
   refine AW_ncell 1 0 1 75 3 (xs:=[[di top,.v (.slice none 0 0),.row true [[di nS,di 0]]]]) (ds:=[di top,.v (.slice none 0 0),.row true [[di nS,di 0]]]) rfl rfl rfl (.inl (Nat.zero_le _)) ?_
   obtain⟨N,hN⟩:∃N,N=refNum l s ms:=⟨_,rfl⟩
   rw[←hN]at hlen hpm ⊢
   have hnm:∀j,j≤s.size→nmv N j=(refU l ms j).1:=fun j hj=>by rw[hN];exact refNum_nm hj
   have hNn:nums=N.nums:=by rw[hnums,hN];rfl
   subst hNn
   have hFl:∀i,i≤s.size→(insF s l ms N i).length≤30200:=fun i hi=>by
    have h1:=hpm.length_eq
    have h2:=insF_le s l ms N i (s.size-i)
    rw[show i+(s.size-i)=s.size by omega]at h2
    omega
   have hinl:∀ys:List Arc,ys.length≤90000→(ins ys).length≤100000:=fun ys h=>by rw[(ins_perm ys).length_eq];omega
   refine goC 1 [] pl133 ?_
   refine AW_idx s.size (fun i st=>HasG [(0,ds' s),(1,rows Spell.enc l),(4,.ptr 0 0 0 1),(5,rows Mt.enc ms),(6,rows ienc N.nums),(10,.ptr 1 0 0 1),(11,di i)] [zA,cA top (ins (insF s l ms N i)) nS] st) (hasG (G:=[]) ⟨rfl,rfl,rfl,rfl,rfl,rfl,rfl,trivial⟩ rfl) ?_
   rintro i _ hi ⟨e3,G3,rfl⟩
   refine AW_drop (BlL.v (.cons (.pd (pd_rows pdSpell l)) (.cons (.ptr (by simp)) (.cons (.pd (pd_rows pdMt ms)) (.cons (.pd (pd_rows pdI N.nums)) (.cons (.ptr (by simp)) (.v .nil))))))) (BlH.cons (zA_bl _) (.cons (cA_bl _ _ _ _) .nil)) (Nat.zero_le _) fun e=>?_
   refine go [] pl133 (if_ (fun hlt=>?_) (fun hlt=>?_))
   ·simp at hlt
    have hUi:=hU i (by omega)
    refine rows_at (by omega) ?_
    conv=>whnf
    have hw1:IntKind.wrap .i64 ((i:Int)+1)=((i+1:Nat):Int):=by rw[wadd (by omega) (by omega)];rfl
    rw[hw1]
    refine rows_at (by omega) ?_
    conv=>whnf
    refine ck (sidx hlt) ?_
    conv=>whnf
    refine((withArc_c (ins (insF s l ms N i)) ⟨nmv N i,nmv N (i+1),byteAt s i,0⟩ (hinl _ (by have:=hFl i hi;omega))).pur (.cons (pd_rows pdArc _) (.one (.agg (pdArc _))))).call ?_
    rw[←ins_snoc]
    conv=>whnf
    refine rows_at (by omega) ?_
    conv=>whnf
    have hw2:IntKind.wrap .i64 (N.nums.getD i 0+1)=nmv N i+1:=wadd (by have:=hng i hi;omega) (by have:=hng i hi;omega)
    refine AW_idx ms.length (fun k st=>HasG [(0,ds' s),(1,rows Spell.enc l),(4,.ptr 0 0 0 1),(5,rows Mt.enc ms),(6,rows ienc N.nums),(10,.ptr 1 0 0 1),(11,di i),(12,di (rK l ms i k (nmv N i+1))),(13,di k)] [zA,cA top (ins (insF s l ms N i++(⟨nmv N i,nmv N (i+1),byteAt s i,0⟩::chI l ms N i k))) nS] st)
     (hasG (G:=[]) ⟨rfl,rfl,rfl,rfl,rfl,rfl,rfl,congrArg di hw2,rfl,trivial⟩ rfl) ?_
    rintro k _ hk ⟨e4,G4,rfl⟩
    refine AW_drop (BlL.v (.cons (.pd (pd_rows pdSpell l)) (.cons (.ptr (by simp)) (.cons (.pd (pd_rows pdMt ms)) (.cons (.pd (pd_rows pdI N.nums)) (.cons (.ptr (by simp)) (.v (.v (.v .nil))))))))) (BlH.cons (zA_bl _) (.cons (cA_bl _ _ _ _) .nil)) (Nat.zero_le _) fun e=>?_
    have hKi:=hK i k (nmv N i+1) hk
    have hni:=hng i hi
    refine go [] pl133 (if_ (fun hklt=>?_) (fun hklt=>?_))
    ·simp at hklt
     obtain⟨p,k',x,hm,hx,hru,hle,hocc⟩:=hmt k _ (List.getElem?_eq_getElem hklt)
     have hmk:ms[k]? =some ⟨p,k'⟩:=by rw[List.getElem?_eq_getElem hklt,hm]
     obtain⟨r1,r2,r3,r4,r5,r6⟩:=hr.ok x (List.mem_of_getElem? hx)
     have hrow:ixl (l.map Spell.enc) 0 (l.map Spell.enc).length (k':Int)=some x.enc:=ixl_at (by rw[List.getElem?_map,hx];rfl)
     have hsucc:=rK_succ (l:=l) (i:=(i:Int)) hmk (nmv N i+1)
     have hcs:=chI_succ (l:=l) (N:=N) (i:=i) hmk
     rw[hm]at hru
     have hmw:mW l ⟨p,k'⟩=x.to.size-1:=by unfold mW;rw[hru]
     rw[hmw]at hsucc
     rw[hru]at hcs
     simp only at hsucc hcs
     have hm2:ms[k]=⟨p,k'⟩:=hm
     refine row_at hklt ?_
     rw[hm2]
     refine if_ (fun h=>?_) fun h=>?_
     ·have he:¬(p:Int)=i:=by simpa using h
      rw[if_neg he]at hsucc hcs
      rw[List.append_nil]at hcs
      exact⟨hklt,hasG (G:=[]) ⟨rfl,rfl,rfl,rfl,rfl,rfl,rfl,congrArg di hsucc.symm,inc hklt (by simp only[maxLen];omega),trivial⟩ (by rw[hcs];rfl)⟩
     ·have he:(p:Int)=i:=by simpa using h
      rw[if_pos he]at hsucc hcs
      refine row_at hklt ?_
      rw[hm2]
      refine lst_at hrow ?_
      conv=>whnf
      refine rows_at (by omega) ?_
      conv=>whnf
      have hpi:p=i:=by omega
      subst hpi
      obtain⟨I,hI⟩:∃I,I=rK l ms p k (nmv N p+1):=⟨_,rfl⟩
      have hIn:inv N k=I:=by
       rw[hI,hnm p hi,hN]
       exact refNum_in hmk hi
      rw[←hI]at hKi hsucc ⊢
      have hnp:=hng p hi
      have hend:=hng (p+x.frm.size) hle
      have hUe:=hU (p+x.frm.size) (by omega)
      let atJ:Nat→Int:=fun j=>if j=0 then nmv N p else if j=x.to.size then nmv N (p+x.frm.size)else I+(j-1)
      let ow:Nat→Int:=fun j=>if j<x.to.size then I+j else I+(x.to.size-1)
      have hch:∀j,j<x.to.size→chA l N k ⟨p,k'⟩ j=⟨atJ j,if j+1=x.to.size then nmv N (p+x.frm.size)else I+j,byteAt x.to j,if j=0 then x.cost else 0⟩:=fun j hj=>by
       have hne:j≠x.to.size:=by omega
       rw[chA_eq hru,hIn]
       simp only[atJ,if_neg hne]
      obtain⟨P,hP⟩:∃P,P=insF s l ms N p++(⟨nmv N p,nmv N (p+1),byteAt s p,0⟩::chI l ms N p k):=⟨_,rfl⟩
      have hPl:P.length≤70000:=by
       have h1:=hFl p hi
       have h2:=chI_len hrm N p k
       rw[hP,List.length_append,List.length_cons]
       omega
      have hnext:insF s l ms N p++(⟨nmv N p,nmv N (p+1),byteAt s p,0⟩::chI l ms N p (k+1))=P++chJ l N k ⟨p,k'⟩ x.to.size:=by rw[hcs,hP];simp
      rw[←hP]
      have hcl:∀j,(chJ l N k ⟨p,k'⟩ j).length=j:=fun j=>by simp[chJ]
      refine AW_idx x.to.size (fun j st=>HasG [(0,ds' s),(1,rows Spell.enc l),(4,.ptr 0 0 0 1),(5,rows Mt.enc ms),(6,rows ienc N.nums),(10,.ptr 1 0 0 1),(11,di p),(12,di (ow j)),(13,di k),(14,.ptr 2 0 0 1),(15,di (atJ j)),(16,di j)] [zA,cA top (ins (P++chJ l N k ⟨p,k'⟩ j)) nS,.arr 113 3 [x.enc]] st) ?_ ?_
      ·refine hasG (G:=[]) ⟨rfl,rfl,rfl,rfl,rfl,rfl,rfl,?_,rfl,rfl,rfl,rfl,trivial⟩ ?_
       ·show di I=di (ow 0)
        simp only[ow]
        rw[if_pos (by omega)]
        exact congrArg di (by omega)
       ·have h0:P++chJ l N k ⟨p,k'⟩ 0=P:=by simp[chJ]
        rw[h0]
        rfl
      rintro j _ hj ⟨e5,G5,rfl⟩
      refine AW_drop (BlL.v (.cons (.pd (pd_rows pdSpell l)) (.cons (.ptr (by simp)) (.cons (.pd (pd_rows pdMt ms)) (.cons (.pd (pd_rows pdI N.nums)) (.cons (.ptr (by simp)) (.v (.v (.v (.cons (.ptr (by simp)) (.v (.v .nil)))))))))))) (BlH.cons (zA_bl _) (.cons (cA_bl _ _ _ _) (.cons (fun y hy d hd=>by
       rw[List.mem_singleton.1 hy]at hd
       exact .pd (pdSpell x d hd)) .nil))) (Nat.zero_le _) fun e=>?_
      refine go [] pl133 (if_ (fun hjlt=>?_) (fun hjlt=>?_))
      ·simp at hjlt
       have hc:=hch j hjlt
       have hjs:ins (P++chJ l N k ⟨p,k'⟩ (j+1))=isortIn arcLt (chA l N k ⟨p,k'⟩ j) (ins (P++chJ l N k ⟨p,k'⟩ j)):=by
        have:chJ l N k ⟨p,k'⟩ (j+1)=chJ l N k ⟨p,k'⟩ j++[chA l N k ⟨p,k'⟩ j]:=by unfold chJ;rw[List.range_succ,List.map_append];rfl
        rw[this,←List.append_assoc,ins_snoc]
       have hlj:(ins (P++chJ l N k ⟨p,k'⟩ j)).length≤100000:=hinl _ (by rw[List.length_append,hcl];omega)
       have hoj:ow j=I+j:=by simp only[ow];rw[if_pos hjlt]
       have hv1:IntKind.wrap .i64 ((x.to.size:Int)-1)=(x.to.size:Int)-1:=wrap_id (by omega) (by omega)
       have hnp':nmv N p=(refU l ms p).1:=hnp
       have hv2':IntKind.wrap .i64 (I+j+1)=I+j+1:=wadd (by omega) (by omega)
       have hv2:IntKind.wrap .i64 (ow j+1)=I+j+1:=by rw[hoj];exact hv2'
       have hv3:IntKind.wrap .i64 ((p:Int)+(x.frm.size:Int))=((p+x.frm.size:Nat):Int):=by rw[wadd (by omega) (by omega)];rfl
       have last:j+1=x.to.size→di (I+j)=di (ow (j+1)):=fun b0=>by
        simp only[ow]
        rw[if_neg (by omega)]
        exact congrArg di (by omega)
       have lastT:j+1=x.to.size→di (nmv N (p+x.frm.size))=di (atJ (j+1)):=fun b0=>by
        simp only[atJ]
        rw[if_neg (by omega),if_pos b0]
       have goon:¬j+1=x.to.size→di (I+j+1)=di (ow (j+1)):=fun b0=>by
        simp only[ow]
        rw[if_pos (by omega)]
        exact congrArg di (by omega)
       have goonT:¬j+1=x.to.size→di (I+j)=di (atJ (j+1)):=fun b0=>by
        simp only[atJ]
        rw[if_neg (by omega),if_neg b0]
        exact congrArg di (by omega)
       rw[hoj]
       refine ck (sidx hjlt) ?_
       conv=>whnf
       have withA:=fun(c t:Int)=>(withArc_c (ins (P++chJ l N k ⟨p,k'⟩ j)) ⟨atJ j,t,byteAt x.to j,c⟩ hlj).pur (.cons (pd_rows pdArc _) (.one (.agg (pdArc _))))
       refine if_ (fun a=>?_) fun a=>?_
       ·have a0:j=0:=by simpa using a
        rw[if_pos a0]at hc
        conv=>whnf
        refine if_ (fun b=>?_) fun b=>?_
        ·have b0:j+1=x.to.size:=by rw[hv1]at b;simp at b;omega
         rw[if_pos b0]at hc
         rw[hc]at hjs
         conv=>whnf
         rw[hv3]
         refine rows_at (by omega) ?_
         conv=>whnf
         refine(withA x.cost (nmv N (p+x.frm.size))).call ?_
         rw[←hjs]
         conv=>whnf
         exact⟨hjlt,hasG (G:=[_]) ⟨rfl,rfl,rfl,rfl,rfl,rfl,rfl,last b0,rfl,rfl,lastT b0,inc hjlt (by simp only[maxLen];omega),trivial⟩ rfl⟩
        ·have b0:¬j+1=x.to.size:=by rw[hv1]at b;simp at b;omega
         rw[if_neg b0]at hc
         rw[hc]at hjs
         conv=>whnf
         have hc2:=withA x.cost (ow j)
         rw[hoj]at hc2
         refine hc2.call ?_
         rw[←hjs]
         conv=>whnf
         exact⟨hjlt,hasG (G:=[_]) ⟨rfl,rfl,rfl,rfl,rfl,rfl,rfl,(congrArg di hv2').trans (goon b0),rfl,rfl,goonT b0,inc hjlt (by simp only[maxLen];omega),trivial⟩ rfl⟩
       ·have a0:¬j=0:=by simpa using a
        rw[if_neg a0]at hc
        conv=>whnf
        refine if_ (fun b=>?_) fun b=>?_
        ·have b0:j+1=x.to.size:=by rw[hv1]at b;simp at b;omega
         rw[if_pos b0]at hc
         rw[hc]at hjs
         conv=>whnf
         rw[hv3]
         refine rows_at (by omega) ?_
         conv=>whnf
         refine(withA 0 (nmv N (p+x.frm.size))).call ?_
         rw[←hjs]
         conv=>whnf
         exact⟨hjlt,hasG (G:=[_]) ⟨rfl,rfl,rfl,rfl,rfl,rfl,rfl,last b0,rfl,rfl,lastT b0,inc hjlt (by simp only[maxLen];omega),trivial⟩ rfl⟩
        ·have b0:¬j+1=x.to.size:=by rw[hv1]at b;simp at b;omega
         rw[if_neg b0]at hc
         rw[hc]at hjs
         conv=>whnf
         have hc2:=withA 0 (ow j)
         rw[hoj]at hc2
         refine hc2.call ?_
         rw[←hjs]
         conv=>whnf
         exact⟨hjlt,hasG (G:=[_]) ⟨rfl,rfl,rfl,rfl,rfl,rfl,rfl,(congrArg di hv2').trans (goon b0),rfl,rfl,goonT b0,inc hjlt (by simp only[maxLen];omega),trivial⟩ rfl⟩
      ·simp at hjlt
       have hjl:j=x.to.size:=by omega
       subst hjl
       conv=>whnf
       refine⟨hklt,hasG (G:=[_]) ⟨rfl,rfl,rfl,rfl,rfl,rfl,rfl,?_,inc hklt (by simp only[maxLen];omega),trivial⟩ (by rw[hnext];rfl)⟩
       rw[hsucc]
       show di (ow x.to.size)=_
       simp only[ow]
       rw[if_neg (by omega)]
    ·simp at hklt
     have hkl:k=ms.length:=by omega
     subst hkl
     exact⟨hlt,hasG (G:=[]) ⟨rfl,rfl,rfl,rfl,rfl,rfl,inc hlt (by simp only[maxLen];omega),trivial⟩ (by rw[insF_succ];rfl)⟩
   ·have hin:i=s.size:=by simp at hlt;omega
    subst hin
    conv=>whnf
    refine goC 2 [] pl133 ?_
    conv=>whnf
    refine .agg rfl fun j d d' h1 h2=>?_
    match j with
    | 0=>cases h1;cases h2;exact .pd (.v _)
    | 1=>cases h1;cases h2;exact .pd (pd_rows pdArc _)
    | 2=>cases h1;cases h2;exact FrzK.row (k0:=0) (cl:=true) (xs:=[[di nS,di 0]]) (fun l hl d hd=>by rw[List.mem_singleton.1 hl]at hd;simp at hd;rcases hd with rfl | rfl<;>exact .v _)
    | j+3=>cases h1
end Go.Proofs.YtpndfdfipkadkaaGreatDoor
