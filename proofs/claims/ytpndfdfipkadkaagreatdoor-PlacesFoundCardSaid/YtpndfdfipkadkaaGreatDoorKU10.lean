/- The law holds: part 342. Conditions: none. -/
import Derived.Test.YtpndfdfipkadkaaGreatDoorKU4
import Derived.Test.YtpndfdfipkadkaaGreatDoorKU9
set_option linter.all false
set_option maxRecDepth 100000
namespace Go.Proofs.YtpndfdfipkadkaaGreatDoor
open Go Go.Wx Go.Ax
theorem frzK_rows{k0:Nat}{H:Heap}{α:Type}{enc:α→List D}{xs:List α}{b n h T sz:Nat}(hb:H[b]? =some (.arr T sz (xs.map enc)))(hn:xs.length=n)(hh:xs.length=h)(he:∀x,PdL (enc x))(hz:∀x,(enc x).length=sz)(hk:k0≤b):FrzK k0 H (.sl b 0 n h) (rows enc xs):=by
 refine .sl hb (by simpa using hh) (by simp;omega) (by simpa using hn) (fun l hl=>?_) (fun j k=>(at2 (xs.map enc) j k).getD .any) (fun j k d hd=>?_) (fun j k d hd=>?_) hk
 ·obtain⟨x,_,rfl⟩:=List.mem_map.1 hl
  exact hz x
 ·rw[Nat.zero_add,hd];rfl
 ·rw[hd]
  obtain⟨l,h1,h2⟩:=at2_some.1 hd
  rw[List.getElem?_map,Option.map_eq_some_iff]at h1
  obtain⟨x,_,rfl⟩:=h1
  exact .pd (he x d (List.mem_of_getElem? h2))
theorem any_take{α:Type}{s:List α}{p:α→Bool}{i:Nat}(hi:i<s.length)(h:p s[i]=true):s.any p=true:=List.any_eq_true.2 ⟨s[i],List.getElem_mem hi,h⟩
end Go.Proofs.YtpndfdfipkadkaaGreatDoor
set_option maxRecDepth 100000
namespace Go.Proofs.YtpndfdfipkadkaaGreatDoor
open Go Go.Wx Go.Ax
def stK(s:List Pl):List Value:=s.map fun p=> .int .i64 p.id
def plC(p:Pl):List D:=[db p.ex,di p.parent,di p.into,rows Use.enc p.uses]
def stV(s:List Pl):List D:=s.map fun p=> .fp (plC p)
def stD(s:List Pl):D:= .fmap (stK s) (stV s)
theorem pdPlC(p:Pl):PdL (plC p):= .cons (.v _) (.cons (.v _) (.cons (.v _) (.cons (pd_rows pdUse _) .nil)))
theorem pd_st(s:List Pl):Pd (stD s):= .fmap fun d hd=>by
 obtain⟨p,_,rfl⟩:=List.mem_map.1 hd
 exact .fp (pdPlC p)
theorem keyI(a b:Int):keyP Pg 3 (.int .i64 a) (.int .i64 b)=true:=by kernel_rfl
theorem keys_st(s:List Pl)(n:Int):KeysOk Pg 3 (.int .i64 n) (stK s):=⟨keyI n n,fun k hk=>by
 obtain⟨p,_,rfl⟩:=List.mem_map.1 hk
 exact keyI n p.id⟩
theorem mget_st(s:List Pl)(n:Int):mget (.int .i64 n) (stK s) (stV s)=(get s n).map fun p=> .fp (plC p):=by
 induction s with
 | nil=>rfl
 | cons p s ih=>
  show cond (n==p.id) (some (D.fp (plC p))) (mget (.int .i64 n) (stK s) (stV s))=_
  rw[ih]
  unfold get
  rw[List.find?_cons]
  by_cases h:p.id=n
  ·subst h;simp
  ·rw[beq_eq_false_iff_ne.2 h,beq_eq_false_iff_ne.2 (Ne.symm h)];rfl
theorem st_at{s:List Pl}{n:Int}{p:Pl}{Kt:D→Prop}{Kf:Prop}(h:get s n=some p)(k:Kt (.fp (plC p))):KeysOk Pg 3 (.int .i64 n) (stK s)∧mlk (mget (.int .i64 n) (stK s) (stV s)) Kt Kf:=
 ⟨keys_st s n,mlk_some (by rw[mget_st,h];rfl) k⟩
theorem st_no{s:List Pl}{n:Int}{Kt:D→Prop}{Kf:Prop}(h:get s n=none)(k:Kf):KeysOk Pg 3 (.int .i64 n) (stK s)∧mlk (mget (.int .i64 n) (stK s) (stV s)) Kt Kf:=
 ⟨keys_st s n,mlk_none (by rw[mget_st,h];rfl) k⟩
theorem exists_c(s:List Pl)(n:Int):Pur Pg 92 [stD s,di n] (db (hereB s n)):=by
 refine fn Tryz.func92 [] [] (.cons (pd_st s) (.cons (.v _) .nil)) ?_
 cases h:get s n with
 | none=>
  refine st_no h ?_
  exact frzb (by rw[hereB_none h])
 | some p=>
  refine st_at h ?_
  refine st_at h ?_
  exact frzb (by rw[hereB_get h])
theorem missing_c(s:List Pl)(n:Int):Pur Pg 164 [stD s,di n] (di (if(get s n).isNone then 5 else if !hereB s n then 22 else 0)):=by
 refine fn Tryz.func164 [] [] (.cons (pd_st s) (.cons (.v _) .nil)) ?_
 cases h:get s n with
 | none=>
  refine st_no h ?_
  exact frzi rfl
 | some p=>
  refine st_at h ?_
  refine st_at h ?_
  refine if_ (fun hx=>?_) fun hx=>?_
  ·exact frzi (by rw[hereB_get h];simp at hx;simp[hx])
  ·exact frzi (by rw[hereB_get h];simp at hx;simp[hx])
theorem idx_c(l:List Int)(n:Int):∃r:Int,(decide (r≥0)=l.any (· ==n))∧Pur Pg 219 [rows ienc l,di n] (di r):=by
 by_cases hex:∃i:Nat,∃hi:i<l.length,(l[i]==n)=true∧∀x∈l.take i,(x==n)=false
 ·obtain⟨i0,h0,h1,h2⟩:=hex
  refine⟨i0,by rw[any_take (p:=(· ==n)) h0 h1];simp,?_⟩
  refine Pur_len 0 rfl fun hl=>fn Tryz.func219 [] [] (.cons (pd_rows pdI l) (.cons (.v _) .nil)) ?_
  rw[List.length_map]at hl
  refine AW_idx l.length (fun i st=>i≤i0∧Has [(0,rows ienc l),(1,di n),(7,di (l.map ienc).length),(8,di i)] [] st) ⟨by omega,has ⟨rfl,rfl,rfl,rfl,trivial⟩ rfl⟩ ?_
  rintro i _ _ ⟨h3,e,rfl⟩
  refine go [] [] (if_ (fun hlt=>?_) (fun hlt=>?_))
  ·simp at hlt
   refine row_at hlt (if_ (fun he=>?_) (fun he=>?_))
   ·refine frzi ?_
    rcases Nat.lt_or_eq_of_le h3 with h | h
    ·have:=h2 l[i] (by rw[List.mem_take_iff_getElem];exact⟨i,by omega,rfl⟩)
     have he':(n==l[i])=true:=he
     rw[beq_iff_eq]at he';rw[he']at this;simp at this
    ·rw[h]
   ·refine⟨hlt,?_,has ⟨rfl,rfl,rfl,inc hlt hl,trivial⟩ rfl⟩
    rcases Nat.lt_or_eq_of_le h3 with h | h
    ·omega
    ·have he':(n==l[i])=false:=he
     subst h
     rw[beq_iff_eq]at h1;rw[h1]at he';simp at he'
  ·simp at hlt;omega
 ·have hall:∀i,(hi:i<l.length)→(l[i]==n)=false:=by
   intro i
   induction i using Nat.strongRecOn with
   | _ i ih=>
    intro hi
    cases hb:l[i]==n with
    | false=>rfl
    | true=>
     refine absurd ⟨i,hi,hb,fun x hx=>?_⟩ hex
     rw[List.mem_take_iff_getElem]at hx
     obtain⟨k,hk,rfl⟩:=hx
     exact ih k (by omega) (by omega)
  refine⟨-1,?_,?_⟩
  ·have:l.any (· ==n)=false:=List.any_eq_false.2 fun x hx=>by
    obtain⟨k,hk,rfl⟩:=List.getElem_of_mem hx
    rw[hall k hk];simp
   rw[this];rfl
  ·refine Pur_len 0 rfl fun hl=>fn Tryz.func219 [] [] (.cons (pd_rows pdI l) (.cons (.v _) .nil)) ?_
   rw[List.length_map]at hl
   refine AW_idx l.length (fun i st=>Has [(0,rows ienc l),(1,di n),(7,di (l.map ienc).length),(8,di i)] [] st) (has ⟨rfl,rfl,rfl,rfl,trivial⟩ rfl) ?_
   rintro i _ _ ⟨e,rfl⟩
   refine go [] [] (if_ (fun hlt=>?_) (fun hlt=>?_))
   ·simp at hlt
    refine row_at hlt (if_ (fun he=>?_) (fun he=>?_))
    ·have he':(n==l[i])=true:=he
     have:=hall i hlt
     rw[beq_iff_eq]at he';rw[he']at this;simp at this
    ·exact⟨hlt,has ⟨rfl,rfl,rfl,inc hlt hl,trivial⟩ rfl⟩
   ·exact frzi rfl
theorem containsI_c(l:List Int)(n:Int):Pur Pg 176 [rows ienc l,di n] (db (l.any (· ==n))):=by
 obtain⟨r,h1,h2⟩:=idx_c l n
 refine fn Tryz.func176 [] [] (.cons (pd_rows pdI l) (.cons (.v _) .nil)) ?_
 refine h2.call ?_
 exact frzb h1
theorem pathP_c(s:List Pl)(n:Int)(l:List Int)(hp:ParOk s)(h0:hereB s 0=false)(h:IsPath s n l)(hl:l.length≤s.length)(hs:s.length≤100000):Pur Pg 99 [stD s,di n] (rows ienc l):=by
 refine fn Tryz.func99 [] [] (.cons (pd_st s) (.cons (.v _) .nil)) ?_
 refine(exists_c s n).call ?_
 refine if_ (fun hx=>?_) fun hx=>?_
 ·have hx:hereB s n=false:=by simpa using hx
  cases l with
  | nil=>exact .nil
  | cons q l=>exact absurd (parI_not hx) (by rw[h.1];exact h.2.1)
 have hx:hereB s n=true:=by simpa using hx
 obtain⟨p,hg,hex⟩:=hereB_iff.1 hx
 refine st_at hg ?_
 have hpar:p.parent=parI s n:=by rw[parI_get hg,if_pos hex]
 refine AW_ghost 5 3 1 (Nat.zero_le _) ?_
 refine AW_idx l.length (fun i st=>∃pre rest q xs,l=pre++rest∧pre.length=i∧IsPath s q rest∧xs=pre.map ienc∧Has [(0,stD s),(5,.sl 0 0 i i),(6,di (parI s q))] [.arr 3 1 xs] st) ⟨[],l,n,[],rfl,rfl,h,rfl,has ⟨rfl,rfl,congrArg di hpar,trivial⟩ rfl⟩ ?_
 rintro i _ _ ⟨pre,rest,q,xs,h1,h2,h3,h4,e,rfl⟩
 subst h4
 have hil:i≤l.length:=by rw[h1];simp;omega
 refine go [] [] ?_
 refine(exists_c s _).call ?_
 cases rest with
 | nil=>
  rw[show hereB s (parI s q)=false by rw[show parI s q=0 from h3,h0]]
  simp at h1;subst h1;subst h2
  exact frz_rows rfl rfl (by simp) pdI fun _=>rfl
 | cons r rest=>
  obtain⟨h4,h5,h6⟩:=h3
  have hr:hereB s r=true:=by rw[←h4];exact hp q (by rw[h4];exact h5)
  rw[h4,hr]
  obtain⟨pr,hgr,hexr⟩:=hereB_iff.1 hr
  have hparr:pr.parent=parI s r:=by rw[parI_get hgr,if_pos hexr]
  refine ift (by simp[stK];omega) ?_
  refine push (by simp[h2]) (by omega) ?_
  refine st_at hgr ?_
  exact⟨by rw[h1];simp;omega,pre++[r],rest,r,pre.map ienc++[ienc r],by simp[h1],by simp[h2],h6,by simp,has ⟨rfl,rfl,congrArg di hparr,trivial⟩ rfl⟩
theorem containsP_c(s:List Pl)(a b:Int)(l:List Int)(hp:ParOk s)(h0:hereB s 0=false)(h:IsPath s b l)(hl:l.length≤s.length)(hs:s.length≤100000):Pur Pg 116 [stD s,di a,di b] (db (contB s a b l)):=by
 refine fn Tryz.func116 [] [] (.cons (pd_st s) (.cons (.v _) (.cons (.v _) .nil))) ?_
 refine(exists_c s a).call ?_
 refine if_ (fun ha=>?_) fun ha=>?_
 ·refine(exists_c s b).call ?_
  refine if_ (fun hb=>?_) fun hb=>?_
  ·refine if_ (fun he=>?_) fun he=>?_
   ·exact frzb (by simp[contB,ha,hb,he])
   ·refine(pathP_c s b l hp h0 h hl hs).call ?_
    refine(containsI_c l a).call ?_
    exact frzb (by simp[contB,ha,hb,he])
  ·exact frzb (by simp[contB,hb])
 ·exact frzb (by simp[contB,ha])
end Go.Proofs.YtpndfdfipkadkaaGreatDoor
