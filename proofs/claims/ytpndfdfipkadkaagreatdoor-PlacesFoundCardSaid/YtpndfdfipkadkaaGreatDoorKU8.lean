/- The law holds: part 340. Conditions: none. -/
import Derived.Test.YtpndfdfipkadkaaGreatDoorKU7
set_option linter.all false
set_option maxRecDepth 100000
namespace Go.Proofs.YtpndfdfipkadkaaGreatDoor
open Go Go.Wx Go.Ax
def upToL(l:List Ev)(day:Int):List Pl:=l.foldl (fun s e=>if e.day≤day then afterL s e else s) []
def RunOk(l:List Ev)(day:Int):Prop:=l.length≤1000∧∀(i:Nat) (h:i<l.length),l[i].day≤day→evOk (upToL (l.take i) day) l[i]
def onL(l:List Ev)(day:Int):List Pl:=if decide (day<0)||decide (day>100000)then []else upToL l day
def refG(l:List Ev):D:= .fp [rows Ev.enc l]
theorem pd_refG(l:List Ev):Pd (refG l):= .fp fun d hd=>by rw[List.mem_singleton]at hd;subst hd;exact pd_rows pdEv l
def nameL(s:List Pl)(p:Int):ByteArray:=match get s p with
 | some x=>if x.ex then(match x.uses[(lastT x.uses).toNat]? with | some u=>u.name | none=>⟨#[]⟩)else⟨#[]⟩
 | none=>⟨#[]⟩
def namesL(s:List Pl)(p day:Int):List ByteArray:=match get s p with
 | some x=>if x.ex then usingL x.uses day else []
 | none=>[]
theorem lastT_lt(l:List Use):lastT l<l.length:=by
 induction l with
 | nil=>simp[lastT]
 | cons u r ih=>rw[lastT];simp only[List.length_cons];split<;>(try split)<;>omega
def allL(s:List Pl):List Int:=s.foldl (fun out x=>if x.ex then addI out x.id else out) []
end Go.Proofs.YtpndfdfipkadkaaGreatDoor
set_option maxRecDepth 100000
namespace Go.Proofs.YtpndfdfipkadkaaGreatDoor
open Go Go.Wx Go.Ax
def pthN(s:List Pl):Nat→Int→List Int
 | 0,_=>[]
 | n+1,p=>if parI s p==0 then []else parI s p::pthN s n (parI s p)
def pth(s:List Pl)(p:Int):List Int:=pthN s (s.length+1) p
def cont(s:List Pl)(a b:Int):Bool:=contB s a b (pth s b)
def insideL(s:List Pl)(p:Int):List Int:=s.foldl (fun out x=>if cont s p x.id then addI out x.id else out) []
def goN(s:List Pl):Nat→Int→Int
 | 0,_=>0
 | n+1,p=>match get s p with
  | none=>0
  | some x=>if x.ex then p else goN s n x.into
end Go.Proofs.YtpndfdfipkadkaaGreatDoor
set_option maxRecDepth 100000
namespace Go.Proofs.YtpndfdfipkadkaaGreatDoor
open Go Go.Wx Go.Ax
def idB(n:Int):Bool:=decide (n≥1)&&decide (n≤1000000)
def namedB(k:Int):Bool:=k==1||(k==2||k==5)
def otherB(e:Ev):Bool:=if e.kind==1||e.kind==3 then e.other==0||idB e.other else if e.kind==4 then idB e.other&&e.other !=e.place else if e.kind==2||e.kind==5 then e.other==0 else false
def okEv(e:Ev):Bool:=decide (e.day≥0)&&(decide (e.day≤100000)&&(idB e.place&&(otherB e&&(namedB e.kind||strEq e.name ⟨#[]⟩))))
def wrongL(e:Ev):Int:=if okEv e then(if namedB e.kind&& !nameB e.name then 4 else 0)else 1
theorem wrong_c(e:Ev):Pur Pg 71 [.agg e.enc] (di (wrongL e)):=by
 obtain⟨day,kind,place,other,name⟩:=e
 refine fn Tryz.func71 [] [] (.cons (.agg (pdEv _)) .nil) ?_
 by_cases k1:kind=1
 ·subst k1
  repeat' first
   | refine if_ (fun _=>?_) (fun _=>?_)
   | refine(isId_c _).call ?_
   | refine(isName_c _).call ?_
  all_goals exact frzi (by simp_all[wrongL,okEv,otherB,namedB,idB]<;>omega)
 by_cases k2:kind=2
 ·subst k2
  repeat' first
   | refine if_ (fun _=>?_) (fun _=>?_)
   | refine(isId_c _).call ?_
   | refine(isName_c _).call ?_
  all_goals exact frzi (by simp_all[wrongL,okEv,otherB,namedB,idB]<;>omega)
 by_cases k3:kind=3
 ·subst k3
  repeat' first
   | refine if_ (fun _=>?_) (fun _=>?_)
   | refine(isId_c _).call ?_
   | refine(isName_c _).call ?_
  all_goals exact frzi (by simp_all[wrongL,okEv,otherB,namedB,idB]<;>omega)
 by_cases k4:kind=4
 ·subst k4
  repeat' first
   | refine if_ (fun _=>?_) (fun _=>?_)
   | refine(isId_c _).call ?_
   | refine(isName_c _).call ?_
  all_goals exact frzi (by simp_all[wrongL,okEv,otherB,namedB,idB]<;>omega)
 by_cases k5:kind=5
 ·subst k5
  repeat' first
   | refine if_ (fun _=>?_) (fun _=>?_)
   | refine(isId_c _).call ?_
   | refine(isName_c _).call ?_
  all_goals exact frzi (by simp_all[wrongL,okEv,otherB,namedB,idB]<;>omega)
 have n1:(kind==1)=false:=by simpa using k1
 have n2:(kind==2)=false:=by simpa using k2
 have n3:(kind==3)=false:=by simpa using k3
 have n4:(kind==4)=false:=by simpa using k4
 have n5:(kind==5)=false:=by simpa using k5
 refine iff_ n1 (iff_ n2 ?_)
 repeat' first
  | refine iff_ n1 ?_
  | refine iff_ n2 ?_
  | refine iff_ n3 ?_
  | refine iff_ n4 ?_
  | refine iff_ n5 ?_
  | refine if_ (fun _=>?_) (fun _=>?_)
  | refine(isId_c _).call ?_
 all_goals exact frzi (by simp_all[wrongL,okEv,otherB,namedB,idB])
end Go.Proofs.YtpndfdfipkadkaaGreatDoor
set_option maxRecDepth 100000
namespace Go.Proofs.YtpndfdfipkadkaaGreatDoor
open Go Go.Wx Go.Ax
theorem strEq_iff{x y:ByteArray}:strEq x y=true↔x=y:=by
 unfold strEq
 rw[beq_iff_eq,ByteArray.toList_eq,ByteArray.toList_eq]
 constructor
 ·intro h
  cases x;cases y
  simp only at h
  congr 1
  exact Array.ext' h
 ·rintro rfl;rfl
theorem strEq_eq(x y:ByteArray):strEq x y=decide (x=y):=by
 rw[Bool.eq_iff_iff,strEq_iff];simp
theorem list_ne{α:Type}{a b:List α}{i:Nat}(hi:i<a.length)(hb:i<b.length)(h:a[i]≠b[i]):a≠b:=fun e=>by subst e;exact h rfl
theorem list_eq{α:Type}{a b:List α}(hl:a.length=b.length)(h:∀j,j<a.length→∀(h1:j<a.length) (h2:j<b.length),a[j]=b[j]):a=b:=List.ext_getElem hl fun j h1 h2=>h j h1 h1 h2
def pl39:Plan:=[(6,[.p 0,.p 1,.p 2,.l 3,.p 4,.p 5,.p 6,.l 7,.p 8])]
theorem sameInts_c(a b:List Int):Pur Pg 39 [rows ienc a,rows ienc b] (db (decide (a=b))):=by
 refine Pur_len 0 rfl fun hl=>fn Tryz.func39 [] pl39 (.cons (pd_rows pdI a) (.cons (pd_rows pdI b) .nil)) ?_
 rw[List.length_map]at hl
 refine if_ (fun h0=>?_) fun h0=>?_
 ·exact frzb (by simp at h0;rw[eq_comm,decide_eq_false_iff_not];exact fun e=>h0 (by rw[e]))
 have hlen:a.length=b.length:=by simp at h0;omega
 refine AW_idx a.length (fun i st=>(∀j,j<i→∀(h1:j<a.length) (h2:j<b.length),a[j]=b[j])∧Has [(0,rows ienc a),(1,rows ienc b),(5,di i)] [] st) ⟨fun j hj=>absurd hj (by omega),has ⟨rfl,rfl,rfl,trivial⟩ rfl⟩ ?_
 rintro i _ _ ⟨h3,e,rfl⟩
 refine go [] pl39 (if_ (fun hlt=>?_) (fun hlt=>?_))
 ·simp at hlt
  have hlb:i<b.length:=by omega
  refine row_at hlt (row_at hlb (if_ (fun h4=>?_) fun h4=>?_))
  ·exact frzb (by rw[eq_comm,decide_eq_false_iff_not];exact list_ne hlt hlb (by simpa using h4))
  ·refine⟨hlt,fun j hj h1 h2=>?_,has ⟨rfl,rfl,inc hlt hl,trivial⟩ rfl⟩
   rcases Nat.lt_or_eq_of_le (Nat.le_of_lt_succ hj)with h | rfl
   ·exact h3 j h h1 h2
   ·simpa using h4
 ·simp at hlt
  exact frzb (by rw[eq_comm,decide_eq_true_iff];exact list_eq hlen fun j hj=>h3 j (by omega))
def pl49:Plan:=[(6,[.p 0,.p 1,.p 2,.l 3,.p 4,.p 5,.p 6,.l 7,.p 8])]
theorem sameStrings_c(a b:List ByteArray):Pur Pg 49 [rows senc a,rows senc b] (db (decide (a=b))):=by
 refine Pur_len 0 rfl fun hl=>fn Tryz.func49 [] pl49 (.cons (pd_rows pdS a) (.cons (pd_rows pdS b) .nil)) ?_
 rw[List.length_map]at hl
 refine if_ (fun h0=>?_) fun h0=>?_
 ·exact frzb (by simp at h0;rw[eq_comm,decide_eq_false_iff_not];exact fun e=>h0 (by rw[e]))
 have hlen:a.length=b.length:=by simp at h0;omega
 refine AW_idx a.length (fun i st=>(∀j,j<i→∀(h1:j<a.length) (h2:j<b.length),a[j]=b[j])∧Has [(0,rows senc a),(1,rows senc b),(5,di i)] [] st) ⟨fun j hj=>absurd hj (by omega),has ⟨rfl,rfl,rfl,trivial⟩ rfl⟩ ?_
 rintro i _ _ ⟨h3,e,rfl⟩
 refine go [] pl49 (if_ (fun hlt=>?_) (fun hlt=>?_))
 ·simp at hlt
  have hlb:i<b.length:=by omega
  refine row_at hlt (row_at hlb (if_ (fun h4=>?_) fun h4=>?_))
  ·exact frzb (by rw[eq_comm,decide_eq_false_iff_not];exact list_ne hlt hlb (by rw[strEq_eq]at h4;simpa using h4))
  ·refine⟨hlt,fun j hj h1 h2=>?_,has ⟨rfl,rfl,inc hlt hl,trivial⟩ rfl⟩
   rcases Nat.lt_or_eq_of_le (Nat.le_of_lt_succ hj)with h | rfl
   ·exact h3 j h h1 h2
   ·rw[strEq_eq]at h4;simpa using h4
 ·simp at hlt
  exact frzb (by rw[eq_comm,decide_eq_true_iff];exact list_eq hlen fun j hj=>h3 j (by omega))
def foundedL(s:List Pl)(e:Ev):Int:=
 if e.kind==1&&(get s e.place).isSome then 6
 else if e.kind !=1&&(get s e.place).isNone then 5
 else if e.kind !=1&& !hereB s e.place then 22
 else if e.other !=0&&(get s e.other).isNone then 5
 else if e.other !=0&& !hereB s e.other then 22 else 0
end Go.Proofs.YtpndfdfipkadkaaGreatDoor
