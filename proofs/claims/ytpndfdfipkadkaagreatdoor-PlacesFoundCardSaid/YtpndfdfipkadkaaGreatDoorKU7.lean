/- The law holds: part 339. Conditions: none. -/
import Derived.Test.YtpndfdfipkadkaaGreatDoorKU6
set_option linter.all false
set_option maxRecDepth 100000
namespace Go.Proofs.YtpndfdfipkadkaaGreatDoor
open Go Go.Wx Go.Ax
structure Use where
 name:ByteArray
 kind:Int
 frm:Int
 til:Int
def Use.enc(u:Use):List D:=[ds' u.name,du u.kind,di u.frm,di u.til]
structure Pl where
 id:Int
 parent:Int
 into:Int
 ex:Bool
 uses:List Use
def Pl.enc(p:Pl):List D:=[di p.id,di p.parent,di p.into,db p.ex,rows Use.enc p.uses]
def ienc(n:Int):List D:=[di n]
def senc(s:ByteArray):List D:=[ds' s]
theorem pdUse:∀u:Use,PdL u.enc:=fun _=> .cons (.v _) (.cons (.v _) (.cons (.v _) (.cons (.v _) .nil)))
theorem pdI:∀n:Int,PdL (ienc n):=fun _=> .one (.v _)
theorem pdS:∀n:ByteArray,PdL (senc n):=fun _=> .one (.v _)
def get(s:List Pl)(p:Int):Option Pl:=s.find? fun x=>x.id==p
theorem get_idx{s:List Pl}{p:Int}:(idx (fun x=>x.id==p) s= -1∧get s p=none)∨∃i:Nat,idx (fun x=>x.id==p) s=i∧∃hi:i<s.length,get s p=some s[i]:=by
 unfold idx get
 cases hf:s.findIdx? (fun x=>x.id==p)with
 | none=>
  rw[List.findIdx?_eq_none_iff]at hf
  exact .inl ⟨rfl,List.find?_eq_none.2 fun x hx=>by simp[hf x hx]⟩
 | some i=>
  rw[List.findIdx?_eq_some_iff_getElem]at hf
  obtain⟨hi,h1,h2⟩:=hf
  exact .inr ⟨i,rfl,hi,List.find?_eq_some_iff_getElem.2 ⟨h1,i,hi,rfl,fun j hj=>by simpa using h2 j hj⟩⟩
def hereB(s:List Pl)(p:Int):Bool:=match get s p with | some x=>x.ex | none=>false
def parI(s:List Pl)(p:Int):Int:=match get s p with | some x=>if x.ex then x.parent else 0 | none=>0
def IsPath(s:List Pl):Int→List Int→Prop
 | p,[]=>parI s p=0
 | p,q::l=>parI s p=q∧q≠0∧IsPath s q l
def contB(s:List Pl)(a b:Int)(l:List Int):Bool:=hereB s a&&(hereB s b&&(a==b||l.any (· ==a)))
def addS:List ByteArray→ByteArray→List ByteArray
 |[],s=>[s]
 | x::r,s=>if strLt s x||strEq s x then(if strEq s x then s::r else s::x::r)else x::addS r s
def addI:List Int→Int→List Int
 |[],s=>[s]
 | x::r,s=>if decide (s≤x)then(if s==x then s::r else s::x::r)else x::addI r s
end Go.Proofs.YtpndfdfipkadkaaGreatDoor
set_option maxRecDepth 100000
namespace Go.Proofs.YtpndfdfipkadkaaGreatDoor
open Go Go.Wx Go.Ax
def inUse(day:Int)(u:Use):Bool:=decide (u.frm≤day)&&decide (day<u.til)
def usingL(l:List Use)(day:Int):List ByteArray:=l.foldl (fun out u=>if inUse day u then addS out u.name else out) []
theorem addS_len(l:List ByteArray)(s:ByteArray):(addS l s).length≤l.length+1:=by
 induction l with
 | nil=>simp[addS]
 | cons x r ih=>
  rw[addS]
  split
  ·split<;>simp
  ·simp;omega
theorem using_len(l:List Use)(day:Int):(usingL l day).length≤l.length:=by
 unfold usingL
 have:∀(l:List Use) (out:List ByteArray),(l.foldl (fun out u=>if inUse day u then addS out u.name else out) out).length≤out.length+l.length:=by
  intro l
  induction l with
  | nil=>intro out;simp
  | cons u l ih=>
   intro out
   rw[List.foldl_cons]
   refine Nat.le_trans (ih _) ?_
   have:=addS_len out u.name
   split<;>simp<;>omega
 simpa using this l []
def lastT:List Use→Int
 |[]=> -1
 | u::r=>if lastT r≥0 then lastT r+1 else if u.kind==1 then 0 else -1
theorem lastT_snoc(l:List Use)(u:Use):lastT (l++[u])=if u.kind==1 then(l.length:Int)else lastT l:=by
 induction l with
 | nil=>simp[lastT]
 | cons x r ih=>
  rw[List.cons_append,lastT,ih]
  by_cases hk:u.kind==1
  ·simp[hk]
  ·simp only[hk]
   rfl
def openB(l:List Use)(name:ByteArray)(kind:Int):Bool:=l.any fun u=>strEq u.name name&&(u.til==100001&&(kind==0||u.kind==kind))
def newT(name:ByteArray)(day:Int):Use:=⟨name,1,day,100001⟩
def newA(name:ByteArray)(day:Int):Use:=⟨name,2,day,100001⟩
def setAt(k:Int)(t:Int)(l:List Use):List Use:=l.mapIdx fun i u=>if(i:Int)==k then{u with til:=t}else u
def renL(l:List Use)(name:ByteArray)(day:Int):List Use:=setAt (lastT l) (min (day+3650) 100001) l++[newT name day]
def capT(day:Int)(l:List Use):List Use:=l.map fun u=>{u with til:=min u.til day}
def mergedL(l other:List Use)(day:Int):List Use:=(usingL other day).foldl (fun out n=>if openB l n 2 then out else out++[newA n day]) l
end Go.Proofs.YtpndfdfipkadkaaGreatDoor
set_option maxRecDepth 100000
namespace Go.Proofs.YtpndfdfipkadkaaGreatDoor
open Go Go.Wx Go.Ax
structure Ev where
 day:Int
 kind:Int
 place:Int
 other:Int
 name:ByteArray
def Ev.enc(e:Ev):List D:=[di e.day,du e.kind,di e.place,di e.other,ds' e.name]
theorem pdEv:∀u:Ev,PdL u.enc:=fun _=> .cons (.v _) (.cons (.v _) (.cons (.v _) (.cons (.v _) (.cons (.v _) .nil))))
def modP(s:List Pl)(p:Int)(f:Pl→Pl):List Pl:=match s with
 |[]=>[]
 | x::r=>if x.id==p then f x::r else x::modP r p f
def foundP(e:Ev):Pl:=⟨e.place,e.other,0,true,[newT e.name e.day]⟩
def afterL(s:List Pl)(e:Ev):List Pl:=
 if e.kind==1 then s++[foundP e]
 else if e.kind==2 then modP s e.place fun x=>{x with uses:=renL x.uses e.name e.day}
 else if e.kind==3 then modP s e.place fun x=>{x with parent:=e.other}
 else if e.kind==4 then
  (modP (modP s e.other fun y=>{y with uses:=mergedL y.uses ((get s e.place).elim [] (·.uses)) e.day}) e.place fun x=>{x with uses:=capT e.day x.uses,ex:=false,into:=e.other}).map
   fun n=>if n.parent==e.place then{n with parent:=e.other}else n
 else if e.kind==5 then modP s e.place fun x=>{x with uses:=x.uses++[newA e.name e.day]}
 else s
theorem modP_idx'{p:Int}(f:Pl→Pl):∀{s:List Pl} {i:Nat} (hi:i<s.length),s.findIdx? (fun x=>x.id==p)=some i→modP s p f=s.set i (f s[i])
 |[],_,hi,_=>absurd hi (by simp)
 | x::r,i,hi,hf=>by
  rw[List.findIdx?_cons]at hf
  by_cases hx:x.id==p
  ·rw[if_pos hx]at hf
   cases hf
   simp[modP,hx]
  ·rw[if_neg hx]at hf
   cases hr:r.findIdx? (fun x=>x.id==p)with
   | none=>rw[hr]at hf;cases hf
   | some k=>
    rw[hr]at hf
    cases hf
    have hk:k<r.length:=by simpa using hi
    simp only[modP,if_neg hx]
    rw[modP_idx' f hk hr]
    simp
theorem modP_idx{s:List Pl}{p:Int}{i:Nat}(h:idx (fun x=>x.id==p) s=i)(hi:i<s.length)(f:Pl→Pl):modP s p f=s.set i (f s[i]):=by
 unfold idx at h
 cases hf:s.findIdx? (fun x=>x.id==p)with
 | none=>rw[hf]at h;simp at h
 | some j=>
  rw[hf]at h
  have hj:(j:Int)=i:=h
  obtain rfl:j=i:=by omega
  exact modP_idx' f hi hf
def reParent(e:Ev)(n:Pl):Pl:=if n.parent==e.place then⟨n.id,e.other,n.into,n.ex,n.uses⟩else n
def evOk(s:List Pl)(e:Ev):Prop:=0≤e.day∧e.day≤100000∧s.length≤1000∧(∀x∈s,x.uses.length≤1000)∧
 (e.kind=2∨e.kind=3∨e.kind=4∨e.kind=5→get s e.place≠none)∧(e.kind=4→get s e.other≠none∧e.other≠e.place)
end Go.Proofs.YtpndfdfipkadkaaGreatDoor
