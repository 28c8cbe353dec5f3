/- The law holds: part 251. Conditions: none. -/
import Derived.Test.YtpndfdfipkadkaaGreatDoorKS9
import Derived.Test.YtpndfdfipkadkaaGreatDoorKS35
import Derived.Test.YtpndfdfipkadkaaGreatDoorKS38
import Derived.Test.YtpndfdfipkadkaaGreatDoorKS40
set_option linter.all false
set_option maxRecDepth 100000
namespace Go.Proofs.YtpndfdfipkadkaaGreatDoor
open Go Go.Wx Go.Ax
theorem opened_cases{l:List Ev}{f:FuncId}{args:List D}(g:Pur Pg f args (openedD l)):Pur Pg f args (.tup [nilP,nilP,db true])∨(l.length≤40∧Acc l∧Pur Pg f args (.tup [refG l,refG l,db true])):=by
 unfold openedD at g
 by_cases h:l.length>40
 ·rw[if_pos h]at g;exact .inl g
 ·rw[if_neg h]at g
  cases hi:openI l with
  | some i=>rw[hi]at g;exact .inl g
  | none=>
   rw[hi]at g
   refine .inr ⟨by omega,?_,g⟩
   have hb:∀j,j<l.length→badAt l j=false:=fun j hj=>by
    have:=List.find?_eq_none.1 hi j (List.mem_range.2 hj)
    simpa using this
   have:=acc_upto (l:=l) (Nat.le_refl _) hb
   rwa[List.take_length]at this
theorem acc_few{l:List Ev}(ha:Acc l)(day:Int):∀x∈onL l day,x.uses.length≤16:=(ha.invOn day).1.few
theorem rPath_c(l:List Ev)(p day:Int)(ha:Acc l):Pur Pg 56 [refG l,di p,di day] (rows ienc (pth (onL l day) p)):=
 refPath_c l p day (ha.run day) _ ((ha.invOn day).1.paths (by have:=(ha.invOn day).2;omega) p).1 ((ha.invOn day).1.paths (by have:=(ha.invOn day).2;omega) p).2
theorem rNames_c(l:List Ev)(p day:Int)(ha:Acc l):Pur Pg 58 [refG l,di p,di day] (rows senc (namesL (onL l day) p day)):=
 refNames_c l p day (ha.run day) fun x hx=>by have:=acc_few ha day x (get_mem hx).1;omega
theorem rAll_c(l:List Ev)(day:Int)(ha:Acc l):Pur Pg 55 [refG l,di day] (rows ienc (allL (onL l day))):=refAll_c l day (ha.run day) (by have:=(ha.invOn day).2;omega)
theorem rInside_c(l:List Ev)(p day:Int)(ha:Acc l):Pur Pg 57 [refG l,di p,di day] (rows ienc (insideL (onL l day) p)):=refInside_c l p day (ha.run day) (by have:=(ha.invOn day).2;omega) ((ha.invOn day).1.paths (by have:=(ha.invOn day).2;omega))
theorem frzt{H:Heap}:Frz H (.v (.bool true)) (db true):= .pd (.v _)
end Go.Proofs.YtpndfdfipkadkaaGreatDoor
set_option maxRecDepth 100000
namespace Go.Proofs.YtpndfdfipkadkaaGreatDoor
open Go Go.Wx Go.Ax
theorem rise_nodup{l:List Int}(h:l.Pairwise (· < ·)):l.Nodup:=h.imp fun h=>by omega
theorem all_len{s:List Pl}(hn:(s.map (·.id)).Nodup):(allL s).length≤s.length:=by
 have:=nodup_len (rise_nodup (all_rise s)) (m:=s.map (·.id)) fun x hx=>here_mem ((all_mem hn).1 hx)
 simpa using this
def lpC:Code→Code
 | .loop c=>c
 | .block _ c=>c
 | c=>c
def fstC:Code→Code
 | .seq a _=>a
 | c=>c
end Go.Proofs.YtpndfdfipkadkaaGreatDoor
set_option maxRecDepth 100000
namespace Go.Proofs.YtpndfdfipkadkaaGreatDoor
open Go Go.Wx Go.Ax
end Go.Proofs.YtpndfdfipkadkaaGreatDoor
set_option maxRecDepth 100000
namespace Go.Proofs.YtpndfdfipkadkaaGreatDoor
open Go Go.Wx Go.Ax
theorem inside_len{s:List Pl}(hn:(s.map (·.id)).Nodup)(p:Int):(insideL s p).length≤s.length:=by
 rw[←insideL_eq]
 exact Nat.le_trans (List.length_filter_le _ _) (all_len hn)
theorem names_len{s:List Pl}(hf:∀x∈s,x.uses.length≤16)(p d:Int):(namesL s p d).length≤16:=by
 unfold namesL
 cases hg:get s p with
 | none=>simp
 | some x=>
  simp only
  split
  ·exact Nat.le_trans (using_len _ _) (hf x (get_mem hg).1)
  ·simp
end Go.Proofs.YtpndfdfipkadkaaGreatDoor
