/- The law holds: part 372. Conditions: none. -/
import Derived.Test.YtpndfdfipkadkaaGreatDoorKU8
import Derived.Test.YtpndfdfipkadkaaGreatDoorKU34
import Derived.Test.YtpndfdfipkadkaaGreatDoorKU37
import Derived.Test.YtpndfdfipkadkaaGreatDoorKU39
set_option linter.all false
set_option maxRecDepth 100000
namespace Go.Proofs.YtpndfdfipkadkaaGreatDoor
open Go Go.Wx Go.Ax
theorem acc_few{l:List Ev}(ha:Acc l)(day:Int):∀x∈onL l day,x.uses.length≤16:=(ha.invOn day).1.few
theorem frzt{H:Heap}:Frz H (.v (.bool true)) (db true):= .pd (.v _)
end Go.Proofs.YtpndfdfipkadkaaGreatDoor
set_option maxRecDepth 100000
namespace Go.Proofs.YtpndfdfipkadkaaGreatDoor
open Go Go.Wx Go.Ax
theorem open_cases{l:List Ev}{f:FuncId}{args:List D}(g:Pur Pg f args (openD l)):(∃i e:Int,e≠0∧Pur Pg f args (.tup [nilP,di i,di e]))∨(Acc l∧Pur Pg f args (.tup [refG l,di 0,di 0])):=by
 cases hi:openI l with
 | some i=>
  left
  have hlt:i<l.length:=List.mem_range.1 (List.mem_of_find?_eq_some hi)
  rw[openD_bad hi (List.getElem?_eq_getElem hlt)]at g
  have hb:=List.find?_some hi
  rw[badAt_eq hlt]at hb
  exact⟨i,_,by simpa using hb,g⟩
 | none=>
  right
  rw[openD_ok hi]at g
  refine⟨?_,g⟩
  have hb:∀j,j<l.length→badAt l j=false:=fun j hj=>by
   have:=List.find?_eq_none.1 hi j (List.mem_range.2 hj)
   simpa using this
  have:=acc_upto (l:=l) (Nat.le_refl _) hb
  rwa[List.take_length]at this
theorem rise_nodup{l:List Int}(h:l.Pairwise (· < ·)):l.Nodup:=h.imp fun h=>by omega
theorem all_len{s:List Pl}(hn:(s.map (·.id)).Nodup):(allL s).length≤s.length:=by
 have:=nodup_len (rise_nodup (all_rise s)) (m:=s.map (·.id)) fun x hx=>here_mem ((all_mem hn).1 hx)
 simpa using this
def lpC:Code→Code
 | .loop c=>c
 | .block _ c=>c
 | c=>c
def fstC:Code→Code
 | .seq a _=>a
 | c=>c
end Go.Proofs.YtpndfdfipkadkaaGreatDoor
set_option maxRecDepth 100000
namespace Go.Proofs.YtpndfdfipkadkaaGreatDoor
open Go Go.Wx Go.Ax
end Go.Proofs.YtpndfdfipkadkaaGreatDoor
set_option maxRecDepth 100000
namespace Go.Proofs.YtpndfdfipkadkaaGreatDoor
open Go Go.Wx Go.Ax
theorem inside_len{s:List Pl}(hn:(s.map (·.id)).Nodup)(p:Int):(insideL s p).length≤s.length:=by
 rw[←insideL_eq]
 exact Nat.le_trans (List.length_filter_le _ _) (all_len hn)
theorem names_len{s:List Pl}(hf:∀x∈s,x.uses.length≤16)(p d:Int):(namesL s p d).length≤16:=by
 unfold namesL
 cases hg:get s p with
 | none=>simp
 | some x=>
  simp only
  split
  ·exact Nat.le_trans (using_len _ _) (hf x (get_mem hg).1)
  ·simp
end Go.Proofs.YtpndfdfipkadkaaGreatDoor
