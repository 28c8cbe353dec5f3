/- The law holds: part 353. Conditions: none. -/
import Derived.Test.YtpndfdfipkadkaaGreatDoorKU13
set_option linter.all false
set_option maxRecDepth 100000
namespace Go.Proofs.YtpndfdfipkadkaaGreatDoor
open Go Go.Wx Go.Ax
def pl182:Plan:=[(10,[.p 0,.p 1,.p 2,.p 3,.l 4,.p 5,.p 6,.p 7,.l 8,.l 9,.e 10,.p 11,.p 12]),(16,[.p 0,.l 1,.p 2,.p 3,.p 4,.l 5,.p 6,.l 7,.p 8,.p 9,.p 10,.p 11,.l 12,.p 13,.p 14,.p 15,.p 16,.l 17,.p 18,.p 19,.p 20,.p 21,.p 22,.p 23,.p 24,.l 25,.p 26,.p 27,.p 28,.p 29,.l 30,.p 31,.l 32,.p 33,.p 34,.p 35])]
theorem chkA_arc{a:Auto}(h1:¬(a.states>400∨a.arcs.length>4000∨a.ends.length>400))(h2:¬a.states<1){i:Nat}(hi:i<a.arcs.length)(h:arcBad a i=true):chkA a=1:=by
 rw[chkA,if_neg h1,if_neg h2,if_pos (List.any_eq_true.2 ⟨i,List.mem_range.2 hi,h⟩)]
theorem chkA_end{a:Auto}(h1:¬(a.states>400∨a.arcs.length>4000∨a.ends.length>400))(h2:¬a.states<1)(h3:∀j,j<a.arcs.length→arcBad a j=false){i:Nat}(hi:i<a.ends.length)(h:endBad a i=true):chkA a=1:=by
 rw[chkA,if_neg h1,if_neg h2,if_neg (by rw[any_range_f.2 h3];simp),if_pos (List.any_eq_true.2 ⟨i,List.mem_range.2 hi,h⟩)]
theorem chkA_ok{a:Auto}(h1:¬(a.states>400∨a.arcs.length>4000∨a.ends.length>400))(h2:¬a.states<1)(h3:∀j,j<a.arcs.length→arcBad a j=false)(h4:∀j,j<a.ends.length→endBad a j=false):chkA a=0:=by
 rw[chkA,if_neg h1,if_neg h2,if_neg (by rw[any_range_f.2 h3];simp),if_neg (by rw[any_range_f.2 h4];simp)]
theorem subNat{i:Nat}(h0:0<i)(h:i≤maxLen):IntKind.wrap .i64 ((i:Int)-1)=((i-1:Nat):Int):=by
 simp only[maxLen]at h
 rw[wrap_id (by omega) (by omega)];omega
theorem check_c(a:Auto):Pur Pg 182 [.agg a.enc] (di (chkA a)):=by
 refine fn Tryz.func182 [] pl182 (.one (.agg (pdAuto a))) ?_
 have hlim:(a.states>400∨a.arcs.length>4000∨a.ends.length>400)→FrzK 0 [.arr 75 3 [a.enc]] (.v (.int .i64 2)) (di (chkA a)):=fun h=>frzi (by rw[chkA,if_pos h])
 refine if_ (fun h1=>?_) fun h1=>if_ (fun h2=>?_) fun h2=>if_ (fun h3=>?_) fun h3=>?_
 ·exact hlim (by simp at h1;omega)
 ·exact hlim (by simp at h2;omega)
 ·exact hlim (by simp at h3;omega)
 have hL:¬(a.states>400∨a.arcs.length>4000∨a.ends.length>400):=by simp at h1 h2 h3;omega
 clear hlim h1 h2 h3
 refine if_ (fun h4=>?_) fun h4=>?_
 ·exact frzi (by rw[chkA,if_neg hL,if_pos (by simpa using h4)])
 have hS:¬a.states<1:=by simpa using h4
 clear h4
 refine AW_idx a.arcs.length (fun i st=>(∀j,j<i→arcBad a j=false)∧HasG [(1,.ptr 0 0 0 1),(26,rows Arc.enc a.arcs),(27,di a.arcs.length),(28,di i)] [.arr 75 3 [a.enc]] st) ⟨by simp,hasG (G:=[]) ⟨rfl,rfl,by simp[rows,dlen];rfl,rfl,trivial⟩ rfl⟩ ?_
 rintro i _ _ ⟨hb,e,G,rfl⟩
 refine AW_drop (BlL.cons (.ptr (by simp)) (.cons (.pd (pd_rows pdArc _)) (.v (.v .nil)))) (BlH.cons (fun y hy d hd=>by rw[List.mem_singleton.1 hy]at hd;exact .pd (pdAuto a d hd)) .nil) (Nat.zero_le _) fun e=>?_
 refine go [] pl182 (if_ (fun hlt=>?_) (fun hlt=>?_))
 ·simp at hlt
  refine row_at hlt ?_
  have hx:a.arcs[i]? =some a.arcs[i]:=List.getElem?_eq_getElem hlt
  have bad:arcBad a i=true→∀H,FrzK 0 H (.v (.int .i64 1)) (di (chkA a)):=fun h H=>frzi (by rw[chkA_arc hL hS hlt h])
  have hdef:arcBad a i=(decide (a.arcs[i].frm<0)||(decide (a.arcs[i].frm≥a.arcs[i].to)||(decide (a.arcs[i].to≥a.states)||(!letB a.arcs[i].letter||(decide (a.arcs[i].cost<0)||(decide (a.arcs[i].cost>1000000)||(decide (0<i)&& !(match a.arcs[i-1]? with | none=>true | some w=>arcLt w a.arcs[i])))))))):=by unfold arcBad;rw[hx];rfl
  have next:arcBad a i=false→∀j,j<i+1→arcBad a j=false:=fun h j hj=>by
   rcases Nat.lt_or_eq_of_le (Nat.le_of_lt_succ hj)with h' | rfl
   ·exact hb j h'
   ·exact h
  have hil:i≤maxLen:=by simp only[maxLen];omega
  refine if_ (fun c1=>bad (by rw[hdef,c1];rfl) _) fun c1=>?_
  refine if_ (fun c2=>bad (by rw[hdef,c1,c2];rfl) _) fun c2=>?_
  refine if_ (fun c3=>bad (by rw[hdef,c1,c2,c3];rfl) _) fun c3=>?_
  refine(isLetter_c _).call ?_
  refine if_ (fun c4=>bad (by rw[hdef,c1,c2,c3,c4];rfl) _) fun c4=>?_
  refine if_ (fun c5=>bad (by rw[hdef,c1,c2,c3,c4,c5];rfl) _) fun c5=>?_
  refine if_ (fun c6=>bad (by rw[hdef,c1,c2,c3,c4,c5,c6];rfl) _) fun c6=>?_
  refine if_ (fun c7=>?_) fun c7=>?_
  ·have h0:0<i:=by simp at c7;omega
   have hx1:a.arcs[i-1]? =some (a.arcs[i-1]'(by omega)):=List.getElem?_eq_getElem (by omega)
   refine lst_at (ds:=Arc.enc (a.arcs[i-1]'(by omega))) (by rw[subNat h0 hil];exact ixl_at (by rw[List.getElem?_map,hx1];rfl)) ?_
   refine(arcCmp_c _ _).call ?_
   have hl:(match a.arcs[i-1]? with | none=>true | some w=>arcLt w a.arcs[i])=arcLt (a.arcs[i-1]'(by omega)) a.arcs[i]:=by rw[hx1]
   have hd0:decide (0<i)=true:=decide_eq_true h0
   refine if_ (fun c8=>?_) fun c8=>?_
   ·rw[arcCmp_lt]at c8
    exact bad (by rw[hdef,hl,c8];simp[h0]) _
   ·rw[arcCmp_lt]at c8
    exact⟨hlt,next (by rw[hdef,hl,c1,c2,c3,c4,c5,c6,c8];simp),hasG ⟨rfl,rfl,rfl,inc hlt (by simp only[maxLen];omega),trivial⟩ rfl⟩
  ·have h0:¬0<i:=by simp at c7;omega
   exact⟨hlt,next (by rw[hdef,c1,c2,c3,c4,c5,c6];simp[h0]),hasG ⟨rfl,rfl,rfl,inc hlt (by simp only[maxLen];omega),trivial⟩ rfl⟩
 ·have h3:∀j,j<a.arcs.length→arcBad a j=false:=fun j hj=>hb j (by simp at hlt;omega)
  clear hb hlt
  refine AW_idx a.ends.length (fun i st=>(∀j,j<i→endBad a j=false)∧HasG [(1,.ptr 0 0 0 1),(81,rows End.enc a.ends),(82,di a.ends.length),(83,di i)] [.arr 75 3 [a.enc]] st) ⟨by simp,hasG (G:=[]) ⟨rfl,rfl,by simp[rows,dlen];rfl,rfl,trivial⟩ rfl⟩ ?_
  rintro i _ _ ⟨hb,e,G,rfl⟩
  refine AW_drop (BlL.cons (.ptr (by simp)) (.cons (.pd (pd_rows pdEnd _)) (.v (.v .nil)))) (BlH.cons (fun y hy d hd=>by rw[List.mem_singleton.1 hy]at hd;exact .pd (pdAuto a d hd)) .nil) (Nat.zero_le _) fun e=>?_
  refine go [] pl182 (if_ (fun hlt=>?_) (fun hlt=>?_))
  ·simp at hlt
   refine row_at hlt ?_
   have hx:a.ends[i]? =some a.ends[i]:=List.getElem?_eq_getElem hlt
   have bad:endBad a i=true→∀H,FrzK 0 H (.v (.int .i64 1)) (di (chkA a)):=fun h H=>frzi (by rw[chkA_end hL hS h3 hlt h])
   have hdef:endBad a i=(decide (a.ends[i].state<0)||(decide (a.ends[i].state≥a.states)||(decide (a.ends[i].cost<0)||(decide (a.ends[i].cost>1000000)||(decide (0<i)&&(match a.ends[i-1]? with | none=>false | some w=>decide (w.state≥a.ends[i].state))))))):=by unfold endBad;rw[hx];rfl
   have next:endBad a i=false→∀j,j<i+1→endBad a j=false:=fun h j hj=>by
    rcases Nat.lt_or_eq_of_le (Nat.le_of_lt_succ hj)with h' | rfl
    ·exact hb j h'
    ·exact h
   have hil:i≤maxLen:=by simp only[maxLen];omega
   refine if_ (fun c1=>bad (by rw[hdef,c1];rfl) _) fun c1=>?_
   refine if_ (fun c2=>bad (by rw[hdef,c1,c2];rfl) _) fun c2=>?_
   refine if_ (fun c3=>bad (by rw[hdef,c1,c2,c3];rfl) _) fun c3=>?_
   refine if_ (fun c4=>bad (by rw[hdef,c1,c2,c3,c4];rfl) _) fun c4=>?_
   refine if_ (fun c7=>?_) fun c7=>?_
   ·have h0:0<i:=by simp at c7;omega
    have hx1:a.ends[i-1]? =some (a.ends[i-1]'(by omega)):=List.getElem?_eq_getElem (by omega)
    refine lst_at (ds:=End.enc (a.ends[i-1]'(by omega))) (by rw[subNat h0 hil];exact ixl_at (by rw[List.getElem?_map,hx1];rfl)) ?_
    have hl:(match a.ends[i-1]? with | none=>false | some w=>decide (w.state≥a.ends[i].state))=decide ((a.ends[i-1]'(by omega)).state≥a.ends[i].state):=by rw[hx1]
    refine if_ (fun c8=>?_) fun c8=>?_
    ·exact bad (by rw[hdef,hl,c8];simp[h0]) _
    ·exact⟨hlt,next (by rw[hdef,hl,c1,c2,c3,c4,c8];simp),hasG ⟨rfl,rfl,rfl,inc hlt (by simp only[maxLen];omega),trivial⟩ rfl⟩
   ·have h0:¬0<i:=by simp at c7;omega
    exact⟨hlt,next (by rw[hdef,c1,c2,c3,c4];simp[h0]),hasG ⟨rfl,rfl,rfl,inc hlt (by simp only[maxLen];omega),trivial⟩ rfl⟩
  ·exact frzi (by rw[chkA_ok hL hS h3 fun j hj=>hb j (by simp at hlt;omega)])
end Go.Proofs.YtpndfdfipkadkaaGreatDoor
