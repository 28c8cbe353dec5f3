/- The law holds: part 369. Conditions: none. -/
import Derived.Test.YtpndfdfipkadkaaGreatDoorKU4
import Derived.Test.YtpndfdfipkadkaaGreatDoorKU8
import Derived.Test.YtpndfdfipkadkaaGreatDoorKU30
import Derived.Test.YtpndfdfipkadkaaGreatDoorKU33
import Derived.Test.YtpndfdfipkadkaaGreatDoorKU35
import Derived.Test.YtpndfdfipkadkaaGreatDoorKU36
set_option linter.all false
set_option maxRecDepth 100000
namespace Go.Proofs.YtpndfdfipkadkaaGreatDoor
open Go Go.Wx Go.Ax
def cutA(s:ByteArray):ByteArray:=if Lib.indexByte s.data.toList 32≥0 then s.extract 0 (Lib.indexByte s.data.toList 32).toNat else s
def cutB(s:ByteArray):ByteArray:=if Lib.indexByte s.data.toList 32≥0 then s.extract ((Lib.indexByte s.data.toList 32).toNat+1) s.size else⟨#[]⟩
theorem cutD_eq(s:ByteArray):∃b,cutD s 32= .tup [ds' (cutA s),ds' (cutB s),db b]:=by
 unfold cutD cutA cutB
 split
 ·exact⟨true,rfl⟩
 ·exact⟨false,rfl⟩
theorem cutA_le(s:ByteArray):(cutA s).size≤s.size:=by
 unfold cutA;split
 ·rw[ByteArray.size_extract];omega
 ·exact Nat.le_refl _
theorem cutB_le(s:ByteArray):(cutB s).size≤s.size:=by
 unfold cutB;split
 ·rw[ByteArray.size_extract];omega
 ·exact Nat.zero_le _
def numV(s:ByteArray):Int:=match Lib.atoiAll s.data.toList with
 | .ok v=>v
 | _=> -1
theorem numV_ok{s:ByteArray}{v:Int}(h:Lib.atoiAll s.data.toList= .ok v):numV s=v:=by unfold numV;rw[h]
theorem numV_err{s:ByteArray}(h:∀v,Lib.atoiAll s.data.toList≠ .ok v):numV s= -1:=by
 unfold numV
 split
 ·rename_i v hv;exact absurd hv (h v)
 ·rfl
abbrev cellS(s:ByteArray):AO:= .arr 9 1 [[ds' s]]
theorem pdoS(s:ByteArray):PdO (cellS s):=fun l hl d hd=>by rw[List.mem_singleton.1 hl,List.mem_singleton]at hd;rw[hd];exact .v _
noncomputable def c77:Code:=Tryz.f77.body.getD .skip
theorem next_c(s:ByteArray)(hs:s.size≤140737488355327):AC Pg 77 [.ptr 0 0 0 1] [cellS s] fun d H' ms=>∃o',(d=di (numV (cutA s))∧o'=cellS (cutB s))∧Pd d∧PdO o'∧H'=[o']∧ms=[0]:=by
 refine AC_fn Tryz.func77 rfl rfl rfl [0] (fun _=>true) (fun b h _=>by simp at h;simp;omega) (AW_rest (c':=restC 0 c77) ?_)
 obtain⟨b,hc⟩:=cutD_eq s
 have hcut:=cut_c s 32 (by simp only[maxLen];omega)
 rw[hc]at hcut
 have fin:∀d H',d=di (numV (cutA s))→H'=[cellS (cutB s)]→∃o',(d=di (numV (cutA s))∧o'=cellS (cutB s))∧Pd d∧PdO o'∧H'=[o']∧[0]=[0]:=fun d H' h1 h2=>⟨_,⟨h1,rfl⟩,by rw[h1];exact .v _,pdoS _,h2,rfl⟩
 refine goC 4 [] [] ?_
 refine hcut.call ?_
 conv=>whnf
 by_cases hv:∃v,Lib.atoiAll (cutA s).data.toList= .ok v
 ·obtain⟨v,ha⟩:=hv
  refine(atoiOk_c (cutA s) v (by have:=cutA_le s;omega) ha).call ?_
  conv=>whnf
  refine go [] [] ?_
  conv=>whnf
  exact fin _ _ (by rw[numV_ok ha];rfl) rfl
 ·have hv:∀v,Lib.atoiAll (cutA s).data.toList≠ .ok v:=fun v h=>hv ⟨v,h⟩
  obtain⟨n,hn⟩:=atoiErr_c (cutA s) (by have:=cutA_le s;omega) hv
  refine hn.call ?_
  conv=>whnf
  refine AW_seq ?_
  refine AW_seq (AW_ifne (c:=6) (a:=19) (b:=20) (tt:=errT) (d:= .any) rfl Tryz.underlying97 rfl rfl rfl rfl rfl rfl rfl rfl ?_)
  conv=>whnf
  refine go [] [] ?_
  conv=>whnf
  exact fin _ _ (by rw[numV_err hv];rfl) rfl
theorem nextAt_c(s:ByteArray)(hs:s.size≤140737488355327){H:Heap}{b:Nat}(hb:H[b]? =some (cellS s)):AC Pg 77 [.ptr b 0 0 1] H fun d H' ms=>d=di (numV (cutA s))∧H'=H.set b (cellS (cutB s))∧ms=[b]:=by
 have h:=AC.one (b:=b) (Q:=fun d o'=>d=di (numV (cutA s))∧o'=cellS (cutB s)) (pdoS s) hb (fun d hd=>by rw[List.mem_singleton.1 hd];exact .ptr (by simp)) (next_c s hs)
 refine AC.mono (AC.via h (by simp[rel])) ?_
 rintro d H' ms ⟨o',⟨rfl,rfl⟩,rfl,rfl⟩
 exact⟨rfl,rfl,rfl⟩
def kindW(w:ByteArray):Int:=match kidx (.string w) wK with
 | some j=>j+1
 | none=>0
theorem kindW_get(w:ByteArray):mget (.string w) wK wV=none∧kindW w=0∨mget (.string w) wK wV=some (du (kindW w)):=by
 rw[mget_eq]
 unfold kindW
 cases hk:kidx (.string w) wK with
 | none=>exact .inl ⟨rfl,rfl⟩
 | some j=>
  right
  obtain⟨k,hj,_⟩:=kidx_lt hk
  have hl:j<5:=(List.getElem?_eq_some_iff.1 hj).1
  match j,hl with
  | 0,_=>rfl
  | 1,_=>rfl
  | 2,_=>rfl
  | 3,_=>rfl
  | 4,_=>rfl
def evR(s:ByteArray):Ev:=
 let r1:=cutB s
 let r2:=cutB r1
 let r3:=cutB r2
 let k:=kindW (cutA r1)
 if k≠2∧k≠5 then⟨numV (cutA s),k,numV (cutA r2),numV (cutA r3),cutB r3⟩else⟨numV (cutA s),k,numV (cutA r2),0,r3⟩
def noEv:Ev:=⟨0,0,0,0,⟨#[]⟩⟩
def readV(s:ByteArray):Ev × Int:=if wrongL (evR s)=0∧joinB (partsL (evR s)) sp=s then(evR s,0)else(noEv,4)
noncomputable def c19:Code:=Tryz.f19.body.getD .skip
set_option maxHeartbeats 1000000 in
theorem read_c (s : ByteArray) (hs : s.size ≤ 140737488355327) : Pur Pg 19 [ds' s] (.tup [.agg (readV s).1.enc, di (readV s).2]) := by
  refine Pur_of (PdL.one (.v _)) (AC_fn Tryz.func19 rfl rfl rfl [] (fun _ => true) (fun b h => nomatch h) (AW_rest (c' := restC 0 c19) ?_))
  have fin : ∀ (H : Heap) (e : Ev) (n : Int), readV s = (e, n) → Frz H (.tup [.agg e.enc, di n]) (.tup [.agg (readV s).1.enc, di (readV s).2]) := fun H e n h => by
    rw [h]
    exact .pd (.tup fun d hd => by simp at hd; rcases hd with rfl | rfl; exact .agg (pdEv e); exact .v _)
  have h1 := cutB_le s
  have h2 := cutB_le (cutB s)
  have h3 := cutB_le (cutB (cutB s))
  have h4 := cutB_le (cutB (cutB (cutB s)))
  obtain ⟨b, hc⟩ := cutD_eq (cutB s)
  have hcut := cut_c (cutB s) 32 (by simp only [maxLen]; omega)
  rw [hc] at hcut
  have tail : ∀ (kd : Int) e0, kd = kindW (cutA (cutB s)) → AW Pg Tryz.f19.ntmps (fun _ => true) 0 (restC 7 c19) (fun ex s' => dret Pg Tryz.f19.results.toList (fun d H' _ => Frz H' d (.tup [.agg (readV s).1.enc, di (readV s).2])) [] ex s'.e s'.H)
      ⟨dupds e0 [(1, .ptr 0 0 0 1), (2, .ptr 1 0 0 1), (4, .clo 77 [.ptr 0 0 0 1]), (5, ds' s), (6, .ptr 2 0 0 1)], [cellS (cutB (cutB s)), .arr 23 5 [noEv.enc], .arr 23 5 [[di (numV (cutA s)), du kd, di 0, di 0, ds' ⟨#[]⟩]]]⟩ := by
    intro kd e0 hkd
    have done : ∀ (ev : Ev) e0, evR s = ev → ev.name.size ≤ maxLen → AW Pg Tryz.f19.ntmps (fun _ => true) 0 (restC 9 c19) (fun ex s' => dret Pg Tryz.f19.results.toList (fun d H' _ => Frz H' d (.tup [.agg (readV s).1.enc, di (readV s).2])) [] ex s'.e s'.H)
        ⟨dupds e0 [(1, .ptr 0 0 0 1), (2, .ptr 1 0 0 1), (5, ds' s), (6, .ptr 2 0 0 1)], [cellS ev.name, .arr 23 5 [noEv.enc], .arr 23 5 [[di ev.day, du ev.kind, di ev.place, di ev.other, ds' ⟨#[]⟩]]]⟩ := by
      intro ev e0 hev hsz
      have hwr := write_c ev hsz
      have hR : readV s = if wrongL ev = 0 ∧ joinB (partsL ev) sp = s then (ev, 0) else (noEv, 4) := by unfold readV; rw [hev]
      refine goC 20 [] [] ?_
      conv => whnf
      by_cases hw : wrongL ev = 0
      · have hD : writeD ev = .tup [ds' (joinB (partsL ev) sp), di 0] := by unfold writeD; rw [if_neg (by simpa using hw)]
        rw [hD] at hwr
        refine hwr.call ?_
        conv => whnf
        refine if_ (fun h => ?_) fun h => ?_
        · have hr : readV s = (noEv, 4) := by
            rw [hR, if_neg]
            rintro ⟨_, hj⟩
            rw [hj] at h
            simp at h
            rw [strEq_iff'.2 rfl] at h
            cases h
          conv => whnf
          exact fin _ _ _ hr
        · have hr : readV s = (ev, 0) := by
            rw [hR, if_pos]
            refine ⟨hw, strEq_iff'.1 ?_⟩
            simpa using h
          conv => whnf
          exact fin _ _ _ hr
      · have hD : writeD ev = .tup [ds' ⟨#[]⟩, di (wrongL ev)] := by unfold writeD; rw [if_pos hw]
        rw [hD] at hwr
        have hr : readV s = (noEv, 4) := by rw [hR, if_neg fun h => hw h.1]
        refine hwr.call ?_
        conv => whnf
        refine if_ (fun h => ?_) fun h => ?_
        · conv => whnf
          exact fin _ _ _ hr
        · exact absurd (by simpa using h) hw
    refine goC 2 [] [] ?_
    conv => whnf
    refine AC.mono (nextAt_c (cutB (cutB s)) (by omega) (b := 0) ?_) ?_
    · rfl
    rintro d H' ms ⟨rfl, rfl, rfl⟩
    conv => whnf
    have hev : evR s = if kd ≠ 2 ∧ kd ≠ 5 then ⟨numV (cutA s), kd, numV (cutA (cutB (cutB s))), numV (cutA (cutB (cutB (cutB s)))), cutB (cutB (cutB (cutB s)))⟩ else ⟨numV (cutA s), kd, numV (cutA (cutB (cutB s))), 0, cutB (cutB (cutB s))⟩ := by subst hkd; rfl
    refine if_ (fun h1 => ?_) fun h1 => ?_
    · conv => whnf
      refine if_ (fun h2 => ?_) fun h2 => ?_
      · rw [if_pos (by simp at h1 h2; exact ⟨h1, h2⟩)] at hev
        conv => whnf
        refine AC.mono (nextAt_c (cutB (cutB (cutB s))) (by omega) (b := 0) ?_) ?_
        · rfl
        rintro d H' ms ⟨rfl, rfl, rfl⟩
        conv => whnf
        exact AW_rest (c' := restC 9 c19) (AW_has (l := [(1, .ptr 0 0 0 1), (2, .ptr 1 0 0 1), (5, ds' s), (6, .ptr 2 0 0 1)]) (fun e0 => done _ e0 hev (by simp only [maxLen]; omega)) ⟨rfl, rfl, rfl, rfl, trivial⟩)
      · rw [if_neg (by simp at h2 ⊢; intro _; exact h2)] at hev
        conv => whnf
        exact AW_rest (c' := restC 9 c19) (AW_has (l := [(1, .ptr 0 0 0 1), (2, .ptr 1 0 0 1), (5, ds' s), (6, .ptr 2 0 0 1)]) (fun e0 => done _ e0 hev (by simp only [maxLen]; omega)) ⟨rfl, rfl, rfl, rfl, trivial⟩)
    · rw [if_neg (by simp at h1 ⊢; intro h; exact absurd h1 h)] at hev
      conv => whnf
      exact AW_rest (c' := restC 9 c19) (AW_has (l := [(1, .ptr 0 0 0 1), (2, .ptr 1 0 0 1), (5, ds' s), (6, .ptr 2 0 0 1)]) (fun e0 => done _ e0 hev (by simp only [maxLen]; omega)) ⟨rfl, rfl, rfl, rfl, trivial⟩)
  refine goC 7 [] [] ?_
  conv => whnf
  refine AC.mono (nextAt_c s hs (b := 0) ?_) ?_
  · rfl
  rintro d H' ms ⟨rfl, rfl, rfl⟩
  conv => whnf
  refine hcut.call ?_
  conv => whnf
  refine words_c.call ?_
  conv => whnf
  refine ⟨keys_str (fun k hk => by simp [wK] at hk; rcases hk with rfl | rfl | rfl | rfl | rfl <;> exact ⟨_, rfl⟩), ?_⟩
  rcases kindW_get (cutA (cutB s)) with ⟨hg, hk⟩ | hg
  · refine mlk_none hg ?_
    conv => whnf
    exact AW_rest (c' := restC 7 c19) (AW_has (l := [(1, .ptr 0 0 0 1), (2, .ptr 1 0 0 1), (4, .clo 77 [.ptr 0 0 0 1]), (5, ds' s), (6, .ptr 2 0 0 1)]) (fun e0 => tail 0 e0 hk.symm) ⟨rfl, rfl, rfl, rfl, rfl, trivial⟩)
  · refine mlk_some hg ?_
    conv => whnf
    exact AW_rest (c' := restC 7 c19) (AW_has (l := [(1, .ptr 0 0 0 1), (2, .ptr 1 0 0 1), (4, .clo 77 [.ptr 0 0 0 1]), (5, ds' s), (6, .ptr 2 0 0 1)]) (fun e0 => tail _ e0 rfl) ⟨rfl, rfl, rfl, rfl, rfl, trivial⟩)
end Go.Proofs.YtpndfdfipkadkaaGreatDoor
set_option maxRecDepth 100000
namespace Go.Proofs.YtpndfdfipkadkaaGreatDoor
open Go Go.Wx Go.Ax
def bs(l:List UInt8):ByteArray:=⟨l.toArray⟩
def smpL:List ByteArray:=[bs [49,48,32,102,111,117,110,100,32,49,32,48,32,108,111,119,108,97,110,100],bs [49,48,32,102,111,117,110,100,32,50,32,49,32,111,108,100,32,104,97,118,101,110],bs [50,48,32,102,111,117,110,100,32,51,32,49,32,110,101,119,104,97,118,101,110],bs [49,48,48,32,114,101,110,97,109,101,32,50,32,104,97,118,101,110],bs [50,48,48,32,109,101,114,103,101,32,51,32,50]]
def smpE:List Ev:=[⟨10,1,1,0,bs [108,111,119,108,97,110,100]⟩,⟨10,1,2,1,bs [111,108,100,32,104,97,118,101,110]⟩,⟨20,1,3,1,bs [110,101,119,104,97,118,101,110]⟩,⟨100,2,2,0,bs [104,97,118,101,110]⟩,⟨200,4,3,2,bs []⟩]
theorem smp_read:smpL.map readV=smpE.map fun e=>(e,0):=by kernel_rfl
theorem smp_open:openI smpE=none:=by kernel_rfl
theorem smp_size:∀s∈smpL,s.size≤1000:=by decide
theorem smpR{k:Nat}(h:k<5):∃s e,smpL[k]? =some s∧smpE[k]? =some e∧readV s=(e,0)∧s.size≤1000∧smpE.take (k+1)=smpE.take k++[e]:=by
 have hr:=congrArg (fun l=>l[k]?) smp_read
 simp only[List.getElem?_map]at hr
 have h1:smpL[k]? =some smpL[k]:=List.getElem?_eq_getElem h
 have h2:smpE[k]? =some smpE[k]:=List.getElem?_eq_getElem h
 rw[h1,h2]at hr
 refine⟨_,_,h1,h2,Option.some.inj hr,smp_size _ (List.getElem_mem _),?_⟩
 rw[List.take_add_one,h2];rfl
noncomputable def c82:Code:=Tryz.f82.body.getD .skip
set_option maxHeartbeats 1000000 in
theorem sample_c:Pur Pg 82 [] (refG smpE):=by
 refine Pur_of PdL.nil (AC_fn Tryz.func82 rfl rfl rfl [] (fun _=>true) (fun b h=>nomatch h) (AW_rest (c':=restC 0 c82) ?_))
 refine goC 2 [] [] ?_
 conv=>whnf
 refine AW_ghost 1 23 5 (Nat.zero_le _) ?_
 refine AW_rest (c':=restC 2 c82) ?_
 refine goC 1 [] [] ?_
 refine AW_idx 5 (fun k st=>HasG [(0,.v (.pointer none)),(1,.sl 0 0 k k),(9,.row true (smpL.map senc)),(10,di (5:Nat)),(11,di k)] [.arr 23 5 ((smpE.take k).map Ev.enc)] st) ?_ ?_
 ·exact hasG (G:=[]) ⟨rfl,rfl,rfl,rfl,rfl,trivial⟩ rfl
 rintro k _ hk ⟨e,G,rfl⟩
 refine AW_drop (BlL.v (.cons (.sl (by simp)) (.cons (.pd (pd_rowc pdS smpL)) (.v (.v .nil))))) (BlH.cons (BlO.enc pdEv) .nil) (Nat.zero_le _) fun e=>?_
 refine go [] [] (if_ (fun hlt=>?_) (fun hlt=>?_))
 ·have hk5:k<5:=by simp at hlt;omega
  refine row_at hk5 ?_
  obtain⟨s,ev,h1,h2,h3,h4,h5⟩:=smpR hk5
  have hs:smpL[k]=s:=(List.getElem?_eq_some_iff.1 h1).2
  have hR:=read_c s (by omega)
  rw[h3]at hR
  rw[hs]
  refine hR.call ?_
  conv=>whnf
  have hkl:((smpE.take k).map Ev.enc).length=k:=by simp[smpE];omega
  refine push hkl (by omega) ?_
  exact⟨hk5,hasG (G:=[.arr 23 5 [ev.enc]]) ⟨rfl,rfl,rfl,rfl,inc hk5 (by simp only[maxLen];omega),trivial⟩ (by rw[h5,List.map_append];rfl)⟩
 ·have hk5:k=5:=by simp at hlt;omega
  subst hk5
  conv=>whnf
  refine AW_rest (c':=restC 3 c82) ?_
  refine AW_has (l:=[(0,.v (.pointer none)),(1,.sl 0 0 5 5)]) (fun e=>?_) ⟨rfl,rfl,trivial⟩
  refine AW_frz (r:=[(0,.v (.pointer none)),(1,rows Ev.enc smpE)]) (H1:=[]) (G:=[.arr 23 5 (smpE.map Ev.enc)]) (Nat.le_refl _) (fun _ h=>nomatch h) ⟨rfl,.v,rfl,.fz (frzK_rows (enc:=Ev.enc) (xs:=smpE) (T:=23) (sz:=5) rfl rfl rfl pdEv (fun _=>rfl) (Nat.zero_le _)),trivial⟩ fun e1=>?_
  have hO:=openF_c smpE
  rw[show openD smpE= .tup [refG smpE,di 0,di 0] by unfold openD;rw[smp_open]]at hO
  refine goC 9 [] [] ?_
  refine hO.call ?_
  conv=>whnf
  trace_state
  exact .pd (pd_refG smpE)
end Go.Proofs.YtpndfdfipkadkaaGreatDoor
set_option maxRecDepth 100000
namespace Go.Proofs.YtpndfdfipkadkaaGreatDoor
open Go Go.Wx Go.Ax
def rulL:List Spell:=[⟨bs [118],bs [102],2⟩,⟨bs [101,110],bs [110],3⟩]
theorem rules_c:Pur Pg 84 [] (rows Spell.enc rulL):=by
 refine fn Tryz.func84 [] [] .nil ?_
 conv=>whnf
 exact FrzK.row (xs:=rulL.map Spell.enc) fun l hl d hd=>by
  obtain⟨x,_,rfl⟩:=List.mem_map.1 hl
  exact pdSpell x d hd
theorem smp_acc:Acc smpE:=by
 have h:(List.range 5).all (fun j=> !badAt smpE j)=true:=by kernel_rfl
 have:=acc_upto (l:=smpE) (i:=5) (Nat.le_refl _) fun j hj=>by simpa using List.all_eq_true.1 h j (List.mem_range.2 hj)
 exact this
def sHaven:=bs [104,97,118,101,110]
def sHafn:=bs [104,97,102,110]
def sHeaven:=bs [104,101,97,118,101,110]
def sOld:=bs [111,108,100,32,104,97,118,101,110]
def sNew:=bs [110,101,119,104,97,118,101,110]
theorem v_names:namesL (onL smpE 250) 2 250=[sHaven,sNew,sOld]:=by kernel_rfl
theorem v_inside:insideL (onL smpE 30) 1=[1,2,3]:=by kernel_rfl
theorem v_name:nameL (onL smpE 99) 2=sOld:=by kernel_rfl
theorem v_goes:goN (onL smpE 200) ((onL smpE 200).length+1) 3=2:=by kernel_rfl
theorem v_written:writtenV sHaven sHafn rulL=(5,[⟨2,0⟩,⟨3,1⟩],0):=by kernel_rfl
theorem v_apart1:apartV rulL [sHaven] [sHafn]=(false,0):=by kernel_rfl
theorem v_apart2:apartV rulL [sHaven] [sHeaven]=(true,0):=by kernel_rfl
noncomputable def c21:Code:=Tryz.f21.body.getD .skip
theorem rul_ok:∀x∈rulL,x.ok:=fun x hx=>by
 simp[rulL]at hx
 rcases hx with rfl | rfl<;>exact⟨Nat.le_of_ble_eq_true rfl,Nat.le_of_ble_eq_true rfl⟩
set_option maxHeartbeats 2000000 in
theorem alive_c:Pur Pg 21 [] (db true):=by
 have hN:=qNames_c smpE 2 250 smp_acc
 rw[v_names]at hN
 have hI:=qInside_c smpE 1 30 smp_acc
 rw[v_inside]at hI
 have hM:=qName_c smpE 2 99 smp_acc
 obtain⟨so,hso⟩:∃so,so=sOld:=⟨_,rfl⟩
 rw[v_name,←hso]at hM
 have hG:=qGoesOn_c smpE 3 200 smp_acc
 rw[v_goes]at hG
 have hW:=written_c sHaven sHafn rulL (Nat.le_of_ble_eq_true rfl) rul_ok
 rw[v_written]at hW
 have hA1:=Apart_c rulL [sHaven] [sHafn] rul_ok
 rw[v_apart1]at hA1
 have hA2:=Apart_c rulL [sHaven] [sHeaven] rul_ok
 rw[v_apart2]at hA2
 have row1:∀{H:Heap} (l:List ByteArray),FrzK 0 H (.row true (l.map senc)) (rows senc l):=fun l=>FrzK.row (xs:=l.map senc) fun y hy d hd=>by
  obtain⟨x,_,rfl⟩:=List.mem_map.1 hy
  exact pdS x d hd
 have hS:∀H:Heap,Ex Pg 49 [rows senc [sHaven,sNew,sOld],.row true ([sHaven,sNew,sOld].map senc)] H (db true):=fun H=>by
  have h:=sameStrings_c [sHaven,sNew,sOld] [sHaven,sNew,sOld]
  rw[decide_eq_true rfl]at h
  exact h.borrow (.v _) (.cons (.pd (pd_rows pdS _)) (.cons (row1 _) .nil))
 have hT:∀H:Heap,Ex Pg 39 [rows ienc [1,2,3],.row true ([1,2,3].map ienc)] H (db true):=fun H=>by
  have h:=sameInts_c [1,2,3] [1,2,3]
  rw[decide_eq_true rfl]at h
  exact h.borrow (.v _) (.cons (.pd (pd_rows pdI _)) (.cons (.row (xs:=[1,2,3].map ienc) fun y hy d hd=>by
   obtain⟨x,_,rfl⟩:=List.mem_map.1 hy
   exact pdI x d hd) .nil))
 refine Pur_of PdL.nil (AC_fn Tryz.func21 rfl rfl rfl [] (fun _=>true) (fun b h=>nomatch h) (AW_rest (c':=restC 0 c21) ?_))
 refine goC 8 [] [] ?_
 have hB:∀(x y:ByteArray) (b:Bool) (H:Heap),Pur Pg 85 [rows senc [x],rows senc [y],rows Spell.enc rulL] (.tup [db b,di 0])→Ex Pg 85 [.row true [senc x],.row true [senc y],rows Spell.enc rulL] H (.tup [db b,di 0]):=fun x y b H h=>
  h.borrow (.tup fun d hd=>by simp at hd;rcases hd with rfl | rfl<;>exact⟨_,rfl⟩) (.cons (row1 [x]) (.cons (row1 [y]) (.cons (.pd (pd_rows pdSpell _)) .nil)))
 refine sample_c.call ?_
 conv=>whnf
 refine hN.call ?_
 refine(hS _).call ?_
 refine hI.call ?_
 refine(hT _).call ?_
 refine rules_c.call ?_
 refine hW.call ?_
 refine rules_c.call ?_
 refine(hB sHaven sHafn false _ hA1).call ?_
 refine rules_c.call ?_
 refine(hB sHaven sHeaven true _ hA2).call ?_
 conv=>whnf
 refine AW_rest (c':=restC 8 c21) (AW_has (l:=[(1,refG smpE),(2,db true),(3,db true),(4,di 5),(5,rows Mt.enc [⟨2,0⟩,⟨3,1⟩]),(6,di 0),(7,db false),(8,di 0),(9,db true),(10,di 0)]) (fun e0=>?_) ⟨rfl,rfl,rfl,rfl,rfl,rfl,rfl,rfl,rfl,rfl,trivial⟩)
 refine go [] [] ?_
 conv=>whnf
 refine hM.call ?_
 conv=>whnf
 refine if_ (fun h=>?_) fun h=>absurd (h.symm.trans (strEq_iff'.2 hso)) Bool.false_ne_true
 conv=>whnf
 refine hG.call ?_
 conv=>whnf
 exact frzb rfl
end Go.Proofs.YtpndfdfipkadkaaGreatDoor
