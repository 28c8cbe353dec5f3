/- The law holds: part 367. Conditions: none. -/
import Derived.Test.YtpndfdfipkadkaaGreatDoorKU4
import Derived.Test.YtpndfdfipkadkaaGreatDoorKU34
set_option linter.all false
set_option maxRecDepth 100000
namespace Go.Proofs.YtpndfdfipkadkaaGreatDoor
open Go Go.Wx Go.Ax
def badAt(l:List Ev)(i:Nat):Bool:=match l[i]? with | some e=>addE (l.take i) e !=0 | none=>false
def openI(l:List Ev):Option Nat:=(List.range l.length).find? (badAt l)
def openD(l:List Ev):D:=match openI l with
 | some i=> .tup [.v (.pointer none),di i,di (match l[i]? with | some e=>addE (l.take i) e | none=>0)]
 | none=> .tup [refG l,di 0,di 0]
theorem range_find{p:Nat→Bool}{n i:Nat}(hi:i<n)(h1:∀j,j<i→p j=false)(h2:p i=true):(List.range n).find? p=some i:=by
 rw[List.find?_eq_some_iff_getElem]
 refine⟨h2,i,by simpa using hi,by simp,fun j hj=>?_⟩
 simp only[List.getElem_range]
 rw[h1 j hj];rfl
theorem openI_hit{l:List Ev}{i:Nat}(hi:i<l.length)(h1:∀j,j<i→badAt l j=false)(h2:badAt l i=true):openI l=some i:=range_find hi h1 h2
theorem openI_none{l:List Ev}(h:∀j,j<l.length→badAt l j=false):openI l=none:=by
 unfold openI
 rw[List.find?_eq_none]
 intro j hj
 rw[h j (List.mem_range.1 hj)];simp
theorem badAt_eq{l:List Ev}{i:Nat}(hi:i<l.length):badAt l i=(addE (l.take i) l[i] !=0):=by unfold badAt;rw[List.getElem?_eq_getElem hi]
theorem acc_upto{l:List Ev}:∀{i:Nat},i≤l.length→(∀j,j<i→badAt l j=false)→Acc (l.take i)
 | 0,_,_=>by simp;exact .nil
 | i+1,hi,h=>by
  have hlt:i<l.length:=by omega
  rw[List.take_succ_eq_append_getElem hlt]
  refine .snoc (acc_upto (by omega) fun j hj=>h j (by omega)) ?_
  have:=h i (by omega)
  rw[badAt_eq hlt]at this
  simpa using this
theorem newP_c(H:Heap):AC Pg 29 [] H fun d H' ms=>d= .ptr H.length 0 0 1∧H'=H++[.arr 126 1 [[.v (.slice none 0 0)]]]∧ms=[]:=by
 refine AC_fn Tryz.func29 rfl rfl rfl [] (Nat.ble H.length) (fun b h h2=>absurd (Nat.le_of_ble_eq_true h2) (Nat.not_le_of_lt h)) (go [] [] ?_)
 exact⟨rfl,rfl,rfl⟩
theorem openP_c (l : List Ev) (hl : l.length ≤ maxLen) : AC Pg 24 [rows Ev.enc l] [] fun d H' ms => ms = [] ∧ ((∃ i, openI l = some i ∧ ∃ e, l[i]? = some e ∧ d = .tup [.v (.pointer none), di i, di (addE (l.take i) e)]) ∨
    (openI l = none ∧ Acc l ∧ d = .tup [.ptr 0 0 0 1, di 0, di 0] ∧ H'[0]? = some (gazAt 1 l) ∧ H'[1]? = some (evsM l))) := by
  refine AC_fn Tryz.func24 rfl rfl rfl [] (fun _ => true) (fun b h => nomatch h) (go [] [] ?_)
  refine AC.mono (newP_c []) ?_
  rintro d H' ms ⟨rfl, rfl, rfl⟩
  conv => whnf
  refine AW_gcell 0 0 0 126 1 23 5 (xs := [[.v (.slice none 0 0)]]) (ds := [.v (.slice none 0 0)]) rfl rfl rfl (.inl (Nat.zero_le _)) (Nat.zero_le _) ?_
  refine AW_idx l.length (fun i st => ∃ H, (∀ j, j < i → badAt l j = false) ∧ H[0]? = some (gazAt 1 (l.take i)) ∧ H[1]? = some (evsM (l.take i)) ∧ Has [(5, .ptr 0 0 0 1), (10, rows Ev.enc l), (11, di l.length), (12, di i)] H st) ⟨_, fun j hj => absurd hj (Nat.not_lt_zero j), rfl, rfl, has ⟨rfl, rfl, by simp [rows, dlen]; rfl, rfl, trivial⟩ rfl⟩ ?_
  rintro i _ hi ⟨H, hb, h0, h1, e0, rfl⟩
  refine go [] [] (if_ (fun hlt => ?_) (fun hlt => ?_))
  · simp at hlt
    refine row_at hlt ?_
    have hN : ∀ {o : AO}, (H ++ [o])[H.length]? = some o := List.getElem?_concat_length
    have hN2 : ∀ {o o' : AO}, ((H ++ [o]).set H.length o')[H.length]? = some o' := fun {o o'} => List.getElem?_set_self (by simp)
    have l0 := lt_of_some h0
    have l1 := lt_of_some h1
    have g0 : ∀ {o o' : AO}, ((H ++ [o]).set H.length o')[0]? = some (gazAt 1 (l.take i)) := fun {o o'} => (List.getElem?_set_ne (by omega)).trans ((List.getElem?_append_left l0).trans h0)
    have g1 : ∀ {o o' : AO}, ((H ++ [o]).set H.length o')[1]? = some (evsM (l.take i)) := fun {o o'} => (List.getElem?_set_ne (by omega)).trans ((List.getElem?_append_left l1).trans h1)
    repeat ((conv => whnf); (first | refine datarr_at hN2 ?_ | refine datarr_at hN ?_))
    refine AC.mono (addAt_c (l.take i) l[i] (acc_upto hi hb) g0 g1 (by decide)) ?_
    rintro d H' ms ⟨rfl, rfl, rfl⟩
    have hbe := badAt_eq hlt
    refine if_ (fun he => ?_) fun he => ?_
    · refine ⟨rfl, .inl ⟨i, openI_hit hlt hb (by rw [hbe]; exact he), l[i], List.getElem?_eq_getElem hlt, rfl⟩⟩
    · have hz : addE (l.take i) l[i] = 0 := by simpa using he
      have hgr : grown (l.take i) l[i] = l.take (i + 1) := by rw [grown, hz, List.take_succ_eq_append_getElem hlt]; rfl
      refine ⟨hlt, _, fun j hj => ?_, ?_, ?_, has ⟨rfl, rfl, rfl, inc hlt hl, trivial⟩ rfl⟩
      · rcases Nat.lt_or_eq_of_le (Nat.le_of_lt_succ hj) with h | rfl
        · exact hb j h
        · rw [hbe]; exact he
      · rw [hgr]
        exact (List.getElem?_set_ne (by decide)).trans (List.getElem?_set_self (by simp))
      · rw [hgr]
        exact List.getElem?_set_self (by simp; omega)
  · simp at hlt
    have hil : i = l.length := by omega
    subst hil
    have hacc := acc_upto (Nat.le_refl _) hb
    rw [List.take_length] at h0 h1 hacc
    exact ⟨rfl, .inr ⟨openI_none hb, hacc, rfl, h0, h1⟩⟩
theorem openD_bad{l:List Ev}{i:Nat}{e:Ev}(h:openI l=some i)(he:l[i]? =some e):openD l= .tup [.v (.pointer none),di i,di (addE (l.take i) e)]:=by rw[openD,h];simp only[he]
theorem openD_ok{l:List Ev}(h:openI l=none):openD l= .tup [refG l,di 0,di 0]:=by rw[openD,h]
theorem pd_open(l:List Ev):Pd (openD l):=by
 unfold openD
 split
 ·exact .tup fun d hd=>by simp at hd;rcases hd with rfl | rfl | rfl<;>exact .v _
 ·refine .tup fun d hd=>?_
  simp at hd
  rcases hd with rfl | rfl
  ·exact pd_refG l
  ·exact .v _
theorem frz_tup3{H:Heap}{a b c a' b' c':D}(h1:Frz H a a')(h2:Frz H b b')(h3:Frz H c c'):Frz H (.tup [a,b,c]) (.tup [a',b',c']):= .tup rfl fun j d d' g1 g2=>by
 match j,g1,g2 with
 | 0,g1,g2=>cases g1;cases g2;exact h1
 | 1,g1,g2=>cases g1;cases g2;exact h2
 | 2,g1,g2=>cases g1;cases g2;exact h3
 | n+3,g1,_=>simp at g1
theorem frz_gaz{H:Heap}{l:List Ev}(h0:H[0]? =some (gazAt 1 l))(h1:H[1]? =some (evsM l)):Frz H (.ptr 0 0 0 1) (refG l):= .fp h0 rfl fun j d d' g1 g2=>by
 match j,g1,g2 with
 | 0,g1,g2=>cases g1;cases g2;exact frzK_rows h1 rfl rfl pdEv (fun _=>rfl) (Nat.zero_le _)
 | n+1,g1,_=>simp at g1
theorem openF_c(l:List Ev):Pur Pg 24 [rows Ev.enc l] (openD l):=by
 refine Pur_len 0 rfl fun hl=>Pur_of (PdL.one (pd_rows pdEv l)) (AC.mono (openP_c l (by rwa[List.length_map]at hl)) ?_)
 rintro d H' ms ⟨_,⟨i,hi,e,he,rfl⟩ | ⟨hn,_,rfl,h0,h1⟩⟩
 ·rw[openD_bad hi he]
  exact .pd (by have:=pd_open l;rw[openD_bad hi he]at this;exact this)
 ·rw[openD_ok hn]
  exact frz_tup3 (frz_gaz h0 h1) (.pd (.v _)) (.pd (.v _))
end Go.Proofs.YtpndfdfipkadkaaGreatDoor
set_option maxRecDepth 100000
namespace Go.Proofs.YtpndfdfipkadkaaGreatDoor
open Go Go.Wx Go.Ax
def nilP:D:= .v (.pointer none)
theorem neq_true{b:Bool}{K:Value→Prop}(h:b=true)(k:K (.bool false)):eqRes .neq b K:=by subst h;exact k
end Go.Proofs.YtpndfdfipkadkaaGreatDoor
