/- The law holds: part 362. Conditions: none. -/
import Derived.Test.YtpndfdfipkadkaaGreatDoorKU29
set_option linter.all false
set_option maxRecDepth 100000
namespace Go.Proofs.YtpndfdfipkadkaaGreatDoor
open Go Go.Wx Go.Ax
theorem takeAt_c (f t : Way) (c : Int) (u : Option Mt) (h0 : 0 ≤ t.cost ∧ t.cost ≤ 1000000) (hc : 0 ≤ c ∧ c ≤ 1000000) (hu : t.uses.length ≤ 10000) {H : Heap} {b : Nat} (hb : H[b]? = some (.arr 179 3 [f.enc])) :
    AC Pg 153 [.agg t.enc, di c, useD u, .ptr b 0 0 1] H fun d H' ms => d = .tup [] ∧ H' = H.set b (.arr 179 3 [(takeW f (addW t c u.toList)).enc]) ∧ ms = [b] := by
  have h := AC.one (b := b) (Q := fun d o' => d = .tup [] ∧ o' = .arr 179 3 [(takeW f (addW t c u.toList)).enc]) (pdoWay f) hb (fun d hd => by
    simp at hd
    rcases hd with rfl | rfl | rfl | rfl
    · exact .pd (.agg (pdWay t))
    · exact .pd (.v _)
    · exact .pd (pdUseD u)
    · exact .ptr (by simp)) (take_c f t c u h0 hc hu)
  refine AC.mono (AC.via h ?_) ?_
  · rw [List.map_cons, List.map_cons, List.map_cons, List.map_cons, List.map_nil, rel_pd (.agg (pdWay t)), rel_pd (d := di c) (.v _), rel_pd (pdUseD u)]
    simp [rel]
  · rintro d H' ms ⟨o', ⟨rfl, rfl⟩, rfl, rfl⟩
    exact ⟨rfl, rfl, rfl⟩
def noW:Way:=⟨0,[],false⟩
section
variable (nm sd : ByteArray) (l : List Spell)
def stepR(rec:Nat→Nat→Way)(i j:Nat)(f:Way)(k:Nat):Way:=match l[k]? with
 | none=>f
 | some x=>if occB nm i x.frm&&occB sd j x.to then takeW f (addW (rec (i+x.frm.size) (j+x.to.size)) x.cost [⟨i,k⟩])else f
def startL(rec:Nat→Nat→Way)(i j:Nat):Way:=if decide (j<sd.size)&&byteAt sd j==byteAt nm i then takeW noW (addW (rec (i+1) (j+1)) 0 [])else noW
def wayN:Nat→Nat→Nat→Way
 | 0,_,_=>noW
 | n+1,i,j=>if i=nm.size then⟨0,[],j==sd.size⟩else(List.range l.length).foldl (stepR nm sd l (wayN n) i j) (startL nm sd (wayN n) i j)
def wayA(i j:Nat):Way:=wayN nm sd l (nm.size+1) i j
end
variable {nm sd : ByteArray} {l : List Spell}
theorem occ_le'{s x:ByteArray}{p:Nat}(hx:1≤x.size)(h:occB s p x=true):p+x.size≤s.size:=by
 rcases Nat.lt_or_ge p s.size with hp | hp
 ·exact occ_le hp h
 ·unfold occB Lib.hasPrefix at h
  have h1:=(List.isPrefixOf_iff_prefix.1 h).length_le
  have h2:x.data.toList.length=x.size:=by simp
  have h3:(s.extract p s.size).data.toList.length=(s.extract p s.size).size:=by simp
  rw[h2,h3,ByteArray.size_extract]at h1
  omega
theorem stepR_same{f g:Nat→Nat→Way}{i j:Nat}(hr:∀x∈l,RuleOk x)(h:∀i' j',i<i'→i'≤nm.size→f i' j'=g i' j')(w:Way)(k:Nat):stepR nm sd l f i j w k=stepR nm sd l g i j w k:=by
 unfold stepR
 cases hx:l[k]? with
 | none=>rfl
 | some x=>
  simp only
  have hf:=hr x (List.mem_of_getElem? hx)
  unfold RuleOk at hf
  split
  ·rename_i ho
   rw[Bool.and_eq_true]at ho
   rw[h _ _ (by omega) (occ_le' hf.1 ho.1)]
  ·rfl
theorem wayN_succ(hr:∀x∈l,RuleOk x):∀(n i j:Nat),i≤nm.size→nm.size+1≤n+i→wayN nm sd l (n+1) i j=wayN nm sd l n i j
 | 0,i,j,h1,h2=>by omega
 | n+1,i,j,h1,h2=>by
  conv=>lhs;unfold wayN
  conv=>rhs;unfold wayN
  split
  ·rfl
  rename_i hi
  have hs:startL nm sd (wayN nm sd l (n+1)) i j=startL nm sd (wayN nm sd l n) i j:=by
   unfold startL
   rw[wayN_succ hr n (i+1) (j+1) (by omega) (by omega)]
  rw[hs]
  exact foldl_same fun k _ w=>stepR_same hr (fun i' j' g1 g2=>wayN_succ hr n i' j' g2 (by omega)) w k
theorem wayA_end(j:Nat):wayA nm sd l nm.size j=⟨0,[],j==sd.size⟩:=by
 unfold wayA wayN
 rw[if_pos rfl]
theorem wayA_eq(hr:∀x∈l,RuleOk x){i j:Nat}(hi:i<nm.size):wayA nm sd l i j=(List.range l.length).foldl (stepR nm sd l (wayA nm sd l) i j) (startL nm sd (wayA nm sd l) i j):=by
 show wayN nm sd l (nm.size+1) i j=_
 rw[←wayN_succ hr (nm.size+1) i j (by omega) (by omega)]
 conv=>lhs;unfold wayN
 rw[if_neg (by omega)]
 rfl
def SmW(n:Nat)(w:Way):Prop:=0≤w.cost∧w.cost≤1000*n∧w.uses.length≤n
theorem SmW.take{n:Nat}{f w:Way}(h:SmW n f)(h':SmW n w):SmW n (takeW f w):=by
 unfold takeW;split
 ·exact h'
 ·exact h
theorem SmW.no(n:Nat):SmW n noW:=⟨Int.le_refl _,by simp[noW];omega,Nat.zero_le _⟩
theorem foldl_invW{α β:Type}{p:β→Prop}{f:β→α→β}(hf:∀b a,p b→p (f b a)):∀(l:List α) (b:β),p b→p (l.foldl f b)
 |[],_,h=>h
 | a::l,b,h=>foldl_invW hf l (f b a) (hf b a h)
theorem stepR_sm(hr:∀x∈l,RuleOk x){rec:Nat→Nat→Way}{i j:Nat}(h:∀i' j',i<i'→i'≤nm.size→SmW (nm.size-i') (rec i' j'))(w:Way)(k:Nat)(hw:SmW (nm.size-i) w):SmW (nm.size-i) (stepR nm sd l rec i j w k):=by
 unfold stepR
 cases hx:l[k]? with
 | none=>exact hw
 | some x=>
  simp only
  have hf:=hr x (List.mem_of_getElem? hx)
  unfold RuleOk at hf
  split
  ·rename_i ho
   rw[Bool.and_eq_true]at ho
   have hle:=occ_le' hf.1 ho.1
   obtain⟨a1,a2,a3⟩:=h (i+x.frm.size) (j+x.to.size) (by omega) hle
   refine hw.take ⟨?_,?_,?_⟩
   ·simp only[addW];omega
   ·simp only[addW];omega
   ·simp only[addW,List.length_append,List.length_singleton];omega
  ·exact hw
theorem startL_sm{rec:Nat→Nat→Way}{i j:Nat}(hi:i<nm.size)(h:∀i' j',i<i'→i'≤nm.size→SmW (nm.size-i') (rec i' j')):SmW (nm.size-i) (startL nm sd rec i j):=by
 unfold startL
 split
 ·obtain⟨a1,a2,a3⟩:=h (i+1) (j+1) (by omega) (by omega)
  refine(SmW.no _).take ⟨?_,?_,?_⟩
  ·simp only[addW];omega
  ·simp only[addW];omega
  ·simp only[addW,List.nil_append];omega
 ·exact SmW.no _
theorem wayN_sm(hr:∀x∈l,RuleOk x):∀(n i j:Nat),i≤nm.size→SmW (nm.size-i) (wayN nm sd l n i j)
 | 0,_,_,_=>SmW.no _
 | n+1,i,j,hi=>by
  unfold wayN
  split
  ·exact⟨Int.le_refl _,by simp only;omega,Nat.zero_le _⟩
  rename_i h1
  have ih:∀i' j',i<i'→i'≤nm.size→SmW (nm.size-i') (wayN nm sd l n i' j'):=fun i' j' _ h2=>wayN_sm hr n i' j' h2
  exact foldl_invW (p:=SmW (nm.size-i)) (fun w k hw=>stepR_sm hr ih w k hw) _ _ (startL_sm (by omega) ih)
theorem wayA_sm(hr:∀x∈l,RuleOk x){i j:Nat}(hi:i≤nm.size):SmW (nm.size-i) (wayA nm sd l i j):=wayN_sm hr _ i j hi
end Go.Proofs.YtpndfdfipkadkaaGreatDoor
set_option maxRecDepth 100000
namespace Go.Proofs.YtpndfdfipkadkaaGreatDoor
open Go Go.Wx Go.Ax
abbrev wayF(nm sd:ByteArray)(l:List Spell)(p q:Int):List D:=(wayA nm sd l p.toNat q.toNat).enc
abbrev cloW:D:= .clo 152 [.ptr 0 0 0 1,.ptr 1 0 0 1,.ptr 4 0 0 1,.ptr 5 0 0 1,.ptr 2 0 0 1]
abbrev HW(nm sd:ByteArray)(l:List Spell)(ks:List Value)(ds:List D):Heap:=[.arr 9 1 [[ds' nm]],.arr 9 1 [[ds' sd]],.arr 31 1 [[rows Spell.enc l]],.map ks ds,.arr 176 1 [[.map 3]],.arr 177 1 [[cloW]]]
theorem keyT180(p q p' q':Int):keyP Pg 180 (keyV p q) (keyV p' q')=true:=by kernel_rfl
theorem Known.ok180{F:Int→Int→List D}{ks:List Value}{ds:List D}(h:Known F ks ds)(p q:Int):KeysOk Pg 180 (keyV p q) ks:=⟨keyT180 p q p q,fun k hk=>by
 obtain⟨j,hj⟩:=List.getElem?_of_mem hk
 obtain⟨p',q',rfl,_⟩:=h.key j k hj
 exact keyT180 p q p' q'⟩
theorem Known.pd{F:Int→Int→List D}(hF:∀p q,PdL (F p q)){ks:List Value}{ds:List D}(h:Known F ks ds):∀d∈ds,Pd d:=fun d hd=>by
 obtain⟨j,hj⟩:=List.getElem?_of_mem hd
 have hl:=(List.getElem?_eq_some_iff.1 hj).1
 rw[h.len]at hl
 obtain⟨p,q,_,h2⟩:=h.key j _ (List.getElem?_eq_getElem hl)
 rw[hj]at h2
 cases h2
 exact .agg (hF p q)
section
variable {nm sd : ByteArray} {l : List Spell} {ks ks' : List Value} {ds ds' : List D}
theorem blH_W{k:Nat}(hk:6≤k)(h:Known (wayF nm sd l) ks ds):∀o∈HW nm sd l ks ds,BlO k o:=fun o ho=>by
 simp at ho
 have one:∀{T sz:Nat} {d:D},Bl k d→BlO k (.arr T sz [[d]]):=fun{T sz d} hd l hl x hx=>by
  rw[List.mem_singleton.1 hl,List.mem_singleton]at hx
  rw[hx];exact hd
 rcases ho with rfl | rfl | rfl | rfl | rfl | rfl
 ·exact one (.pd (.v _))
 ·exact one (.pd (.v _))
 ·exact one (.pd (pd_rows pdSpell l))
 ·exact fun d hd=> .pd (h.pd (fun p q=>pdWay _) d hd)
 ·exact one (.map (by omega))
 ·refine one (.clo fun d hd=>?_)
  simp at hd
  rcases hd with rfl | rfl | rfl | rfl | rfl<;>exact .ptr (by omega)
theorem frzO_refl{k:Nat}{H:Heap}{o:AO}(hz:∀T sz xs,o= .arr T sz xs→∀l∈xs,l.length=sz)(h:BlO k o):FrzO k H o o:=by
 cases o with
 | arr T sz xs=>
  refine⟨rfl,rfl,rfl,hz T sz xs rfl,fun i j d hd=>⟨d,hd,.inr ⟨rfl,?_⟩⟩⟩
  obtain⟨l,h1,h2⟩:=at2_some.1 hd
  exact h l (List.mem_of_getElem? h1) d (List.mem_of_getElem? h2)
 | map _ _=>exact⟨rfl,h⟩
 | iter _ _ _=>exact⟨rfl,h⟩
abbrev bestQ(nm sd:ByteArray)(l:List Spell)(w:Way):OpK:=fun d H' ms=>d= .agg w.enc∧∃ks' ds',Known (wayF nm sd l) ks' ds'∧H'=HW nm sd l ks' ds'∧ms=[3]
abbrev bestK (nm sd : ByteArray) (l : List Spell) (ks : List Value) (ds : List D) (w : Way) : OpK := fun d H' ms => ∃ H2 d2, List.length H2 = (HW nm sd l ks ds).length ∧ (∀ (b : Nat) (o' : AO), H2[b]? = some o' → ∃ o, H'[b]? = some o ∧ FrzO (HW nm sd l ks ds).length H' o o') ∧ (∀ (b : Nat), b < (HW nm sd l ks ds).length → ¬b ∈ ms → H2[b]? = H'[b]?) ∧
      (FrzK (HW nm sd l ks ds).length H' d d2 ∨ d2 = d ∧ Bl (HW nm sd l ks ds).length d) ∧ bestQ nm sd l w d2 H2 ms
theorem bestQ_of{w:Way}{d:D}{G:Heap}(h:Known (wayF nm sd l) ks' ds')(hd:FrzK 6 (HW nm sd l ks' ds'++G) d (.agg w.enc)):bestK nm sd l ks ds w d (HW nm sd l ks' ds'++G) [3]:=by
 refine⟨HW nm sd l ks' ds',.agg w.enc,rfl,fun b o' hb=>⟨o',?_,frzO_refl (fun T sz xs e=>?_) (blH_W (Nat.le_refl 6) h o' (List.mem_of_getElem? hb))⟩,fun b hb _=>?_,.inl hd,rfl,ks',ds',h,rfl,rfl⟩
 ·rw[List.getElem?_append_left (lt_of_some hb)];exact hb
 ·have hm:=List.mem_of_getElem? hb
  simp at hm
  rcases hm with rfl | rfl | rfl | rfl | rfl | rfl<;>cases e<;>exact fun l hl=>by rw[List.mem_singleton.1 hl];rfl
 ·exact(List.getElem?_append_left (l₁:=HW nm sd l ks' ds') hb).symm
end
noncomputable def c152:Code:=Tryz.f152.body.getD .skip
def pt152_15:Tre:=(.p 0 (.l 1 (.p 2 (.p 3 (.l 4 (.p 5 (.p 6 (.p 7 (.p 8 (.l 9 (.p 10 (.p 11 (.p 13 (.l 14 (.p 15 (.p 16 (.p 17 (.fork (.e 12 (.e 18 (.e 19 .done))) (.e 18 (.e 12 (.e 19 .done)))))))))))))))))))))
def pl152:Plan:=[(9,[.p 0,.l 1,.p 2,.p 3,.p 4,.l 5,.p 6,.p 7,.l 8,.p 9,.p 10,.p 11,.p 12]),(14,[.l 0,.p 1,.p 2,.p 3,.l 4,.e 5,.p 6,.l 7,.p 8,.p 9,.p 10,.l 11,.e 12,.p 13])]
abbrev envW(i j:Nat):List (Nat × D):=[(0,di i),(1,di j),(2,.ptr 0 0 0 1),(3,.ptr 1 0 0 1),(4,.ptr 4 0 0 1),(5,.ptr 5 0 0 1),(6,.ptr 2 0 0 1),(9,.ptr 6 0 0 1),(10,.ptr 7 0 0 1),(13,.ptr 9 0 0 1),(14,.clo 153 [.ptr 9 0 0 1])]
abbrev zeroC:AO:= .arr 179 3 [[di 0,.v (.slice none 0 0),db false]]
abbrev locW(i j:Nat)(w:Way):Heap:=[zeroC,.arr 180 2 [[di i,di j]],zeroC,.arr 179 3 [w.enc]]
theorem locW_pd{i j:Nat}(w:Way):∀o∈locW i j w,PdO o:=fun o ho=>by
 simp at ho
 rcases ho with rfl | rfl | rfl | rfl
 ·exact fun l hl d hd=>by rw[List.mem_singleton.1 hl]at hd;simp at hd;rcases hd with rfl | rfl | rfl<;>exact .v _
 ·exact fun l hl d hd=>by rw[List.mem_singleton.1 hl]at hd;simp at hd;rcases hd with rfl | rfl<;>exact .v _
 ·exact fun l hl d hd=>by rw[List.mem_singleton.1 hl]at hd;simp at hd;rcases hd with rfl | rfl | rfl<;>exact .v _
 ·exact pdoWay w
set_option maxHeartbeats 4000000 in
theorem bestW_c (nm sd : ByteArray) (l : List Spell) (hn : nm.size ≤ 100) (hsd : sd.size ≤ 1000000) (hr : RulesOk l) : ∀ (n i j : Nat), nm.size < n + i → i ≤ nm.size → j ≤ sd.size → ∀ (ks : List Value) (ds : List D), Known (wayF nm sd l) ks ds →
    AC Pg 152 [di i, di j, .ptr 0 0 0 1, .ptr 1 0 0 1, .ptr 4 0 0 1, .ptr 5 0 0 1, .ptr 2 0 0 1] (HW nm sd l ks ds) (bestQ nm sd l (wayA nm sd l i j)) := by
  intro n
  induction n with
  | zero => exact fun i j h1 h2 => by omega
  | succ n ih =>
    intro i j hni hi hj ks ds hK
    refine AC.frz (AC_fn Tryz.func152 rfl rfl rfl [3] (fun c => Nat.beq c 3 || Nat.ble 6 c) (fun c hc hA => ?_) (AW_rest (c' := restC 0 c152) ?_))
    · rw [Bool.or_eq_true] at hA
      rcases hA with hA | hA
      · rw [Nat.eq_of_beq_eq_true hA]; simp
      · have := Nat.le_of_ble_eq_true hA; simp at hc; omega
    have hrec : ∀ (i' j' : Nat), i < i' → i' ≤ nm.size → j' ≤ sd.size → ∀ (ks : List Value) (ds : List D) (L : Heap), Known (wayF nm sd l) ks ds →
        AC Pg 152 [di i', di j', .ptr 0 0 0 1, .ptr 1 0 0 1, .ptr 4 0 0 1, .ptr 5 0 0 1, .ptr 2 0 0 1] (HW nm sd l ks ds ++ L) fun d H' ms => ∃ H0, bestQ nm sd l (wayA nm sd l i' j') d H0 ms ∧ H' = H0 ++ L := fun i' j' h1 h2 h3 ks ds L hK => by
      refine AC.pre (fun d hd => ?_) (blH_W (Nat.le_refl 6) hK) (fun d H0 ms hq => ?_) (ih i' j' (by omega) h2 h3 ks ds hK)
      · simp at hd
        rcases hd with rfl | rfl | rfl | rfl | rfl | rfl | rfl
        · exact .pd (.v _)
        · exact .pd (.v _)
        · exact .ptr (by simp)
        · exact .ptr (by simp)
        · exact .ptr (by simp)
        · exact .ptr (by simp)
        · exact .ptr (by simp)
      · obtain ⟨rfl, ks', ds', h5, rfl, rfl⟩ := hq
        exact ⟨rfl, .pd (.agg (pdWay _)), blH_W (Nat.le_refl 6) h5, fun b hb => by simp at hb ⊢; omega⟩
    have head : i < nm.size → ∀ e0 (ks1 : List Value) (ds1 : List D), Known (wayF nm sd l) ks1 ds1 → AW Pg Tryz.f152.ntmps (fun c => Nat.beq c 3 || Nat.ble 6 c) 6 (restC 6 c152) (fun ex s => dret Pg Tryz.f152.results.toList (bestK nm sd l ks ds (wayA nm sd l i j)) [3] ex s.e s.H)
        ⟨dupds e0 (envW i j), HW nm sd l ks1 ds1 ++ locW i j noW⟩ := by
      intro hlt
      have hsm : ∀ i' j', i < i' → i' ≤ nm.size → SmW (nm.size - i') (wayA nm sd l i' j') := fun i' j' _ h => wayA_sm hr.ok h
      have mid : ∀ e0 (ks1 : List Value) (ds1 : List D), Known (wayF nm sd l) ks1 ds1 → AW Pg Tryz.f152.ntmps (fun c => Nat.beq c 3 || Nat.ble 6 c) 6 (restC 7 c152) (fun ex s => dret Pg Tryz.f152.results.toList (bestK nm sd l ks ds (wayA nm sd l i j)) [3] ex s.e s.H)
          ⟨dupds e0 (envW i j), HW nm sd l ks1 ds1 ++ locW i j (startL nm sd (wayA nm sd l) i j)⟩ := by
        intro e0 ks1 ds1 hK1
        refine goC 1 [] pl152 ?_
        conv => whnf
        refine AW_idx l.length (fun k st => ∃ ks2 ds2, Known (wayF nm sd l) ks2 ds2 ∧ HasG (envW i j ++ [(59, rows Spell.enc l), (60, di l.length), (61, di k)]) (HW nm sd l ks2 ds2 ++ locW i j ((List.range k).foldl (stepR nm sd l (wayA nm sd l) i j) (startL nm sd (wayA nm sd l) i j))) st) ?_ ?_
        · exact ⟨ks1, ds1, hK1, hasG (G := []) ⟨rfl, rfl, rfl, rfl, rfl, rfl, rfl, rfl, rfl, rfl, rfl, rfl, congrArg (fun n : Nat => di n) (List.length_map _), rfl, trivial⟩ rfl⟩
        clear hK1 ks1 ds1 e0
        rintro k _ hk ⟨ks1, ds1, hK1, e1, G, rfl⟩
        have lt10 : ∀ {q : Nat}, Nat.ble (q + 1) 10 = true → q < 10 := fun h => Nat.le_of_ble_eq_true h
        refine AW_drop (H1 := HW nm sd l ks1 ds1 ++ locW i j ((List.range k).foldl (stepR nm sd l (wayA nm sd l) i j) (startL nm sd (wayA nm sd l) i j)))
          (BlL.v (.v (.cons (.ptr (lt10 rfl)) (.cons (.ptr (lt10 rfl)) (.cons (.ptr (lt10 rfl)) (.cons (.ptr (lt10 rfl)) (.cons (.ptr (lt10 rfl)) (.cons (.ptr (lt10 rfl)) (.cons (.ptr (lt10 rfl)) (.cons (.ptr (lt10 rfl)) (.cons (.clo fun d hd => by rw [List.mem_singleton.1 hd]; exact .ptr (lt10 rfl)) (.cons (.pd (pd_rows pdSpell l)) (.v (.v .nil))))))))))))))
          (fun o ho => (List.mem_append.1 ho).elim (blH_W (Nat.le_of_ble_eq_true rfl) hK1 o) fun ho => ?_) (Nat.le_of_ble_eq_true rfl) fun e => ?_
        · exact (locW_pd _ o ho).bl
        clear e1 G
        have hlk : ∀ (x : Spell), l[k]? = some x → (List.range (k + 1)).foldl (stepR nm sd l (wayA nm sd l) i j) (startL nm sd (wayA nm sd l) i j) = stepR nm sd l (wayA nm sd l) i j ((List.range k).foldl (stepR nm sd l (wayA nm sd l) i j) (startL nm sd (wayA nm sd l) i j)) k := fun x _ => by
          rw [List.range_succ, List.foldl_append]; rfl
        have hfs : SmW (nm.size - i) ((List.range k).foldl (stepR nm sd l (wayA nm sd l) i j) (startL nm sd (wayA nm sd l) i j)) := foldl_invW (p := SmW (nm.size - i)) (fun w k hw => stepR_sm hr.ok hsm w k hw) _ _ (startL_sm hlt hsm)
        have hfin : k = l.length → (List.range k).foldl (stepR nm sd l (wayA nm sd l) i j) (startL nm sd (wayA nm sd l) i j) = wayA nm sd l i j := fun h => by rw [h]; exact (wayA_eq hr.ok hlt).symm
        generalize (List.range k).foldl (stepR nm sd l (wayA nm sd l) i j) (startL nm sd (wayA nm sd l) i j) = f at hlk hfs hfin
        refine go [] pl152 (if_ (fun hkl => ?_) (fun hkl => ?_))
        · simp at hkl
          refine row_at hkl ?_
          have hxo : l[k]? = some l[k] := List.getElem?_eq_getElem hkl
          have hxr := hr.ok _ (List.getElem_mem hkl)
          generalize l[k] = x at hxo hxr
          have hlk := hlk x hxo
          have hstep : stepR nm sd l (wayA nm sd l) i j f k = if occB nm i x.frm && occB sd j x.to then takeW f (addW (wayA nm sd l (i + x.frm.size) (j + x.to.size)) x.cost [⟨i, k⟩]) else f := by unfold stepR; rw [hxo]
          rw [hstep] at hlk
          conv => whnf
          refine ck (and_t (from_ok (by omega)) rfl) ?_
          refine (prefix_c (nm.extract i nm.size) x.frm).call ?_
          refine if_ (fun h1 => ?_) fun h1 => ?_
          · have h1 : occB nm i x.frm = true := h1
            conv => whnf
            refine ck (and_t (from_ok (by omega)) rfl) ?_
            refine (prefix_c (sd.extract j sd.size) x.to).call ?_
            refine if_ (fun h2 => ?_) fun h2 => ?_
            · have h2 : occB sd j x.to = true := h2
              rw [if_pos (by rw [h1, h2]; rfl)] at hlk
              have hle := occ_le' hxr.1 h1
              have hle2 := occ_le' hxr.2.2.1 h2
              unfold RuleOk at hxr
              have hw1 : IntKind.wrap .i64 ((i : Int) + (x.frm.size : Int)) = ((i + x.frm.size : Nat) : Int) := by rw [wadd (by omega) (by omega)]; rfl
              have hw2 : IntKind.wrap .i64 ((j : Int) + (x.to.size : Int)) = ((j + x.to.size : Nat) : Int) := by rw [wadd (by omega) (by omega)]; rfl
              obtain ⟨s1, s2, s3⟩ := hsm (i + x.frm.size) (j + x.to.size) (by omega) (by omega)
              have hR := hrec (i + x.frm.size) (j + x.to.size) (by omega) (by omega) (by omega) ks1 ds1 (locW i j f ++ [.arr 113 3 [x.enc]]) hK1
              have hT := fun (ks2 : List Value) (ds2 : List D) => takeAt_c f (wayA nm sd l (i + x.frm.size) (j + x.to.size)) x.cost (some ⟨i, k⟩) ⟨s1, by omega⟩ ⟨by omega, by omega⟩ (by omega) (H := HW nm sd l ks2 ds2 ++ (locW i j f ++ [.arr 113 3 [x.enc]])) (b := 9) rfl
              conv => whnf
              refine AW_fork [] pt152_15 ?_
              repeat' ((conv => whnf); refine And.intro ?_ ?_)
              all_goals
                conv => whnf
                refine AC.mono (AC.via hR ?_) ?_
                · show [D.v (.int .i64 (IntKind.wrap .i64 ((i : Int) + (x.frm.size : Int)))), D.v (.int .i64 (IntKind.wrap .i64 ((j : Int) + (x.to.size : Int)))), .ptr 0 0 0 1, .ptr 1 0 0 1, .ptr 4 0 0 1, .ptr 5 0 0 1, .ptr 2 0 0 1] = _
                  rw [hw1, hw2]
                  rfl
                rintro d H' ms ⟨H0, ⟨rfl, ks2, ds2, hK2, rfl, rfl⟩, rfl⟩
                refine ck (by kernel_rfl) ?_
                conv => whnf
                refine AC.mono (hT ks2 ds2) ?_
                rintro d H' ms ⟨rfl, rfl, rfl⟩
                refine ck (by kernel_rfl) ?_
                conv => whnf
                exact ⟨hkl, ks2, ds2, hK2, hasG (G := [.arr 113 3 [x.enc]]) ⟨rfl, rfl, rfl, rfl, rfl, rfl, rfl, rfl, rfl, rfl, rfl, rfl, rfl, inc hkl (by have := hr.len; simp only [maxLen]; omega), trivial⟩ (by rw [hlk]; rfl)⟩
            · have h2 : occB sd j x.to = false := h2
              rw [if_neg (by rw [h2, Bool.and_false]; simp)] at hlk
              conv => whnf
              exact ⟨hkl, ks1, ds1, hK1, hasG (G := [.arr 113 3 [x.enc]]) ⟨rfl, rfl, rfl, rfl, rfl, rfl, rfl, rfl, rfl, rfl, rfl, rfl, rfl, inc hkl (by have := hr.len; simp only [maxLen]; omega), trivial⟩ (by rw [hlk]; rfl)⟩
          · have h1 : occB nm i x.frm = false := h1
            rw [if_neg (by rw [h1, Bool.false_and]; simp)] at hlk
            conv => whnf
            exact ⟨hkl, ks1, ds1, hK1, hasG (G := [.arr 113 3 [x.enc]]) ⟨rfl, rfl, rfl, rfl, rfl, rfl, rfl, rfl, rfl, rfl, rfl, rfl, rfl, inc hkl (by have := hr.len; simp only [maxLen]; omega), trivial⟩ (by rw [hlk]; rfl)⟩
        · simp at hkl
          have hkl2 : k = l.length := by omega
          have hf := hfin hkl2
          subst hf
          conv => whnf
          obtain ⟨ks2, ds2, hput, hK2⟩ := hK1.put i j
          have hF : wayF nm sd l i j = (wayA nm sd l i j).enc := by simp [wayF]
          rw [hF] at hput
          refine go [] pl152 ?_
          conv => whnf
          refine ⟨hK1.ok180 i j, ?_⟩
          conv => whnf
          show bestK nm sd l ks ds (wayA nm sd l i j) (.agg (wayA nm sd l i j).enc) [.arr 9 1 [[ds' nm]], .arr 9 1 [[ds' sd]], .arr 31 1 [[rows Spell.enc l]], mput (keyV i j) (.agg (wayA nm sd l i j).enc) ks1 ds1, .arr 176 1 [[.map 3]], .arr 177 1 [[cloW]], .arr 179 3 [(wayA nm sd l i j).enc], .arr 180 2 [[di i, di j]], zeroC, .arr 179 3 [(wayA nm sd l i j).enc]] [3]
          rw [hput]
          exact bestQ_of (G := [.arr 179 3 [(wayA nm sd l i j).enc], .arr 180 2 [[di i, di j]], zeroC, .arr 179 3 [(wayA nm sd l i j).enc]]) hK2 (.pd (.agg (pdWay _)))
      intro e0 ks1 ds1 hK1
      have hjw : startL nm sd (wayA nm sd l) i j = if decide (j < sd.size) && byteAt sd j == byteAt nm i then takeW noW (addW (wayA nm sd l (i + 1) (j + 1)) 0 []) else noW := rfl
      refine goC 1 [] pl152 ?_
      conv => whnf
      refine if_ (fun h1 => ?_) fun h1 => ?_
      · simp at h1
        conv => whnf
        refine ck (sidx h1) ?_
        conv => whnf
        refine ck (sidx hlt) ?_
        conv => whnf
        refine if_ (fun h2 => ?_) fun h2 => ?_
        · have hs2 : startL nm sd (wayA nm sd l) i j = takeW noW (addW (wayA nm sd l (i + 1) (j + 1)) 0 []) := by rw [hjw, if_pos (by simp at h2 ⊢; exact ⟨h1, by omega⟩)]
          have hw1 : IntKind.wrap .i64 ((i : Int) + 1) = ((i + 1 : Nat) : Int) := by rw [wadd (by omega) (by omega)]; rfl
          have hw2 : IntKind.wrap .i64 ((j : Int) + 1) = ((j + 1 : Nat) : Int) := by rw [wadd (by omega) (by omega)]; rfl
          obtain ⟨s1, s2, s3⟩ := hsm (i + 1) (j + 1) (by omega) (by omega)
          refine AC.mono (AC.via (hrec (i + 1) (j + 1) (by omega) (by omega) (by omega) ks1 ds1 (locW i j noW) hK1) ?_) ?_
          · show [D.v (.int .i64 (IntKind.wrap .i64 ((i : Int) + 1))), D.v (.int .i64 (IntKind.wrap .i64 ((j : Int) + 1))), .ptr 0 0 0 1, .ptr 1 0 0 1, .ptr 4 0 0 1, .ptr 5 0 0 1, .ptr 2 0 0 1] = _
            rw [hw1, hw2]
            rfl
          rintro d H' ms ⟨H0, ⟨rfl, ks2, ds2, hK2, rfl, rfl⟩, rfl⟩
          conv => whnf
          refine AC.mono (takeAt_c noW (wayA nm sd l (i + 1) (j + 1)) 0 none ⟨s1, by omega⟩ ⟨by omega, by omega⟩ (by omega) (b := 9) ?_) ?_
          · rfl
          rintro d H' ms ⟨rfl, rfl, rfl⟩
          rw [hs2] at mid
          conv => whnf
          exact AW_rest (c' := restC 7 c152) (AW_has (l := envW i j) (fun e0 => mid e0 ks2 ds2 hK2) ⟨rfl, rfl, rfl, rfl, rfl, rfl, rfl, rfl, rfl, rfl, rfl, trivial⟩)
        · have hs2 : startL nm sd (wayA nm sd l) i j = noW := by rw [hjw, if_neg (by simp at h2 ⊢; intro _; omega)]
          rw [hs2] at mid
          conv => whnf
          exact AW_rest (c' := restC 7 c152) (AW_has (l := envW i j) (fun e0 => mid e0 ks1 ds1 hK1) ⟨rfl, rfl, rfl, rfl, rfl, rfl, rfl, rfl, rfl, rfl, rfl, trivial⟩)
      · have hs2 : startL nm sd (wayA nm sd l) i j = noW := by rw [hjw, if_neg (by simp at h1 ⊢; intro hh; omega)]
        rw [hs2] at mid
        conv => whnf
        exact AW_rest (c' := restC 7 c152) (AW_has (l := envW i j) (fun e0 => mid e0 ks1 ds1 hK1) ⟨rfl, rfl, rfl, rfl, rfl, rfl, rfl, rfl, rfl, rfl, rfl, trivial⟩)
    refine goC 2 [] pl152 ?_
    conv => whnf
    refine if_ (fun h => ?_) fun h => ?_
    · have hin : i = nm.size := by simp at h; omega
      have hw : wayA nm sd l i j = ⟨0, [], j == sd.size⟩ := by rw [hin]; exact wayA_end j
      rw [hw]
      conv => whnf
      refine bestQ_of (ks := ks) (ds := ds) (G := [.arr 179 3 [[di 0, .v (.slice none 0 0), db ((j : Int) == (sd.size : Int))]]]) hK ?_
      refine .agg rfl fun q d d' h1 h2 => ?_
      match q with
      | 0 => cases h1; cases h2; exact .pd (.v _)
      | 1 => cases h1; cases h2; exact .nil
      | 2 =>
        cases h1; cases h2
        have hb : ((j : Int) == (sd.size : Int)) = (j == sd.size) := by
          cases hb : (j == sd.size) with
          | true => simp at hb ⊢; omega
          | false => simp at hb ⊢; omega
        exact hb ▸ .pd (.v _)
      | q + 3 => cases h1
    have hlt : i < nm.size := by simp at h; omega
    conv => whnf
    refine goC 2 [] pl152 ?_
    conv => whnf
    refine ⟨hK.ok180 i j, ?_⟩
    have hF : wayF nm sd l i j = (wayA nm sd l i j).enc := by simp [wayF]
    rcases hK.get i j with hg | hg
    · refine mlk_none hg ?_
      conv => whnf
      refine AW_rest (c' := restC 4 c152) ?_
      refine goC 1 [] [] ?_
      refine AW_ncell 9 0 1 179 3 (xs := [[di 0, .v (.slice none 0 0), db false]]) (ds := [di 0, .v (.slice none 0 0), db false]) rfl rfl rfl (.inl (Nat.le_of_ble_eq_true rfl)) ?_
      refine AW_rest (c' := restC 5 c152) ?_
      refine goC 1 [] [] ?_
      conv => whnf
      refine AW_rest (c' := restC 6 c152) (AW_has (l := envW i j) (fun e0 => head hlt e0 ks ds hK) ⟨rfl, rfl, rfl, rfl, rfl, rfl, rfl, rfl, rfl, rfl, rfl, trivial⟩)
    · rw [hF] at hg
      refine mlk_some hg ?_
      conv => whnf
      refine bestQ_of (ks := ks) (ds := ds) hK ?_
      exact .pd (.agg (pdWay (wayA nm sd l i j)))
end Go.Proofs.YtpndfdfipkadkaaGreatDoor
set_option maxRecDepth 100000
namespace Go.Proofs.YtpndfdfipkadkaaGreatDoor
open Go Go.Wx Go.Ax
def writtenV(nm sd:ByteArray)(l:List Spell):Int × List Mt × Int:=if spellL [nm] l≠0 then(0,[],spellL [nm] l)else if(wayA nm sd l 0 0).ok then((wayA nm sd l 0 0).cost,(wayA nm sd l 0 0).uses,0)else(0,[],5)
def wrtD(v:Int × List Mt × Int):D:= .tup [di v.1,rows Mt.enc v.2.1,di v.2.2]
noncomputable def c83:Code:=Tryz.f83.body.getD .skip
def pl83:Plan:=[(10,[.p 0,.l 1,.p 2,.l 3,.p 4,.p 5,.p 6])]
theorem wrt_frz{H:Heap}{c e:Int}{r:D}{u:List Mt}(hr:Frz H r (rows Mt.enc u)):Frz H (.tup [di c,r,di e]) (wrtD (c,u,e)):= .tup rfl fun j d d' h1 h2=>by
 match j with
 | 0=>cases h1;cases h2;exact .pd (.v _)
 | 1=>cases h1;cases h2;exact hr
 | 2=>cases h1;cases h2;exact .pd (.v _)
 | j+3=>cases h1
set_option maxHeartbeats 4000000 in
theorem written_c(nm sd:ByteArray)(l:List Spell)(hsd:sd.size≤1000000)(hl:∀x∈l,x.ok):Pur Pg 83 [ds' nm,ds' sd,rows Spell.enc l] (wrtD (writtenV nm sd l)):=by
 refine Pur_of (PdL.cons (.v _) (.cons (.v _) (.one (pd_rows pdSpell l)))) (AC_fn Tryz.func83 rfl rfl rfl [] (fun _=>true) (fun b h=>nomatch h) (AW_rest (c':=restC 0 c83) ?_))
 refine goC 9 [] pl83 ?_
 have hs:Ex Pg 151 [.row true [senc nm],rows Spell.enc l] [.arr 9 1 [[ds' nm]],.arr 9 1 [[ds' sd]],.arr 31 1 [[rows Spell.enc l]]] (di (spellL [nm] l)):=(spellable_c [nm] l hl).borrow (lfi _) (.cons (.row fun l hl d hd=>by rw[List.mem_singleton.1 hl]at hd;exact pdS nm d hd) (.cons (.pd (pd_rows pdSpell l)) .nil))
 refine hs.call ?_
 refine if_ (fun h=>?_) fun h=>?_
 ·have hv:writtenV nm sd l=(0,[],spellL [nm] l):=by unfold writtenV;rw[if_pos (by simpa using h)]
  rw[hv]
  conv=>whnf
  exact wrt_frz .nil
 have h0:spellL [nm] l=0:=by simpa using h
 obtain⟨hn,hr⟩:=spellL_ok h0
 have hsz:=nameB_size (hn nm (List.mem_singleton.2 rfl))
 have hW:∀r,writtenV nm sd l=r↔(if(wayA nm sd l 0 0).ok then((wayA nm sd l 0 0).cost,(wayA nm sd l 0 0).uses,0)else(0,[],5))=r:=fun r=>by unfold writtenV;rw[if_neg (by simpa using h0)]
 conv=>whnf
 refine AC.mono (bestW_c nm sd l (by omega) hsd hr (nm.size+1) 0 0 (by omega) (by omega) (by omega) [] [] ⟨rfl,fun j k h=>by simp at h⟩) ?_
 rintro d H' ms ⟨rfl,ks',ds',hK,rfl,rfl⟩
 conv=>whnf
 refine if_ (fun h=>?_) fun h=>?_
 ·have hv:writtenV nm sd l=(0,[],5):=(hW _).2 (by rw[if_neg (by simpa using h)])
  rw[hv]
  conv=>whnf
  exact wrt_frz .nil
 ·have hv:writtenV nm sd l=((wayA nm sd l 0 0).cost,(wayA nm sd l 0 0).uses,0):=(hW _).2 (by rw[if_pos (by simpa using h)])
  rw[hv]
  conv=>whnf
  exact wrt_frz (.pd (pd_rows pdMt _))
end Go.Proofs.YtpndfdfipkadkaaGreatDoor
