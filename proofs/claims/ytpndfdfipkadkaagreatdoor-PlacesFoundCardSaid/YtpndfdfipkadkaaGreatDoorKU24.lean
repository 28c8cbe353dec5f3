/- The law holds: part 356. Conditions: none. -/
import Derived.Test.YtpndfdfipkadkaaGreatDoorKU18
import Derived.Test.YtpndfdfipkadkaaGreatDoorKU23
set_option linter.all false
set_option maxRecDepth 100000
namespace Go.Proofs.YtpndfdfipkadkaaGreatDoor
open Go Go.Wx Go.Ax
def noRd:Rd:=⟨⟨#[]⟩,0⟩
def meetD(a b:Auto):D:=if chkA a≠0 then .tup [.agg (rdE noRd),db false,di (chkA a)]else if chkA b≠0 then .tup [.agg (rdE noRd),db false,di (chkA b)]else match meetA a b 0 0 with
 | none=> .tup [.agg (rdE noRd),db false,di 0]
 | some r=> .tup [.agg (rdE r),db true,di 0]
noncomputable def c175:Code:=Tryz.f175.body.getD .skip
def pt175_7:Tre:=(.l 0 (.l 2 (.fork (.e 1 (.fork (.e 3 (.fork (.e 4 (.e 5 (.e 6 (.e 7 .done)))) (.e 5 (.e 4 (.e 6 (.e 7 .done)))))) (.fork (.e 4 (.fork (.e 3 (.e 5 (.e 6 (.e 7 .done)))) (.e 5 (.e 3 (.e 6 (.e 7 .done)))))) (.e 5 (.fork (.e 3 (.e 4 (.e 6 (.e 7 .done)))) (.e 4 (.e 3 (.e 6 (.e 7 .done))))))))) (.fork (.e 4 (.fork (.e 1 (.fork (.e 3 (.e 5 (.e 6 (.e 7 .done)))) (.e 5 (.e 3 (.e 6 (.e 7 .done)))))) (.e 5 (.e 1 (.e 3 (.e 6 (.e 7 .done))))))) (.e 5 (.fork (.e 1 (.fork (.e 3 (.e 4 (.e 6 (.e 7 .done)))) (.e 4 (.e 3 (.e 6 (.e 7 .done)))))) (.e 4 (.e 1 (.e 3 (.e 6 (.e 7 .done)))))))))))
def pl175:Plan:=[(12,[.p 0,.l 1,.p 2,.l 3,.e 4,.p 5,.p 6])]
theorem meet_c (a b : Auto) : Pur Pg 175 [.agg a.enc, .agg b.enc] (meetD a b) := by
  refine Pur_of (PdL.cons (.agg (pdAuto a)) (.one (.agg (pdAuto b)))) (AC_fn Tryz.func175 rfl rfl rfl [] (fun _ => true) (fun b h => nomatch h) (AW_rest (c' := restC 0 c175) ?_))
  refine goC 3 [] pl175 ?_
  refine (check_c a).call ?_
  refine if_ (fun h => ?_) fun h => ?_
  · have h0 : chkA a ≠ 0 := by simpa using h
    have hm : meetD a b = .tup [.agg (rdE noRd), db false, di (chkA a)] := by rw [meetD, if_pos h0]
    rw [hm]
    exact .pd (.tup fun d hd => by simp at hd; rcases hd with rfl | rfl | rfl; exact .agg (pdE noRd); exact .v _; exact .v _)
  have ha : chkA a = 0 := by simpa using h
  have va := valid_of ha
  clear h
  refine (check_c b).call ?_
  refine if_ (fun h => ?_) fun h => ?_
  · have h0 : chkA b ≠ 0 := by simpa using h
    have hm : meetD a b = .tup [.agg (rdE noRd), db false, di (chkA b)] := by rw [meetD, if_neg (by simpa using ha), if_pos h0]
    rw [hm]
    exact .pd (.tup fun d hd => by simp at hd; rcases hd with rfl | rfl | rfl; exact .agg (pdE noRd); exact .v _; exact .v _)
  have hb : chkA b = 0 := by simpa using h
  have vb := valid_of hb
  clear h
  have hD : meetD a b = match meetA a b 0 0 with | none => .tup [.agg (rdE noRd), db false, di 0] | some r => .tup [.agg (rdE r), db true, di 0] := by rw [meetD, if_neg (by simpa using ha), if_neg (by simpa using hb)]
  have tail : ∀ (sw : Bool) e0, AW Pg Tryz.f175.ntmps (fun _ => true) 0 (restC 4 c175) (fun ex s => dret Pg Tryz.f175.results.toList (fun d H' _ => Frz H' d (meetD a b)) [] ex s.e s.H)
      ⟨dupds e0 [(4, .ptr 2 0 0 1), (9, .ptr (cond sw 3 4) 0 0 1), (10, .ptr (cond sw 4 3) 0 0 1)], [.arr 75 3 [a.enc], .arr 75 3 [b.enc], .arr 161 2 [rdE noRd], .arr 242 2 [graphL (cond sw a b)], .arr 242 2 [graphL (cond sw b a)]]⟩ := by
    intro sw e0
    have h1 := va.st1
    have h2 := vb.st1
    cases sw
    all_goals
      refine go [] pl175 ?_
      conv => whnf
      refine AC.mono (best_c a b va vb 6 5 _ _ 7 a.states.toNat 0 0 (by omega) (by omega) (by omega) (by omega) (by omega) _ [] [] ⟨rfl, rfl, rfl, rfl, by decide, by decide, by decide, by decide⟩ rfl ⟨rfl, fun j k h => by simp at h⟩) ?_
      rintro d H' ms ⟨hd, _, hold, hlen, rfl⟩
      have h2' : H'[2]? = some (.arr 161 2 [rdE noRd]) := hold 2 (Nat.le_of_ble_eq_true rfl) (by decide)
      clear hold
      obtain ⟨ok, w, ho1⟩ : ∃ ok w, meetF a b 0 0 = [ds' w.text, di w.cost, db ok] ∧ meetD a b = .tup [.agg (rdE w), db ok, di 0] := by
        unfold meetF
        rw [hD]
        cases meetA a b 0 0 with
        | none => exact ⟨false, noRd, rfl, rfl⟩
        | some r => exact ⟨true, r, rfl, rfl⟩
      rw [ho1.1] at hd
      subst hd
      rw [ho1.2]
      have hN : ∀ {o : AO}, (H' ++ [o])[H'.length]? = some o := List.getElem?_concat_length
      have hN2 : ∀ {o o' : AO}, ((H' ++ [o]).set H'.length o')[H'.length]? = some o' := fun {o o'} => List.getElem?_set_self (by simp)
      have l2 := lt_of_some h2'
      have h22 : ∀ {o o' : AO}, ((H' ++ [o]).set H'.length o')[2]? = some (.arr 161 2 [rdE noRd]) := fun {o o'} => by
        rw [List.getElem?_set_ne (by omega), List.getElem?_append_left l2]; exact h2'
      have h2s : ∀ {o o' z : AO}, (((H' ++ [o]).set H'.length o').set 2 z)[2]? = some z := fun {o o' z} => List.getElem?_set_self (by simp; omega)
      refine ck rfl ?_
      refine force_to ?_
      repeat ((conv => whnf); (first | refine datarr_at hN ?_ | refine datarr_at hN2 ?_ | refine datarr_at h22 ?_ | refine datarr_at h2s ?_))
      conv => whnf
      refine ck (and_t rfl (pd_b (fun m hm => by rw [List.mem_singleton.1 hm]; omega) (pd_l pd_0))) ?_
      repeat ((conv => whnf); (first | refine datarr_at h2s ?_))
      exact .pd (.tup fun d hd => by simp at hd; rcases hd with rfl | rfl | rfl; exact .agg (pdE w); exact .v _; exact .v _)
  conv => whnf
  refine AW_rest (c' := restC 3 c175) ?_
  refine goC 1 [] [] ?_
  refine AW_fork [] pt175_7 ?_
  repeat' ((conv => whnf); (first | refine And.intro ?_ ?_ | refine (graph_c a va).call ?_ | refine (graph_c b vb).call ?_ | exact AW_rest (c' := restC 4 c175) (AW_has (l := [(4, .ptr 2 0 0 1), (9, .ptr 3 0 0 1), (10, .ptr 4 0 0 1)]) (fun e0 => tail true e0) ⟨rfl, rfl, rfl, trivial⟩) | exact AW_rest (c' := restC 4 c175) (AW_has (l := [(4, .ptr 2 0 0 1), (9, .ptr 4 0 0 1), (10, .ptr 3 0 0 1)]) (fun e0 => tail false e0) ⟨rfl, rfl, rfl, trivial⟩)))
end Go.Proofs.YtpndfdfipkadkaaGreatDoor
set_option maxRecDepth 100000
namespace Go.Proofs.YtpndfdfipkadkaaGreatDoor
open Go Go.Wx Go.Ax
def mtK(s:ByteArray)(l:List Spell)(i k:Nat):List Mt:=(List.range k).filterMap fun k=>match l[k]? with
 | some x=>if occB s i x.frm then some ⟨i,k⟩else none
 | none=>none
theorem mtK_all(s:ByteArray)(l:List Spell)(i:Nat):mtK s l i l.length=mtAt s l i:=rfl
theorem mtK_succ{s:ByteArray}{l:List Spell}{i k:Nat}{x:Spell}(h:l[k]? =some x):mtK s l i (k+1)=mtK s l i k++(if occB s i x.frm then [⟨i,k⟩]else []):=by
 unfold mtK
 rw[List.range_succ,List.filterMap_append]
 congr 1
 simp only[List.filterMap_cons,List.filterMap_nil,h]
 by_cases hx:occB s i x.frm=true
 ·simp[hx]
 ·simp[hx]
theorem mtK_len(s:ByteArray)(l:List Spell)(i k:Nat):(mtK s l i k).length≤k:=Nat.le_trans (List.length_filterMap_le _ _) (by simp)
def mtU(s:ByteArray)(l:List Spell)(i:Nat):List Mt:=(List.range i).flatMap (mtAt s l)
theorem mtU_succ(s:ByteArray)(l:List Spell)(i:Nat):mtU s l (i+1)=mtU s l i++mtAt s l i:=by
 unfold mtU
 rw[List.range_succ,List.flatMap_append];simp
theorem mtU_len(s:ByteArray)(l:List Spell):∀i,(mtU s l i).length≤i*l.length
 | 0=>by simp[mtU]
 | i+1=>by
  rw[mtU_succ,List.length_append,Nat.succ_mul]
  have:=mtU_len s l i
  have:=mtK_len s l i l.length
  rw[mtK_all]at this
  omega
theorem from_ok{i n:Nat}(h:i≤n):(pos' (some (i:Int))&&(pos' none&&((lo' (some (i:Int))).ble (hi' n none)&&(hi' n none).ble n)))=true:=
 and_t (nonneg_iff.2 (Int.natCast_nonneg i)) (and_t rfl (and_t (Nat.ble_eq_true_of_le (show i≤n from h)) (Nat.ble_eq_true_of_le (Nat.le_refl n))))
theorem mtV(e:Mt):∀d∈e.enc,∃v,d=D.v v:=fun d hd=>by
 simp[Mt.enc]at hd
 rcases hd with rfl | rfl<;>exact⟨_,rfl⟩
def pl172:Plan:=[(8,[.p 0,.p 1,.p 2,.p 3,.l 4,.e 5])]
theorem matches_c(s:ByteArray)(l:List Spell)(hs:s.size≤100)(hl:l.length≤100):PurN Pg 172 [ds' s,rows Spell.enc l] (rows Mt.enc (mtL s l)):=by
 refine PurN_of (PdL.cons (.v _) (.one (pd_rows pdSpell l))) (pd_rows pdMt _) (AC_fn Tryz.func172 rfl rfl rfl [] (fun _=>true) (fun b h=>nomatch h) (go [] pl172 ?_))
 refine AW_ghost 5 184 2 (Nat.zero_le _) ?_
 refine AW_idx s.size (fun i st=>∃out n,out=mtU s l i∧out.length=n∧HasG [(0,ds' s),(1,rows Spell.enc l),(5,.sl 0 0 n n),(10,di s.size),(11,di i)] [.arr 184 2 (out.map Mt.enc)] st) ⟨[],0,rfl,rfl,hasG (G:=[]) ⟨rfl,rfl,rfl,rfl,rfl,trivial⟩ rfl⟩ ?_
 rintro i _ hi ⟨out,n,ho,hn,e0,G,rfl⟩
 have hml:s.size*l.length≤10000:=Nat.mul_le_mul hs hl
 refine AW_drop (BlL.cons (.pd (.v _)) (.cons (.pd (pd_rows pdSpell l)) (.cons (.sl (by simp)) (.v (.v .nil))))) (BlH.cons (BlO.enc pdMt) .nil) (Nat.zero_le _) fun e=>?_
 refine go [] pl172 (if_ (fun hlt=>?_) (fun hlt=>?_))
 ·simp at hlt
  have hml2:i*l.length≤s.size*l.length:=Nat.mul_le_mul_right _ (Nat.le_of_lt hlt)
  refine AW_idx l.length (fun k st=>∃out n,out=mtU s l i++mtK s l i k∧out.length=n∧HasG [(0,ds' s),(1,rows Spell.enc l),(5,.sl 0 0 n n),(6,di i),(10,di s.size),(11,di i),(14,rows Spell.enc l),(15,di l.length),(16,di k)] [.arr 184 2 (out.map Mt.enc)] st) ⟨out,n,by rw[ho];simp[mtK],hn,hasG (G:=[]) ⟨rfl,rfl,rfl,rfl,rfl,rfl,rfl,by simp[rows,dlen];rfl,rfl,trivial⟩ rfl⟩ ?_
  clear ho hn
  clear out n
  rintro k _ hk ⟨out,n,ho,hn,e1,G1,rfl⟩
  have hb:n≤10100:=by
   rw[←hn,ho,List.length_append]
   have h1:=mtU_len s l i
   have h2:=mtK_len s l i k
   omega
  refine AW_drop (BlL.cons (.pd (.v _)) (.cons (.pd (pd_rows pdSpell l)) (.cons (.sl (by simp)) (.v (.v (.v (.cons (.pd (pd_rows pdSpell l)) (.v (.v .nil))))))))) (BlH.cons (BlO.enc pdMt) .nil) (Nat.zero_le _) fun e=>?_
  refine go [] pl172 (if_ (fun hklt=>?_) (fun hklt=>?_))
  ·simp at hklt
   refine row_at hklt ?_
   have hx:l[k]? =some l[k]:=List.getElem?_eq_getElem hklt
   conv=>whnf
   refine ck (and_t (from_ok (by omega)) rfl) ?_
   refine(prefix_c (s.extract i s.size) l[k].frm).call ?_
   refine if_ (fun ho2=>?_) fun ho2=>?_
   ·refine push (by simp[hn]) (by omega) ?_
    exact⟨hklt,out++[⟨i,k⟩],n+1,by rw[mtK_succ hx,if_pos (show occB s i l[k].frm=true from ho2),ho,List.append_assoc],by simp[hn],hasG ⟨rfl,rfl,rfl,rfl,rfl,rfl,rfl,rfl,inc hklt (by simp only[maxLen];omega),trivial⟩ (by rw[List.map_append];rfl)⟩
   ·exact⟨hklt,out,n,by rw[mtK_succ hx,if_neg (by unfold occB;rw[ho2];simp),ho,List.append_nil],hn,hasG ⟨rfl,rfl,rfl,rfl,rfl,rfl,rfl,rfl,inc hklt (by simp only[maxLen];omega),trivial⟩ rfl⟩
  ·simp at hklt
   have hkl:k=l.length:=by omega
   subst hkl
   exact⟨hlt,out,n,by rw[mtU_succ,←mtK_all];exact ho,hn,hasG (G:=[]) ⟨rfl,rfl,rfl,rfl,inc hlt (by simp only[maxLen];omega),trivial⟩ rfl⟩
 ·simp at hlt
  have his:i=s.size:=by omega
  subst his
  exact frzN_rows (enc:=Mt.enc) (xs:=mtL s l) (T:=184) (sz:=2) (by rw[ho];rfl) (by rw[←hn,ho];rfl) (by rw[←hn,ho];rfl) mtV fun _=>rfl
theorem tooMany_c(ns:List ByteArray)(l:List Spell)(hs:∀s∈ns,s.size≤100)(hl:l.length≤100):Pur Pg 111 [rows senc ns,rows Spell.enc l] (di (manyL ns l)):=by
 refine Pur_len 0 rfl fun hn=>fn Tryz.func111 [] [] (.cons (pd_rows pdS ns) (.one (pd_rows pdSpell l))) ?_
 rw[List.length_map]at hn
 refine AW_idx ns.length (fun i st=>(∀x∈ns.take i,decide ((mtL x l).length>100)=false)∧Has [(0,rows senc ns),(1,rows Spell.enc l),(7,rows senc ns),(8,di ns.length),(9,di i)] [] st) ⟨by simp,has ⟨rfl,rfl,rfl,by simp[rows,dlen];rfl,rfl,trivial⟩ rfl⟩ ?_
 rintro i _ _ ⟨h,e,rfl⟩
 refine go [] [] (if_ (fun hlt=>?_) (fun hlt=>?_))
 ·simp at hlt
  refine row_at hlt ?_
  refine((matches_c ns[i] l (hs _ (List.getElem_mem hlt)) hl).pur (.cons (.v _) (.one (pd_rows pdSpell l)))).call ?_
  have hlen:((mtL ns[i] l).map Mt.enc).length=(mtL ns[i] l).length:=List.length_map _
  refine if_ (fun he=>?_) fun he=>?_
  ·refine frzi ?_
   unfold manyL
   rw[if_pos]
   refine List.any_eq_true.2 ⟨ns[i],List.getElem_mem hlt,?_⟩
   simp at he ⊢;omega
  ·exact⟨hlt,take_succ hlt h (by simp at he ⊢;omega),has ⟨rfl,rfl,rfl,rfl,inc hlt hn,trivial⟩ rfl⟩
 ·simp at hlt
  rw[List.take_of_length_le hlt]at h
  refine frzi ?_
  unfold manyL
  rw[if_neg]
  rw[List.any_eq_true]
  rintro⟨x,hx,h1⟩
  rw[h x hx]at h1;cases h1
theorem bad1_c(s:ByteArray):Pur Pg 203 [ds' s] (db (!nameB s)):=by
 refine fn Tryz.func203 [] [] (.one (.v _)) ?_
 refine(isName_c s).call ?_
 exact frzb rfl
theorem idxS_c(ns:List ByteArray):Pur Pg 238 [rows senc ns,.v (.func (.func 203) #[] #[])] (di (idx (fun s=> !nameB s) ns)):=by
 refine Pur_len 0 rfl fun hl=>fn Tryz.func238 [] [] (.cons (pd_rows pdS ns) (.one (.v _))) ?_
 rw[List.length_map]at hl
 refine AW_idx ns.length (fun i st=>(∀x∈ns.take i,(!nameB x)=false)∧Has [(0,rows senc ns),(1,.v (.func (.func 203) #[] #[])),(7,di ns.length),(8,di i)] [] st) ⟨by simp,has ⟨rfl,rfl,by simp[rows,dlen];rfl,rfl,trivial⟩ rfl⟩ ?_
 rintro i _ _ ⟨h,e,rfl⟩
 refine go [] [] (if_ (fun hlt=>?_) (fun hlt=>?_))
 ·simp at hlt
  refine row_at hlt ?_
  refine(bad1_c ns[i]).call ?_
  refine if_ (fun he=>?_) fun he=>?_
  ·exact frzi (idx_hit (p:=fun s=> !nameB s) hlt he h).symm
  ·exact⟨hlt,take_succ hlt h he,has ⟨rfl,rfl,rfl,inc hlt hl,trivial⟩ rfl⟩
 ·simp at hlt
  rw[List.take_of_length_le hlt]at h
  exact frzi (idx_none h).symm
theorem anyBad_c(ns:List ByteArray):Pur Pg 202 [rows senc ns,.v (.func (.func 203) #[] #[])] (db (ns.any fun s=> !nameB s)):=by
 refine fn Tryz.func202 [] [] (.cons (pd_rows pdS ns) (.one (.v _))) ?_
 refine(idxS_c ns).call ?_
 exact frzb idx_any
theorem chkS_len{l:List Spell}(h:chkS l=0):l.length≤24:=by
 unfold chkS at h
 split at h
 ·cases h
 ·omega
def spellL(ns:List ByteArray)(l:List Spell):Int:=if ns.any (fun s=> !nameB s)then 4 else if chkS l≠0 then chkS l else manyL ns l
theorem nameB_size{s:ByteArray}(h:nameB s=true):s.size≤24:=by
 unfold nameB at h
 simp only[Bool.and_eq_true,decide_eq_true_eq]at h
 omega
theorem spellable_c(ns:List ByteArray)(l:List Spell)(hl:∀x∈l,x.ok):Pur Pg 151 [rows senc ns,rows Spell.enc l] (di (spellL ns l)):=by
 refine fn Tryz.func151 [] [] (.cons (pd_rows pdS ns) (.one (pd_rows pdSpell l))) ?_
 refine(anyBad_c ns).call ?_
 refine if_ (fun h1=>?_) fun h1=>?_
 ·exact frzi (by rw[spellL,if_pos h1])
 refine(chk_c l hl).call ?_
 refine if_ (fun h2=>?_) fun h2=>?_
 ·have h2':chkS l≠0:=by simpa using h2
  exact frzi (by rw[spellL,if_neg (by rw[h1];simp),if_pos h2'])
 ·have h2':chkS l=0:=by simpa using h2
  refine(tooMany_c ns l (fun s hs=>?_) ?_).call ?_
  ·have:=List.any_eq_false.1 h1 s hs
   have:=nameB_size (s:=s) (by simpa using this)
   omega
  ·have:=chkS_len h2';omega
  ·exact frzi (by rw[spellL,if_neg (by rw[h1];simp),if_neg (by simpa using h2')])
end Go.Proofs.YtpndfdfipkadkaaGreatDoor
