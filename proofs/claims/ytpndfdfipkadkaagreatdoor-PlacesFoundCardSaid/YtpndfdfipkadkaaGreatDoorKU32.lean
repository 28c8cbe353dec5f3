/- The law holds: part 364. Conditions: none. -/
import Derived.Test.YtpndfdfipkadkaaGreatDoorKU31
set_option linter.all false
set_option maxRecDepth 100000
namespace Go.Proofs.YtpndfdfipkadkaaGreatDoor
open Go Go.Wx Go.Ax
theorem acc_onSt{l:List Ev}(ha:Acc l)(day:Int):StOk (prg (onL l day)):=(ha.invOn day).1.toInv0.st (by have:=(ha.invOn day).2;omega)
theorem qExists_c(l:List Ev)(p day:Int)(ha:Acc l):Pur Pg 26 [refG l,di p,di day] (db (hereB (onL l day) p)):=by
 refine fn Tryz.func26 [] [] (.cons (pd_refG l) (.cons (.v _) (.cons (.v _) .nil))) ?_
 refine(onP_c l day ha).call ?_
 refine(exists_c _ p).call ?_
 rw[here_prg]
 exact frzb rfl
theorem names_prg(s:List Pl)(p day:Int):namesL (prg s) p day=namesL s p day:=by
 unfold namesL
 rw[get_prg]
 cases get s p with
 | none=>rfl
 | some x=>simp only[Option.map_some,nrm_ex,nrm_uses]
theorem name_prg(s:List Pl)(p:Int):nameL (prg s) p=nameL s p:=by
 unfold nameL
 rw[get_prg]
 cases get s p with
 | none=>rfl
 | some x=>simp only[Option.map_some,nrm_ex,nrm_uses]
theorem namesP_c(t:List Pl)(p day:Int)(hu:∀x∈t,x.uses.length≤300000):Pur Pg 93 [stD t,di p,di day] (rows senc (namesL t p day)):=by
 refine fn Tryz.func93 [] [] (.cons (pd_st t) (.cons (.v _) (.cons (.v _) .nil))) ?_
 refine(exists_c t p).call ?_
 refine if_ (fun h=>?_) fun h=>?_
 ·have hh:hereB t p=false:=by simpa using h
  rw[show namesL t p day=[] by
   unfold namesL
   cases hg:get t p with
   | none=>rfl
   | some x=>rw[hereB_get hg]at hh;simp[hh]]
  exact .nil
 ·obtain⟨x,hx,he⟩:=hereB_iff.1 (show hereB t p=true by simpa using h)
  refine st_at hx ?_
  have:=hu x (get_mem hx).1
  refine((inUse_c x.uses day (by omega)).pur (PdL.cons (pd_rows pdUse _) (.cons (.v _) .nil))).call ?_
  rw[show namesL t p day=usingL x.uses day by simp[namesL,hx,he]]
  exact .pd (pd_rows pdS _)
theorem acc_uses{l:List Ev}(ha:Acc l)(day:Int):∀x∈prg (onL l day),x.uses.length≤300000:=fun x hx=>by
 obtain⟨y,hy,rfl⟩:=List.mem_map.1 hx
 rw[nrm_uses]
 have:=(ha.invOn day).1.few y hy
 omega
theorem qNames_c(l:List Ev)(p day:Int)(ha:Acc l):Pur Pg 27 [refG l,di p,di day] (rows senc (namesL (onL l day) p day)):=by
 refine fn Tryz.func27 [] [] (.cons (pd_refG l) (.cons (.v _) (.cons (.v _) .nil))) ?_
 refine(onP_c l day ha).call ?_
 refine ck rfl (force_to ?_)
 refine(namesP_c _ p day (acc_uses ha day)).call ?_
 rw[names_prg]
 exact .pd (pd_rows pdS _)
theorem qName_c(l:List Ev)(p day:Int)(ha:Acc l):Pur Pg 36 [refG l,di p,di day] (ds' (nameL (onL l day) p)):=by
 refine fn Tryz.func36 [] [] (.cons (pd_refG l) (.cons (.v _) (.cons (.v _) .nil))) ?_
 refine(onP_c l day ha).call ?_
 refine(exists_c _ p).call ?_
 rw[←name_prg]
 have htr:∀x,get (prg (onL l day)) p=some x→0≤lastT x.uses:=fun x hx=>by
  rw[get_prg,Option.map_eq_some_iff]at hx
  obtain⟨y,hy,rfl⟩:=hx
  rw[nrm_uses]
  exact(ha.invOn day).1.tru y (get_mem hy).1
 refine if_ (fun h=>?_) fun h=>?_
 ·have hh:hereB (prg (onL l day)) p=false:=by simpa using h
  refine frzs ?_
  unfold nameL
  cases hg:get (prg (onL l day)) p with
  | none=>rfl
  | some x=>rw[hereB_get hg]at hh;simp[hh]
 ·obtain⟨x,hx,he⟩:=hereB_iff.1 (show hereB (prg (onL l day)) p=true by simpa using h)
  refine st_at hx ?_
  have ht:=htr x hx
  have hlt:=lastT_lt x.uses
  obtain⟨j,hj⟩:=Int.eq_ofNat_of_zero_le ht
  have hj2:j<x.uses.length:=by omega
  refine(lastTrue_c x.uses).call ?_
  rw[hj]
  refine ck rfl ?_
  refine row_at hj2 ?_
  refine frzs ?_
  simp[nameL,hx,he,hj,hj2]
theorem goN_prg(s:List Pl):∀(n:Nat) (p:Int),goN (prg s) n p=goN s n p
 | 0,_=>rfl
 | n+1,p=>by
  rw[goN,goN,get_prg]
  cases get s p with
  | none=>rfl
  | some x=>simp only[Option.map_some,nrm_ex,nrm_into,goN_prg s n]
end Go.Proofs.YtpndfdfipkadkaaGreatDoor
set_option maxRecDepth 100000
namespace Go.Proofs.YtpndfdfipkadkaaGreatDoor
open Go Go.Wx Go.Ax
theorem indexFunc_c(xs:List Int)(g:FuncId)(caps:List D)(p:Int→Bool)(hc:PdL caps)(hp:∀x∈xs,Pur Pg g (di x::caps) (db (p x))):Pur Pg 173 [rows ienc xs,.clo g caps] (di (idx p xs)):=by
 refine Pur_len 0 rfl fun hl=>fn Tryz.func173 [] [] (.cons (pd_rows pdI xs) (.cons (.clo hc) .nil)) ?_
 rw[List.length_map]at hl
 refine AW_idx xs.length (fun i st=>(∀x∈xs.take i,p x=false)∧Has [(0,rows ienc xs),(1,.clo g caps),(7,di (xs.map ienc).length),(8,di i)] [] st) ⟨by simp,has ⟨rfl,rfl,rfl,rfl,trivial⟩ rfl⟩ ?_
 rintro i _ _ ⟨h,e,rfl⟩
 refine go [] [] (if_ (fun hlt=>?_) (fun hlt=>?_))
 ·simp at hlt
  refine row_at hlt ?_
  refine(hp _ (List.getElem_mem hlt)).call ?_
  refine if_ (fun he=>?_) (fun he=>?_)
  ·exact frzi (idx_hit hlt he h).symm
  ·exact⟨hlt,take_succ hlt h he,has ⟨rfl,rfl,rfl,inc hlt hl,trivial⟩ rfl⟩
 ·simp at hlt
  rw[List.take_of_length_le hlt]at h
  exact frzi (idx_none h).symm
theorem frzK_take{k0:Nat}{H:Heap}{α:Type}{enc:α→List D}{xs:List α}{b n h T sz:Nat}(hb:H[b]? =some (.arr T sz (xs.map enc)))(hn:n≤xs.length)(hh:xs.length=h)(he:∀x,PdL (enc x))(hz:∀x,(enc x).length=sz)(hk:k0≤b):FrzK k0 H (.sl b 0 n h) (rows enc (xs.take n)):=by
 have key:∀{j k:Nat} {d:D},at2 ((xs.take n).map enc) j k=some d→at2 (xs.map enc) j k=some d∧Pd d:=fun{j k d} hd=>by
  obtain⟨l,h1,h2⟩:=at2_some.1 hd
  rw[List.map_take,List.getElem?_take]at h1
  split at h1
  ·refine⟨at2_some.2 ⟨l,h1,h2⟩,?_⟩
   rw[List.getElem?_map,Option.map_eq_some_iff]at h1
   obtain⟨x,_,rfl⟩:=h1
   exact he x d (List.mem_of_getElem? h2)
  ·cases h1
 refine .sl hb (by simpa using hh) (by simp;omega) (by simp;omega) (fun l hl=>?_) (fun j k=>(at2 (xs.map enc) j k).getD .any) (fun j k d hd=>?_) (fun j k d hd=>?_) hk
 ·obtain⟨x,_,rfl⟩:=List.mem_map.1 hl
  exact hz x
 ·rw[Nat.zero_add,(key hd).1];rfl
 ·rw[(key hd).1]
  exact .pd (key hd).2
theorem first_hit{xs:List Int}{p:Int→Bool}(h:¬∀x∈xs,p x=false):∃i,∃h:i<xs.length,p xs[i]=true∧∀x∈xs.take i,p x=false:=by
 induction xs with
 | nil=>exact absurd (fun _ h=>nomatch h) h
 | cons y l ih=>
  by_cases hy:p y=true
  ·exact⟨0,by simp,hy,by simp⟩
  ·obtain⟨i,h1,h2,h3⟩:=ih fun hl=>h fun x hx=>by
    rcases List.mem_cons.1 hx with rfl | hx
    ·simpa using hy
    ·exact hl x hx
   refine⟨i+1,by simp;omega,h2,fun x hx=>?_⟩
   rw[List.take_succ_cons]at hx
   rcases List.mem_cons.1 hx with rfl | hx
   ·simpa using hy
   ·exact h3 x hx
theorem keep_step{cur ys:List Int}{i j:Nat}{F:List Int}{v:Int}(hl:cur.length=ys.length)(hF:cur.take i=F)(hr:cur.drop j=ys.drop j)(hij:i<j)(hj:j<ys.length):(cur.set i v).take (i+1)=F++[v]∧(cur.set i v).drop (j+1)=ys.drop (j+1)∧(cur.set i v).length=ys.length:=by
 refine⟨?_,?_,by simpa using hl⟩
 ·rw[List.take_succ_eq_append_getElem (by simp;omega),List.take_set_of_le (Nat.le_refl _),hF,List.getElem_set_self]
 ·rw[List.drop_set_of_lt (by omega)]
  rw[←List.drop_drop,←List.drop_drop,hr]
theorem deleteFunc_c (ys : List Int) (m n : Nat) (g : FuncId) (caps : List D) (p : Int → Bool) (hn : ys.length = n) (hm : m ≤ n) (hb : n ≤ 500000) (hc : PdL caps) (hp : ∀ x ∈ ys.take m, Pur Pg g (di x :: caps) (db (p x))) :
    AC Pg 112 [.sl 0 0 m n, .clo g caps] [.arr 3 1 (ys.map ienc)] fun d H' ms => ∃ zs : List Int, zs.length = n ∧ zs.take ((ys.take m).filter fun x => !p x).length = (ys.take m).filter (fun x => !p x) ∧ d = .sl 0 0 ((ys.take m).filter fun x => !p x).length n ∧ H' = [.arr 3 1 (zs.map ienc)] ∧ ms = [0] := by
  obtain ⟨xs, hxs⟩ : ∃ xs, xs = ys.take m := ⟨_, rfl⟩
  have hxl : xs.length = m := by rw [hxs]; simp; omega
  rw [← hxs] at hp ⊢
  have hI : Ex Pg 173 [.sl 0 0 m n, .clo g caps] [.arr 3 1 (ys.map ienc)] (di (idx p xs)) := (indexFunc_c xs g caps p hc hp).borrow (.v _) (.cons (hxs ▸ frzK_take (T := 3) (sz := 1) rfl (by omega) hn pdI (fun _ => rfl) (Nat.zero_le _)) (.cons (.pd (.clo hc)) .nil))
  refine AC_fn Tryz.func112 rfl rfl rfl [0] (fun _ => true) (fun b h _ => by simp at h ⊢; omega) (go [] [] ?_)
  refine hI.call ?_
  by_cases hno : ∀ x ∈ xs, p x = false
  · rw [idx_none hno]
    have hf : xs.filter (fun x => !p x) = xs := List.filter_eq_self.2 fun x hx => by rw [hno x hx]; rfl
    refine ⟨ys, hn, ?_, ?_, rfl, rfl⟩
    · rw [hf, hxl, hxs]
    · rw [hf, hxl]; rfl
  · obtain ⟨i0, h0, h1, h2⟩ : ∃ i0, ∃ h : i0 < xs.length, p xs[i0] = true ∧ ∀ x ∈ xs.take i0, p x = false := first_hit hno
    rw [idx_hit h0 h1 h2]
    have hw : IntKind.wrap .i64 ((i0 : Int) + 1) = ((i0 + 1 : Nat) : Int) := by rw [wadd (by omega) (by omega)]; omega
    have hlt0 : i0 < m := by omega
    refine AW_idx (m - (i0 + 1)) (fun c st => ∃ cur F, cur.length = n ∧ F = (xs.take (i0 + 1 + c)).filter (fun x => !p x) ∧ cur.take F.length = F ∧ F.length < i0 + 1 + c ∧ cur.drop (i0 + 1 + c) = ys.drop (i0 + 1 + c) ∧ Has [(0, .sl 0 0 m n), (1, .clo g caps), (5, di F.length), (6, di (i0 + 1 + c : Nat))] [.arr 3 1 (cur.map ienc)] st) ⟨ys, xs.take i0, hn, ?_, ?_, by rw [List.length_take]; omega, rfl, has ⟨rfl, rfl, by rw [List.length_take, Nat.min_eq_left (by omega)]; rfl, congrArg di hw, trivial⟩ rfl⟩ ?_
    · rw [List.take_succ_eq_append_getElem h0, List.filter_append, List.filter_cons, h1, List.filter_eq_self.2 fun x hx => by rw [h2 x hx]; rfl]
      simp
    · rw [List.length_take, Nat.min_eq_left (by omega), hxs, List.take_take, Nat.min_eq_left (by omega)]
    rintro c _ hc ⟨cur, F, g1, g2, g3, g4, g5, e, rfl⟩
    have hnext : i0 + 1 + (c + 1) = i0 + 1 + c + 1 := by omega
    rw [hnext]
    generalize hjv : i0 + 1 + c = j at *
    refine go [] [] (if_ (fun hlt => ?_) (fun hlt => ?_))
    · have hjm : j < m := by have := of_decide_eq_true hlt; omega
      have hjx : j < xs.length := by omega
      have hjc : j < cur.length := by omega
      have hjy : j < ys.length := by omega
      have hcj : cur[j] = xs[j] := by
        have h3 : (cur.drop j)[0]? = (ys.drop j)[0]? := by rw [g5]
        rw [List.getElem?_drop, List.getElem?_drop, Nat.add_zero, List.getElem?_eq_getElem hjc, List.getElem?_eq_getElem hjy] at h3
        rw [Option.some.inj h3]
        simp [hxs]
      have hpc : Pur Pg g (di cur[j] :: caps) (db (p cur[j])) := by rw [hcj]; exact hp _ (List.getElem_mem hjx)
      have hFl : F.length < cur.length := by omega
      obtain ⟨q1, q2, q3⟩ := keep_step (v := cur[j]) (g1.trans hn.symm) g3 g5 g4 hjy
      have hft : (xs.take (j + 1)).filter (fun x => !p x) = if !p xs[j] then F ++ [xs[j]] else F := by
        rw [g2, filtT hjx]
      have hinc : ∀ {a : Nat}, a ≤ 600000 → IntKind.wrap .i64 ((a : Int) + 1) = ((a + 1 : Nat) : Int) := fun {a} ha => by rw [wadd (by omega) (by omega)]; omega
      refine ck (and_t (by simp [g1]) rfl) ?_
      refine ixl_any (by simpa using hjc) hjm ?_
      repeat ((conv => whnf); (first | refine ck (beq_len (by simp [g1])) ?_ | refine nth_at hjc ?_))
      refine hpc.call ?_
      refine if_ (fun hb => ?_) fun hb => ?_
      · refine ck (and_t (by simp [g1]) rfl) ?_
        refine ixl_any (by simpa using hFl) (by omega) ?_
        repeat ((conv => whnf); (first | refine ck (beq_len (by simp [g1])) ?_ | refine nth_at hFl ?_))
        have hb2 : p xs[j] = false := by rw [← hcj]; simpa using hb
        refine ⟨by omega, cur.set F.length cur[j], F ++ [cur[j]], by rw [q3, hn], by rw [hft, hb2, hcj]; rfl, by rw [List.length_append]; exact q1, by simp; omega, q2, has ⟨rfl, rfl, ?_, congrArg di (hinc (by omega)), trivial⟩ ?_⟩
        · rw [List.length_append]
          exact congrArg di (hinc (by omega))
        · show [AO.arr 3 1 ((cur.map ienc).set (0 + F.length) _)] = _
          rw [Nat.zero_add, List.map_set]
          rfl
      · have hb2 : p xs[j] = true := by rw [← hcj]; simpa using hb
        refine ⟨by omega, cur, F, g1, by rw [hft, hb2]; rfl, g3, by omega, ?_, has ⟨rfl, rfl, rfl, congrArg di (hinc (by omega)), trivial⟩ rfl⟩
        rw [← List.drop_drop, ← List.drop_drop, g5]
    · have hjm : j = m := by have := of_decide_eq_false hlt; omega
      have hFe : F = xs.filter fun x => !p x := by rw [g2, hjm, ← hxl, List.take_length]
      have hFm : F.length ≤ m := by omega
      refine ck (beq_len (by simp [g1])) ?_
      have hpos : pos' (some (F.length : Int)) = true := by
        have h : (0 : Int) ≤ (F.length : Int) := by omega
        exact nonneg_iff.2 h
      have hb1 : (lo' (some (F.length : Int))).ble (hi' m none) = true := Nat.ble_eq_true_of_le hFm
      have hb2 : (hi' m none).ble m = true := Nat.ble_eq_true_of_le (Nat.le_refl _)
      conv => whnf
      refine ck (and_t (and_t hpos (and_t rfl (and_t hb1 hb2))) rfl) ?_
      conv => whnf
      refine ck (beq_len (by simp [g1])) ?_
      have hcl : 0 + F.length + (m - F.length) ≤ (cur.map ienc).length := by simp; omega
      refine ck (Nat.ble_eq_true_of_le hcl) ?_
      conv => whnf
      refine ck (beq_len ((fillR_len hcl).trans (by simp [g1]))) ?_
      have hb3 : (lo' none).ble (hi' m (some (F.length : Int))) = true := Nat.ble_eq_true_of_le (Nat.zero_le _)
      have hb4 : (hi' m (some (F.length : Int))).ble m = true := Nat.ble_eq_true_of_le hFm
      refine ck (and_t (and_t rfl (and_t hpos (and_t hb3 hb4))) rfl) ?_
      conv => whnf
      refine ⟨cur.take F.length ++ (List.replicate (m - F.length) 0 ++ cur.drop m), by simp; omega, ?_, ?_, ?_, rfl⟩
      · rw [← hFe, List.take_left' (by simp; omega), g3]
      · rw [← hFe]; rfl
      · show [AO.arr 3 1 (fillR (cur.map ienc) (0 + F.length) (m - F.length) _)] = _
        rw [Nat.zero_add, fillR, show F.length + (m - F.length) = m by omega, List.map_append, List.map_append, List.map_replicate, List.map_take, List.map_drop]
        rfl
end Go.Proofs.YtpndfdfipkadkaaGreatDoor
