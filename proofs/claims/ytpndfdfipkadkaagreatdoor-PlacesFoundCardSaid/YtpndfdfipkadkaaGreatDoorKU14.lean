/- The law holds: part 346. Conditions: none. -/
import Derived.Test.YtpndfdfipkadkaaGreatDoorKU11
import Derived.Test.YtpndfdfipkadkaaGreatDoorKU12
set_option linter.all false
set_option maxRecDepth 100000
namespace Go.Proofs.YtpndfdfipkadkaaGreatDoor
open Go Go.Wx Go.Ax
theorem frzN_take{H:Heap}{α:Type}{enc:α→List D}{xs:List α}{b n h T sz:Nat}(hb:H[b]? =some (.arr T sz (xs.map enc)))(hn:n≤xs.length)(hh:xs.length=h)(he:∀x,∀d∈enc x,∃v,d= .v v)(hz:∀x,(enc x).length=sz):FrzN H (.sl b 0 n h) (rows enc (xs.take n)):=by
 refine .sl hb (by simpa using hh) (by simp;omega) (by simp;omega) (fun l hl=>?_) (fun j k=>(at2 (xs.map enc) j k).getD .any) (fun j k d hd=>?_) fun j k d hd=>?_
 ·obtain⟨x,_,rfl⟩:=List.mem_map.1 hl
  exact hz x
 ·obtain⟨l,h1,h2⟩:=at2_some.1 hd
  have:at2 (xs.map enc) j k=some d:=by
   refine at2_some.2 ⟨l,?_,h2⟩
   rw[List.map_take,List.getElem?_take]at h1
   split at h1
   ·exact h1
   ·cases h1
  rw[Nat.zero_add,this];rfl
 ·obtain⟨l,h1,h2⟩:=at2_some.1 hd
  have:at2 (xs.map enc) j k=some d:=by
   refine at2_some.2 ⟨l,?_,h2⟩
   rw[List.map_take,List.getElem?_take]at h1
   split at h1
   ·exact h1
   ·cases h1
  rw[this]
  rw[List.getElem?_map,Option.map_eq_some_iff]at h1
  obtain⟨x,_,rfl⟩:=h1
  obtain⟨v,rfl⟩:=he x d (List.mem_of_getElem? h2)
  exact .v v
theorem using_uniq(l:List Use)(day:Int):usingL l day=uniqS ((l.filter (inUse day)).map (·.name)):=by
 unfold usingL uniqS
 rw[List.foldl_map,List.foldl_filter]
theorem filtT{α:Type}{l:List α}{p:α→Bool}{i:Nat}(h:i<l.length):(l.take (i+1)).filter p=if p l[i]then(l.take i).filter p++[l[i]]else(l.take i).filter p:=by
 rw[List.take_succ_eq_append_getElem h,List.filter_append,List.filter_cons,List.filter_nil]
 split<;>simp_all
theorem inUse_c(l:List Use)(day:Int)(hl:l.length≤700000):PurN Pg 162 [rows Use.enc l,di day] (rows senc (usingL l day)):=by
 refine PurN_of (fun d hd=>?_) (pd_rows pdS _) ?_
 ·exact(PdL.cons (pd_rows pdUse l) (.cons (.v _) .nil)) d hd
 refine AC_fn Tryz.func162 rfl rfl rfl [] (fun _=>true) (fun _ h _=>absurd h (Nat.not_lt_zero _)) (go [] [] ?_)
 refine AW_ghost 5 9 1 (Nat.zero_le _) ?_
 refine AW_idx l.length (fun i st=>∃n out xs,out=(l.take i).filter (inUse day)∧out.length=n∧n≤i∧xs=(out.map (·.name)).map senc∧HasG [(0,rows Use.enc l),(1,di day),(5,.sl 0 0 n n),(8,rows Use.enc l),(9,di l.length),(10,di i)] [.arr 9 1 xs] st) ⟨0,[],[],by simp,rfl,Nat.le_refl _,rfl,hasG (G:=[]) ⟨rfl,rfl,rfl,rfl,by simp[rows,dlen];rfl,rfl,trivial⟩ rfl⟩ ?_
 rintro i _ _ ⟨n,out,xs,h1,hn,hni,rfl,e,G,rfl⟩
 refine AW_drop (BlL.cons (.pd (pd_rows pdUse l)) (.v (.cons (.sl (by simp)) (.cons (.pd (pd_rows pdUse l)) (.v (.v .nil)))))) (BlH.cons (BlO.enc pdS) .nil) (Nat.zero_le _) fun e=>?_
 refine go [] [] (if_ (fun hlt=>?_) (fun hlt=>?_))
 ·simp at hlt
  have hlen:((out.map (·.name)).map senc).length=n:=by simpa using hn
  refine row_at hlt ?_
  refine if_ (fun h2=>if_ (fun h3=>?_) fun h3=>?_) fun h2=>?_
  ·refine push hlen (by omega) ?_
   exact⟨hlt,n+1,out++[l[i]],_,by rw[filtT hlt,←h1];simp[inUse,h2,h3],by simp[hn],by omega,by simp;rfl,hasG ⟨rfl,rfl,rfl,rfl,rfl,inc hlt (by simp only[maxLen];omega),trivial⟩ rfl⟩
  ·exact⟨hlt,n,out,_,by rw[filtT hlt,←h1];simp[inUse,h2,h3],hn,by omega,rfl,hasG ⟨rfl,rfl,rfl,rfl,rfl,inc hlt (by simp only[maxLen];omega),trivial⟩ rfl⟩
  ·exact⟨hlt,n,out,_,by rw[filtT hlt,←h1];simp[inUse,h2],hn,by omega,rfl,hasG ⟨rfl,rfl,rfl,rfl,rfl,inc hlt (by simp only[maxLen];omega),trivial⟩ rfl⟩
 ·simp at hlt
  rw[List.take_of_length_le hlt]at h1
  refine AC.mono (uniqueS_c (out.map (·.name)) (b:=0) (n:=n) rfl (by simpa using hn) (by omega)) ?_
  rintro d H' ms ⟨ys,h2,h3,h4,rfl,rfl,rfl⟩
  refine ck rfl ?_
  rw[using_uniq,←h1]
  have hf:=frzN_take (H:=[AO.arr 9 1 (ys.map senc)]) (b:=0) (xs:=ys) (n:=(uniqS (out.map (·.name))).length) (enc:=senc) (T:=9) (sz:=1) rfl (by omega) h2 (fun x d hd=>⟨_,List.mem_singleton.1 hd⟩) fun _=>rfl
  rw[h3]at hf
  exact hf
theorem frzN_agg{H:Heap}{ds:List D}(h:∀d∈ds,∃v,d= .v v):FrzN H (.agg ds) (.agg ds):= .agg rfl fun j d d' h1 h2=>by
 obtain⟨v,hv⟩:=h d (List.mem_of_getElem? h1)
 rw[h1]at h2
 cases h2
 rw[hv]
 exact .v v
theorem use_c(name:ByteArray)(k:Int)(day:Int):PurN Pg 167 [ds' name,.v (.int .u8 k),di day] (.agg [ds' name,.v (.int .u8 k),di day,di 100001]):=by
 have hv:∀d∈[ds' name,.v (.int .u8 k),di day,di 100001],∃v,d=D.v v:=fun d hd=>by
  simp at hd;rcases hd with rfl | rfl | rfl | rfl<;>exact⟨_,rfl⟩
 refine PurN_of (fun d hd=>?_) (.agg fun d hd=>?_) ?_
 ·simp at hd;rcases hd with rfl | rfl | rfl<;>exact .v _
 ·obtain⟨v,rfl⟩:=hv d hd;exact .v v
 refine AC_fn Tryz.func167 rfl rfl rfl [] (fun _=>true) (fun _ h _=>absurd h (Nat.not_lt_zero _)) (go [] [] ?_)
 exact frzN_agg hv
end Go.Proofs.YtpndfdfipkadkaaGreatDoor
set_option maxRecDepth 100000
namespace Go.Proofs.YtpndfdfipkadkaaGreatDoor
open Go Go.Wx Go.Ax
def plM(b:Nat)(p:Pl):List D:=[db p.ex,di p.parent,di p.into,.sl b 0 p.uses.length p.uses.length]
def layP(ps:List (Nat × Nat)):List D:=ps.map fun p=> .ptr p.2 0 0 1
def layB(m:Nat)(ps:List (Nat × Nat)):List Nat:=m::ps.flatMap fun p=>[p.1,p.2]
structure Lay(H:Heap)(k m:Nat)(ps:List (Nat × Nat))(t:List Pl):Prop where
 len:ps.length=t.length
 map:H[m]? =some (.map (stK t) (layP ps))
 uses:∀(i:Nat) p x,ps[i]? =some p→t[i]? =some x→H[p.1]? =some (.arr 142 4 (x.uses.map Use.enc))
 plc:∀(i:Nat) p x,ps[i]? =some p→t[i]? =some x→H[p.2]? =some (.arr 121 4 [plM p.1 x])
 nd:(layB m ps).Nodup
 ge:∀b∈layB m ps,k≤b
theorem Lay.lt{H:Heap}{k m:Nat}{ps:List (Nat × Nat)}{t:List Pl}(h:Lay H k m ps t):∀b∈layB m ps,b<H.length:=by
 intro b hb
 rcases List.mem_cons.1 hb with rfl | hb
 ·exact lt_of_some h.map
 ·obtain⟨p,hp,hb⟩:=List.mem_flatMap.1 hb
  obtain⟨i,hi⟩:=List.getElem?_of_mem hp
  have hlt:=(List.getElem?_eq_some_iff.1 hi).1
  rw[h.len]at hlt
  have hx:t[i]? =some t[i]:=List.getElem?_eq_getElem hlt
  simp at hb
  rcases hb with rfl | rfl
  ·exact lt_of_some (h.uses i p _ hi hx)
  ·exact lt_of_some (h.plc i p _ hi hx)
theorem layB_mem{m:Nat}{ps:List (Nat × Nat)}{i:Nat}{p:Nat × Nat}(h:ps[i]? =some p):p.1∈layB m ps∧p.2∈layB m ps:=
 ⟨List.mem_cons_of_mem _ (List.mem_flatMap.2 ⟨p,List.mem_of_getElem? h,by simp⟩),List.mem_cons_of_mem _ (List.mem_flatMap.2 ⟨p,List.mem_of_getElem? h,by simp⟩)⟩
theorem flat_ne:∀{ps:List (Nat × Nat)} {i j:Nat} {p q:Nat × Nat},(ps.flatMap fun p=>[p.1,p.2]).Nodup→ps[i]? =some p→ps[j]? =some q→p.1≠p.2∧(i≠j→p.1≠q.1∧p.1≠q.2∧p.2≠q.1∧p.2≠q.2)
 |[],i,_,_,_,_,h,_=>by simp at h
 | x::r,i,j,p,q,hn,h1,h2=>by
  rw[List.flatMap_cons,List.nodup_append]at hn
  obtain⟨n1,n2,n3⟩:=hn
  have hr:∀{i:Nat} {p:Nat × Nat},r[i]? =some p→p.1∈r.flatMap (fun p=>[p.1,p.2])∧p.2∈r.flatMap (fun p=>[p.1,p.2]):=fun h=>⟨List.mem_flatMap.2 ⟨_,List.mem_of_getElem? h,by simp⟩,List.mem_flatMap.2 ⟨_,List.mem_of_getElem? h,by simp⟩⟩
  cases i with
  | zero=>
   cases h1
   refine⟨by simpa using n1,fun hij=>?_⟩
   cases j with
   | zero=>exact absurd rfl hij
   | succ j=>
    obtain⟨a,b⟩:=hr h2
    exact⟨n3 _ (by simp) _ a,n3 _ (by simp) _ b,n3 _ (by simp) _ a,n3 _ (by simp) _ b⟩
  | succ i=>
   cases j with
   | zero=>
    cases h2
    obtain⟨a,b⟩:=hr h1
    exact⟨(flat_ne n2 h1 h1).1,fun _=>⟨(n3 _ (by simp) _ a).symm,(n3 _ (by simp) _ a).symm,(n3 _ (by simp) _ b).symm,(n3 _ (by simp) _ b).symm⟩⟩
   | succ j=>exact⟨(flat_ne n2 h1 h1).1,fun hij=>(flat_ne n2 h1 h2).2 (by omega)⟩
section
variable {H H' : Heap} {k m : Nat} {ps : List (Nat × Nat)} {t : List Pl}
theorem Lay.ne(h:Lay H k m ps t){i:Nat}{p:Nat × Nat}(hp:ps[i]? =some p):p.1≠p.2∧m≠p.1∧m≠p.2:=by
 have hn:=List.nodup_cons.1 h.nd
 have h1:∀x∈[p.1,p.2],m≠x:=fun x hx e=>hn.1 (by rw[e];exact List.mem_flatMap.2 ⟨p,List.mem_of_getElem? hp,hx⟩)
 exact⟨(flat_ne hn.2 hp hp).1,h1 _ (by simp),h1 _ (by simp)⟩
theorem Lay.ne2(h:Lay H k m ps t){i j:Nat}{p q:Nat × Nat}(hp:ps[i]? =some p)(hq:ps[j]? =some q)(hij:i≠j):p.1≠q.1∧p.1≠q.2∧p.2≠q.1∧p.2≠q.2:=
 (flat_ne (List.nodup_cons.1 h.nd).2 hp hq).2 hij
theorem Lay.ext(h:Lay H k m ps t)(he:∀b∈layB m ps,H'[b]? =H[b]?):Lay H' k m ps t:=
 ⟨h.len,by rw[he m (by simp[layB])];exact h.map,fun i p x h1 h2=>by rw[he _ (layB_mem h1).1];exact h.uses i p x h1 h2,fun i p x h1 h2=>by rw[he _ (layB_mem h1).2];exact h.plc i p x h1 h2,h.nd,h.ge⟩
theorem Lay.app(h:Lay H k m ps t)(G:Heap):Lay (H++G) k m ps t:=h.ext fun b hb=>List.getElem?_append_left (h.lt b hb)
theorem Lay.upd (h : Lay H k m ps t) {i : Nat} {p : Nat × Nat} {x x' : Pl} (hp : ps[i]? = some p) (hx : t[i]? = some x) (hid : x'.id = x.id)
    (h1 : H'[p.1]? = some (.arr 142 4 (x'.uses.map Use.enc))) (h2 : H'[p.2]? = some (.arr 121 4 [plM p.1 x'])) (ho : ∀ b ∈ layB m ps, b ≠ p.1 → b ≠ p.2 → H'[b]? = H[b]?) : Lay H' k m ps (t.set i x') := by
  obtain ⟨hne, hm1, hm2⟩ := h.ne hp
  have hk : stK (t.set i x') = stK t := by
    unfold stK
    rw [List.map_set]
    refine List.ext_getElem? fun j => ?_
    rw [List.getElem?_set]
    by_cases hj : i = j
    · subst hj
      have hlt := (List.getElem?_eq_some_iff.1 hx).1
      rw [if_pos rfl, if_pos (by simpa using hlt), List.getElem?_map, hx, hid]; rfl
    · rw [if_neg hj]
  refine ⟨by simp [h.len], by rw [hk, ho m (by simp [layB]) hm1 hm2]; exact h.map, fun j q y hq hy => ?_, fun j q y hq hy => ?_, h.nd, h.ge⟩
  · by_cases hj : i = j
    · subst hj
      rw [hp] at hq; cases hq
      rw [List.getElem?_set_self (List.getElem?_eq_some_iff.1 hx).1] at hy; cases hy
      exact h1
    · rw [List.getElem?_set_ne hj] at hy
      obtain ⟨a, b, c, d⟩ := h.ne2 hp hq hj
      rw [ho q.1 (layB_mem hq).1 (Ne.symm a) (Ne.symm c)]
      exact h.uses j q y hq hy
  · by_cases hj : i = j
    · subst hj
      rw [hp] at hq; cases hq
      rw [List.getElem?_set_self (List.getElem?_eq_some_iff.1 hx).1] at hy; cases hy
      exact h2
    · rw [List.getElem?_set_ne hj] at hy
      obtain ⟨a, b, c, d⟩ := h.ne2 hp hq hj
      rw [ho q.2 (layB_mem hq).2 (Ne.symm b) (Ne.symm d)]
      exact h.plc j q y hq hy
theorem Lay.push (h : Lay H k m ps t) {p : Nat × Nat} {x : Pl} (h0 : H'[m]? = some (.map (stK t ++ [.int .i64 x.id]) (layP ps ++ [.ptr p.2 0 0 1]))) (h1 : H'[p.1]? = some (.arr 142 4 (x.uses.map Use.enc))) (h2 : H'[p.2]? = some (.arr 121 4 [plM p.1 x]))
    (hp : p.1 ∉ layB m ps ∧ p.2 ∉ layB m ps ∧ p.1 ≠ p.2 ∧ k ≤ p.1 ∧ k ≤ p.2) (ho : ∀ b ∈ layB m ps, b ≠ m → H'[b]? = H[b]?) : Lay H' k m (ps ++ [p]) (t ++ [x]) := by
  obtain ⟨n1, n2, n3, g1, g2⟩ := hp
  have hB : layB m (ps ++ [p]) = layB m ps ++ [p.1, p.2] := by simp [layB]
  refine ⟨by simp [h.len], by rw [h0]; simp [stK, layP], fun j q y hq hy => ?_, fun j q y hq hy => ?_, ?_, ?_⟩
  · by_cases hj : j < ps.length
    · rw [List.getElem?_append_left hj] at hq
      rw [List.getElem?_append_left (h.len ▸ hj)] at hy
      rw [ho q.1 (layB_mem hq).1 (h.ne hq).2.1.symm]
      exact h.uses j q y hq hy
    · obtain rfl : j = ps.length := by
        have := (List.getElem?_eq_some_iff.1 hq).1
        simp at this; omega
      rw [List.getElem?_append_right (Nat.le_refl _), Nat.sub_self] at hq
      rw [h.len, List.getElem?_append_right (Nat.le_refl _), Nat.sub_self] at hy
      cases hq; cases hy
      exact h1
  · by_cases hj : j < ps.length
    · rw [List.getElem?_append_left hj] at hq
      rw [List.getElem?_append_left (h.len ▸ hj)] at hy
      rw [ho q.2 (layB_mem hq).2 (h.ne hq).2.2.symm]
      exact h.plc j q y hq hy
    · obtain rfl : j = ps.length := by
        have := (List.getElem?_eq_some_iff.1 hq).1
        simp at this; omega
      rw [List.getElem?_append_right (Nat.le_refl _), Nat.sub_self] at hq
      rw [h.len, List.getElem?_append_right (Nat.le_refl _), Nat.sub_self] at hy
      cases hq; cases hy
      exact h2
  · rw [hB]
    refine List.nodup_append.2 ⟨h.nd, by simpa using n3, fun a ha b hb e => ?_⟩
    simp at hb
    rcases hb with rfl | rfl
    · exact n1 (e ▸ ha)
    · exact n2 (e ▸ ha)
  · intro b hb
    rw [hB, List.mem_append] at hb
    rcases hb with hb | hb
    · exact h.ge b hb
    · simp at hb
      rcases hb with rfl | rfl <;> assumption
theorem mget_lay:∀{t:List Pl} {ps:List (Nat × Nat)} {n:Int} {x:Pl},ps.length=t.length→get t n=some x→∃(i:Nat) (p:Nat × Nat),ps[i]? =some p∧t[i]? =some x∧idx (fun x=>x.id==n) t=i∧mget (.int .i64 n) (stK t) (layP ps)=some (.ptr p.2 0 0 1)
 |[],_,n,x,_,h=>by cases h
 | y::t,[],n,x,hl,_=>by cases hl
 | y::t,q::ps,n,x,hl,h=>by
  unfold get at h
  rw[List.find?_cons]at h
  have hc:mget (.int .i64 n) (stK (y::t)) (layP (q::ps))=cond (n==y.id) (some (D.ptr q.2 0 0 1)) (mget (.int .i64 n) (stK t) (layP ps)):=rfl
  by_cases he:y.id=n
  ·subst he
   simp at h
   exact⟨0,q,rfl,by rw[h];rfl,by simp[idx,List.findIdx?_cons],by rw[hc];simp⟩
  ·rw[beq_eq_false_iff_ne.2 he]at h
   obtain⟨i,p,h1,h2,h4,h3⟩:=mget_lay (by simpa using hl) h
   refine⟨i+1,p,h1,h2,?_,by rw[hc,beq_eq_false_iff_ne.2 (Ne.symm he)];exact h3⟩
   unfold idx at h4 ⊢
   rw[List.findIdx?_cons,if_neg (by simpa using he)]
   cases hf:t.findIdx? (fun x=>x.id==n)with
   | none=>
    rw[hf]at h4
    simp at h4
   | some j=>rw[hf]at h4;simp at h4 ⊢;omega
theorem Lay.get(h:Lay H k m ps t){n:Int}{x:Pl}(hg:get t n=some x):∃(i:Nat) (p:Nat × Nat),ps[i]? =some p∧t[i]? =some x∧(∀f,modP t n f=t.set i (f x))∧mget (.int .i64 n) (stK t) (layP ps)=some (.ptr p.2 0 0 1):=by
 obtain⟨i,p,h1,h2,h4,h3⟩:=mget_lay h.len hg
 obtain⟨hi,he⟩:=List.getElem?_eq_some_iff.1 h2
 exact⟨i,p,h1,h2,fun f=>by rw[modP_idx h4 hi,he],h3⟩
theorem Lay.no(h:Lay H k m ps t){n:Int}(hg:Go.Proofs.YtpndfdfipkadkaaGreatDoor.get t n=none):mget (.int .i64 n) (stK t) (layP ps)=none∧kidx (.int .i64 n) (stK t)=none:=by
 have hk:∀{t:List Pl},Go.Proofs.YtpndfdfipkadkaaGreatDoor.get t n=none→kidx (.int .i64 n) (stK t)=none:=by
  intro t ht
  induction t with
  | nil=>rfl
  | cons y t ih=>
   have h1:=(get_none.1 ht) y (by simp)
   have h2:Go.Proofs.YtpndfdfipkadkaaGreatDoor.get t n=none:=get_none.2 fun x hx=>get_none.1 ht x (by simp[hx])
   show(cond (n==y.id) (some 0) ((kidx (.int .i64 n) (stK t)).map (· +1)))=none
   rw[beq_eq_false_iff_ne.2 (Ne.symm h1),ih h2];rfl
 rw[mget_eq,hk hg]
 exact⟨rfl,rfl⟩
end
end Go.Proofs.YtpndfdfipkadkaaGreatDoor
