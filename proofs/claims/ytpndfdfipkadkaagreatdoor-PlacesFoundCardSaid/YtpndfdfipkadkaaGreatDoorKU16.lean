/- The law holds: part 348. Conditions: none. -/
import Derived.Test.YtpndfdfipkadkaaGreatDoorKU15
set_option linter.all false
set_option maxRecDepth 100000
namespace Go.Proofs.YtpndfdfipkadkaaGreatDoor
open Go Go.Wx Go.Ax
theorem merge1_c(u:Use)(name:ByteArray):Pur Pg 212 [.agg u.enc,.fp [ds' name]] (db (strEq u.name name&&(u.til==100001&&((2:Int)==0||u.kind==2)))):=by
 refine fn Tryz.func212 [] [] (.cons (.agg (pdUse u)) (.cons (.fp (PdL.one (.v _))) .nil)) ?_
 refine if_ (fun h=>if_ (fun h2=>?_) fun h2=>?_) fun h=>?_
 ·exact frzb (by rw[h];simp_all)
 ·exact frzb (by rw[h];simp_all)
 ·exact frzb (by rw[h];rfl)
theorem ptrq{r:Option D}{d:D}{K:D→Prop}(h:r=some d)(k:K d):ptr? r K:=by subst h;exact k
theorem pend_1{T:List (List Nat)}{i j b:Nat}{ms:List Nat}{pd:List (Nat × Option Nat)}(hm:∀m∈ms,m≠b)(h:pd=[(j,some b)]:=by rfl):pendOk T i ms pd=true:=by
 subst h
 refine List.all_eq_true.2 fun q hq=>?_
 rw[List.mem_singleton]at hq
 subst hq
 have:(ms.all fun m=> !(Nat.beq m b))=true:=List.all_eq_true.2 fun m h=>by
  cases hb:Nat.beq m b with
  | false=>rfl
  | true=>exact absurd (Nat.eq_of_beq_eq_true hb) (hm m h)
 show((ms.all fun m=> !(Nat.beq m b))||later T i j)=true
 rw[this];rfl
noncomputable def c168:Code:=Tryz.f168.body.getD .skip
def pl168:Plan:=[(1,[.p 0,.p 1,.l 2,.l 3,.p 4,.p 5,.l 6,.l 7,.p 8,.p 9]),(2,[.p 0,.p 1,.p 2,.l 3,.p 4,.l 5,.p 8,.e 6,.p 7]),(7,[.p 0,.p 1,.p 2,.p 3,.l 4,.l 5,.p 6,.l 7,.e 8,.e 9,.e 10,.p 11,.p 12,.e 13]),(12,[.p 0,.p 1,.p 2,.l 3,.p 4,.p 5,.p 6,.p 7,.l 8,.p 9,.p 10,.p 11,.l 12,.p 13,.l 14,.p 15,.p 16,.p 17,.e 18]),(17,[.p 0,.p 1,.p 2,.l 3,.p 4,.p 5,.p 6,.p 7,.l 8,.p 9,.l 10,.p 11,.p 12]),(19,[.p 0,.p 1,.p 2,.p 3,.l 4,.p 5,.p 6,.e 7,.p 8,.p 9,.e 10,.p 11,.p 12,.e 13])]
structure MS(H0:Heap)(k m eb:Nat)(ps:List (Nat × Nat))(e:Ev)(t:List Pl)(H:Heap):Prop where
 lay:Lay H k m ps t
 ev:H[eb]? =some (.arr 23 5 [e.enc])
 ne:eb ∉ layB m ps
 old:∀b,b<k→H[b]? =H0[b]?
 len:H0.length≤H.length
 ke:k≤eb
section
variable {H0 H H' : Heap} {k m eb : Nat} {ps : List (Nat × Nat)} {e : Ev} {t t' : List Pl}
theorem MS.app(h:MS H0 k m eb ps e t H)(G:Heap):MS H0 k m eb ps e t (H++G):=
 ⟨h.lay.app G,(List.getElem?_append_left (lt_of_some h.ev)).trans h.ev,h.ne,fun b hb=>(List.getElem?_append_left (by have:=h.lay.lt m (by simp[layB]);have:=h.lay.ge m (by simp[layB]);omega)).trans (h.old b hb),by have:=h.len;simp;omega,h.ke⟩
theorem MS.upd (h : MS H0 k m eb ps e t H) {i : Nat} {p : Nat × Nat} {x x' : Pl} (hp : ps[i]? = some p) (hx : t[i]? = some x) (ht : t' = t.set i x') (hid : x'.id = x.id)
    {us : List (List D)} {pl : List D} (h1 : H'[p.1]? = some (.arr 142 4 us)) (hB : us = x'.uses.map Use.enc) (h2 : H'[p.2]? = some (.arr 121 4 [pl])) (hC : pl = plM p.1 x') (ho : ∀ b, b ≠ p.1 → b ≠ p.2 → b < H.length → H'[b]? = H[b]?) (hl : H.length ≤ H'.length) : MS H0 k m eb ps e t' H' := by
  subst ht
  have g1 := h.lay.ge _ (layB_mem hp).1
  have g2 := h.lay.ge _ (layB_mem hp).2
  have l1 := h.lay.lt _ (layB_mem hp).1
  exact ⟨h.lay.upd hp hx hid (by rw [h1, hB]) (by rw [h2, hC]) fun b hb a c => ho b a c (h.lay.lt b hb), (ho eb (fun e => h.ne (e ▸ (layB_mem hp).1)) (fun e => h.ne (e ▸ (layB_mem hp).2)) (lt_of_some h.ev)).trans h.ev, h.ne,
    fun b hb => (ho b (by omega) (by omega) (by omega)).trans (h.old b hb), by have := h.len; omega, h.ke⟩
end
abbrev R168(H0:Heap)(k m:Nat)(t':List Pl):OpK:=fun _ H' ms=>(∃ps',Lay H' k m ps' t')∧(∀b,b<k→H'[b]? =H0[b]?)∧H0.length≤H'.length∧ms=own k H0
abbrev K168(H0:Heap)(k m:Nat)(t':List Pl):APost:=fun ex s=>dret Pg Tryz.f168.results.toList (R168 H0 k m t') (own k H0) ex s.e s.H
theorem merge_c5 {H0 H : Heap} {k m eb i : Nat} {ps : List (Nat × Nat)} {e : Ev} {t t' : List Pl} {p : Nat × Nat} {x : Pl} (h : MS H0 k m eb ps e t H) (hp : ps[i]? = some p) (hx : t[i]? = some x) (ht : t' = t.set i { x with ex := false, parent := 0, into := e.other }) :
    ∀ e0, AW Pg 116 (Nat.ble k) H0.length (restC 5 c168) (K168 H0 k m t') ⟨dupds e0 [(0, .map m), (3, .ptr eb 0 0 1), (4, .ptr p.2 0 0 1)], H⟩ := by
  intro e0
  have hP := h.lay.plc i p x hp hx
  have hU := h.lay.uses i p x hp hx
  have hk2 := h.lay.ge _ (layB_mem hp).2
  have hl2 := h.lay.lt _ (layB_mem hp).2
  have hne := (h.lay.ne hp).1
  have hE := h.ev
  have hm : ∀ b ∈ [p.2], b ≠ eb := fun b hb => by rw [List.mem_singleton.1 hb]; exact fun he => h.ne (he ▸ (layB_mem hp).2)
  have hen : p.2 ≠ eb := fun he => h.ne (he ▸ (layB_mem hp).2)
  have s1 : ∀ {o : AO}, (H.set p.2 o)[p.2]? = some o := fun {o} => List.getElem?_set_self hl2
  have s2 : ∀ {o o' : AO}, ((H.set p.2 o).set p.2 o')[p.2]? = some o' := fun {o o'} => List.getElem?_set_self (by simpa using hl2)
  refine go [] pl168 ?_
  repeat ((conv => whnf); (first | refine datarr_at hE ?_ | refine datarr_at hP ?_))
  conv => whnf
  refine ck (and_t (all1 hk2) (pend_1 (j := 4) (b := eb) hm)) ?_
  repeat ((conv => whnf); (refine datarr_at s1 ?_))
  conv => whnf
  refine ck (and_t (all1 hk2) (pend_1 (j := 4) (b := eb) hm)) ?_
  repeat ((conv => whnf); (refine datarr_at s2 ?_))
  conv => whnf
  refine ck (and_t (all1 hk2) (pend_1 (j := 4) (b := eb) hm)) ?_
  conv => whnf
  have := h.upd (H' := ((H.set p.2 (.arr 121 4 [plM p.1 { x with ex := false }])).set p.2 (.arr 121 4 [plM p.1 { x with ex := false, parent := 0 }])).set p.2 (.arr 121 4 [plM p.1 { x with ex := false, parent := 0, into := e.other }])) hp hx ht rfl
    ((List.getElem?_set_ne hne.symm).trans ((List.getElem?_set_ne hne.symm).trans ((List.getElem?_set_ne hne.symm).trans hU))) rfl (List.getElem?_set_self (by simpa using hl2)) rfl
    (fun b h1 h2 _ => (List.getElem?_set_ne h2.symm).trans ((List.getElem?_set_ne h2.symm).trans (List.getElem?_set_ne h2.symm))) (by simp)
  exact ⟨⟨ps, this.lay⟩, this.old, this.len, rfl⟩
theorem it_at{H:Heap}{b n:Nat}{m:D}{l:List Nat}{Q:D→Nat→List Nat→Prop}(h:H[b]? =some (.iter m n l))(k:Q m n l):dite H (.it b) fun _ m n l=>Q m n l:=dite_at h k
theorem gl_at{j:Nat}{Q:Nat→Prop}:∀{o:Option Nat},o=some j→Q j→(match o with | some j=>Q j | none=>False):=fun h k=>by subst h;exact k
theorem ky_at{j:Value}{Q:Value→Prop}:∀{o:Option Value},o=some j→Q j→(match o with | some j=>Q j | none=>False):=fun h k=>by subst h;exact k
theorem MS.out{H0 H:Heap}{k m eb ib:Nat}{ps:List (Nat × Nat)}{e:Ev}{t:List Pl}(h:MS H0 k m eb ps e t H)(h1:ib ∉ layB m ps)(h2:ib≠eb)(h3:k≤ib)(o:AO):MS H0 k m eb ps e t (H.set ib o):=
 ⟨h.lay.ext fun b hb=>List.getElem?_set_ne (fun he=>h1 (by rw[he];exact hb)),(List.getElem?_set_ne h2).trans h.ev,h.ne,fun b hb=>(List.getElem?_set_ne (by omega)).trans (h.old b hb),by simpa using h.len,h.ke⟩
def seenT(e:Ev)(l:List Nat)(t:List Pl):List Pl:=t.mapIdx fun j x=>if j∈l then repP e x else x
theorem seen_nil(e:Ev)(t:List Pl):seenT e [] t=t:=by
 refine List.ext_getElem? fun j=>?_
 rw[seenT,List.getElem?_mapIdx]
 cases t[j]? <;>simp
theorem seen_all(e:Ev){l:List Nat}{t:List Pl}(h:∀j,j<t.length→j∈l):seenT e l t=t.map (repP e):=by
 refine List.ext_getElem? fun j=>?_
 rw[seenT,List.getElem?_mapIdx,List.getElem?_map]
 cases hj:t[j]? with
 | none=>rfl
 | some x=>simp[h j (List.getElem?_eq_some_iff.1 hj).1]
theorem seen_get(e:Ev){l:List Nat}{t:List Pl}{j:Nat}(h:j ∉ l):(seenT e l t)[j]? =t[j]? :=by
 rw[seenT,List.getElem?_mapIdx]
 cases t[j]? <;>simp[h]
theorem seen_set(e:Ev){l:List Nat}{t:List Pl}{j:Nat}{x:Pl}(hx:t[j]? =some x):(seenT e l t).set j (repP e x)=seenT e (l++[j]) t:=by
 refine List.ext_getElem? fun i=>?_
 rw[List.getElem?_set,seenT,seenT,List.getElem?_mapIdx,List.getElem?_mapIdx,List.length_mapIdx]
 by_cases hij:j=i
 ·subst hij
  rw[if_pos rfl,if_pos (List.getElem?_eq_some_iff.1 hx).1,hx]
  simp
 ·rw[if_neg hij]
  cases t[i]? with
  | none=>rfl
  | some y=>simp[show ¬(i=j) by omega]
structure Seen(n i:Nat)(l:List Nat):Prop where
 len:l.length=i
 nd:l.Nodup
 lt:∀j∈l,j<n
theorem Seen.step{n i j:Nat}{l:List Nat}(h:Seen n i l)(hj:j<n)(hn:j ∉ l):i<n∧Seen n (i+1) (l++[j]):=by
 have h2:Seen n (i+1) (l++[j]):=⟨by simp[h.len],List.nodup_append.2 ⟨h.nd,by simp,fun a ha b hb e=>hn (by rw[List.mem_singleton.1 hb]at e;exact e▸ha)⟩,fun a ha=>by
  rw[List.mem_append]at ha
  rcases ha with ha | ha
  ·exact h.lt a ha
  ·rw[List.mem_singleton.1 ha];exact hj⟩
 refine⟨?_,h2⟩
 have h3:((l++[j]).map (fun a:Nat=>(a:Int))).Nodup:=List.pairwise_map.2 (h2.nd.imp fun hab he=>hab (Int.ofNat.inj he))
 have:=nodup_len h3 (m:=(List.range n).map fun a:Nat=>(a:Int)) fun x hx=>by
  obtain⟨a,ha,rfl⟩:=List.mem_map.1 hx
  exact List.mem_map.2 ⟨a,List.mem_range.2 (h2.lt a ha),rfl⟩
 simp[h.len]at this
 omega
theorem merge_c4 {H0 H : Heap} {k m eb i : Nat} {ps : List (Nat × Nat)} {e : Ev} {t t' : List Pl} {p : Nat × Nat} {x : Pl} (h : MS H0 k m eb ps e t H) (hp : ps[i]? = some p) (hx : t[i]? = some x) (ht : t' = (t.map (repP e)).set i { repP e x with ex := false, parent := 0, into := e.other }) :
    ∀ e0, AW Pg 116 (Nat.ble k) H0.length (restC 4 c168) (K168 H0 k m t') ⟨dupds e0 [(0, .map m), (3, .ptr eb 0 0 1), (4, .ptr p.2 0 0 1)], H⟩ := by
  intro e0
  refine goC 1 [] pl168 ?_
  repeat ((conv => whnf); (first | refine map_at h.lay.map ?_))
  conv => whnf
  have hk : k ≤ H.length := by have := h.lay.lt m (by simp [layB]); have := h.lay.ge m (by simp [layB]); omega
  have hib : H.length ∉ layB m ps := fun hb => absurd (h.lay.lt _ hb) (by omega)
  have hie : H.length ≠ eb := fun hb => absurd (lt_of_some h.ev) (by omega)
  obtain ⟨ib, hibl⟩ : ∃ ib, ib = H.length := ⟨_, rfl⟩
  rw [← hibl] at hk hib hie
  have hsl : (stK t).length = t.length := by simp [stK]
  refine AW_idx t.length (fun i st => ∃ l H, Seen t.length i l ∧ MS H0 k m eb ps e (seenT e l t) H ∧ H[ib]? = some (AO.iter (.map m) t.length l) ∧ Has [(0, .map m), (3, .ptr eb 0 0 1), (4, .ptr p.2 0 0 1), (82, .it ib)] H st) ⟨[], H ++ [AO.iter (.map m) t.length []], ⟨rfl, .nil, fun _ hj => nomatch hj⟩, by rw [seen_nil]; exact h.app _, by rw [hibl]; exact List.getElem?_concat_length, has ⟨rfl, rfl, rfl, by rw [hibl]; rfl, trivial⟩ (by rw [← hsl]; rfl)⟩ ?_
  rintro c _ hc ⟨l, H, hs, hM, hI, e0, rfl⟩
  have hst : stK (seenT e l t) = stK t := by
    refine List.ext_getElem? fun j => ?_
    rw [stK, stK, seenT, List.getElem?_map, List.getElem?_map, List.getElem?_mapIdx]
    cases t[j]? with
    | none => rfl
    | some y => simp [repP]; split <;> (try split) <;> rfl
  refine go [] pl168 ?_
  conv => whnf
  refine it_at hI ?_
  conv => whnf
  refine map_at hM.lay.map ?_
  conv => whnf
  refine ck (by rw [hst, hsl]; exact Nat.beq_refl _) ?_
  refine ⟨fun j kk d hkj hdj hjl => ?_, fun hall => ?_⟩
  · have hj : j < t.length := by rw [← hsl, ← hst]; exact (List.getElem?_eq_some_iff.1 hkj).1
    obtain ⟨hct, hs2⟩ := hs.step hj hjl
    obtain ⟨q, hq⟩ : ∃ q, ps[j]? = some q := ⟨ps[j]'(by rw [h.lay.len]; exact hj), List.getElem?_eq_getElem _⟩
    obtain ⟨y, hy⟩ : ∃ y, t[j]? = some y := ⟨t[j], List.getElem?_eq_getElem _⟩
    have hd : d = .ptr q.2 0 0 1 := by
      rw [layP, List.getElem?_map, hq] at hdj
      exact (Option.some.inj hdj).symm
    subst hd
    have hyj : (seenT e l t)[j]? = some y := by rw [seen_get e hjl, hy]
    have hM2 : MS H0 k m eb ps e (seenT e l t) (H.set ib (AO.iter (.map m) t.length (l ++ [j]))) := hM.out hib hie hk _
    have hI2 : (H.set ib (AO.iter (.map m) t.length (l ++ [j])))[ib]? = some (AO.iter (.map m) t.length (l ++ [j])) := List.getElem?_set_self (lt_of_some hI)
    have hP := hM2.lay.plc j q y hq hyj
    have hU := hM2.lay.uses j q y hq hyj
    have hE := hM2.ev
    have hl2 := hM2.lay.lt _ (layB_mem hq).2
    have hne := (hM2.lay.ne hq).1
    generalize H.set ib (AO.iter (.map m) t.length (l ++ [j])) = H at hM2 hI2 hP hU hE hl2 ⊢
    refine ck (all1 hk) ?_
    conv => whnf
    refine it_at hI2 ?_
    conv => whnf
    refine map_at hM2.lay.map ?_
    conv => whnf
    refine ck (by rw [hst, hsl]; exact Nat.beq_refl _) ?_
    conv => whnf
    refine gl_at List.getLast?_concat ?_
    conv => whnf
    refine ky_at hkj ?_
    conv => whnf
    refine ptrq hdj ?_
    repeat ((conv => whnf); (first | refine datarr_at hP ?_ | refine datarr_at hE ?_))
    have same : repP e y = y → MS H0 k m eb ps e (seenT e (l ++ [j]) t) H := fun hr => by
      have h1 := seen_set e (l := l) hy
      obtain ⟨g1, g2⟩ := List.getElem?_eq_some_iff.1 hyj
      rw [hr, ← g2, List.set_getElem_self] at h1
      rw [← h1]
      exact hM2
    refine if_ (fun hx1 => ?_) fun hx1 => ?_
    · repeat ((conv => whnf); (first | refine datarr_at hP ?_ | refine datarr_at hE ?_))
      refine if_ (fun hx2 => ?_) fun hx2 => ?_
      · repeat ((conv => whnf); (first | refine datarr_at hP ?_ | refine datarr_at hE ?_))
        conv => whnf
        refine ck (all1 (hM2.lay.ge _ (layB_mem hq).2)) ?_
        have hr : repP e y = { y with parent := e.other } := by rw [repP, hx1]; simp at hx2; simp [hx2]
        refine ⟨hct, l ++ [j], _, hs2, ?_, ?_, has ⟨rfl, rfl, rfl, rfl, trivial⟩ rfl⟩
        · refine hM2.upd (x' := repP e y) hq hyj (seen_set e hy).symm (by rw [hr]) ((List.getElem?_set_ne hne.symm).trans hU) (by rw [hr]) (List.getElem?_set_self hl2) (by rw [hr]; rfl) (fun b h1 h2 _ => List.getElem?_set_ne h2.symm) (by simp)
        · exact (List.getElem?_set_ne (show q.2 ≠ ib from fun h => hib (h ▸ (layB_mem hq).2))).trans hI2
      · exact ⟨hct, l ++ [j], _, hs2, same (by rw [repP, hx1]; simp at hx2; simp [hx2]), hI2, has ⟨rfl, rfl, rfl, rfl, trivial⟩ rfl⟩
    · exact ⟨hct, l ++ [j], _, hs2, same (by rw [repP, hx1]; rfl), hI2, has ⟨rfl, rfl, rfl, rfl, trivial⟩ rfl⟩
  · rw [seen_all e hall] at hM
    refine AW_rest (c' := restC 5 c168) ?_
    refine AW_has (merge_c5 hM hp (x := repP e x) (by rw [List.getElem?_map, hx]; rfl) ht) ?_
    exact ⟨rfl, rfl, rfl, trivial⟩
def capC(day:Int)(c:Nat)(l:List Use):List Use:=(capT day l).take c++l.drop c
theorem capC_len(day:Int)(c:Nat)(l:List Use):(capC day c l).length=l.length:=by simp[capC,capT];omega
theorem capC_get{day:Int}{c:Nat}{l:List Use}(h:c<l.length):(capC day c l)[c]'(by rw[capC_len];exact h)=l[c]:=by
 have h2:((capT day l).take c).length=c:=by simp[capT];omega
 simp only[capC]
 rw[List.getElem_append_right (by omega)]
 simp[h2]
theorem capC_set{day:Int}{c:Nat}{l:List Use}(h:c<l.length):(capC day c l).set c {l[c]with til:=min l[c].til day}=capC day (c+1) l:=by
 refine List.ext_getElem? fun j=>?_
 have h2:((capT day l).take c).length=c:=by simp[capT];omega
 have h3:((capT day l).take (c+1)).length=c+1:=by simp[capT];omega
 rw[List.getElem?_set]
 by_cases hj:c=j
 ·subst hj
  rw[if_pos rfl,if_pos (by rw[capC_len];exact h),capC,List.getElem?_append_left (by omega),List.getElem?_take,if_pos (by omega),capT,List.getElem?_map,List.getElem?_eq_getElem h]
  rfl
 ·rw[if_neg hj,capC,capC]
  by_cases hl:j<c
  ·rw[List.getElem?_append_left (by omega),List.getElem?_append_left (by omega),List.getElem?_take,List.getElem?_take,if_pos hl,if_pos (by omega)]
  ·rw[List.getElem?_append_right (by omega),List.getElem?_append_right (by omega),h2,h3,List.getElem?_drop,List.getElem?_drop]
   congr 1
   omega
theorem merge_c3 {H0 H : Heap} {k m eb i : Nat} {ps : List (Nat × Nat)} {e : Ev} {t t' : List Pl} {p : Nat × Nat} {x : Pl} (h : MS H0 k m eb ps e t H) (hp : ps[i]? = some p) (hx : t[i]? = some x) (hxl : x.uses.length ≤ 500000)
    (ht : t' = ((t.set i { x with uses := capT e.day x.uses }).map (repP e)).set i { repP e { x with uses := capT e.day x.uses } with ex := false, parent := 0, into := e.other }) :
    ∀ e0, AW Pg 116 (Nat.ble k) H0.length (restC 3 c168) (K168 H0 k m t') ⟨dupds e0 [(0, .map m), (3, .ptr eb 0 0 1), (4, .ptr p.2 0 0 1)], H⟩ := by
  intro e0
  have hP := h.lay.plc i p x hp hx
  refine goC 1 [] pl168 ?_
  repeat ((conv => whnf); (first | refine datarr_at hP ?_))
  conv => whnf
  refine AW_idx x.uses.length (fun c st => ∃ H, MS H0 k m eb ps e (t.set i { x with uses := capC e.day c x.uses }) H ∧ Has [(0, .map m), (3, .ptr eb 0 0 1), (4, .ptr p.2 0 0 1), (58, di x.uses.length), (59, di c)] H st) ⟨H, ?_, has ⟨rfl, rfl, rfl, by simp; rfl, rfl, trivial⟩ rfl⟩ ?_
  · have h0 : ({ x with uses := capC e.day 0 x.uses } : Pl) = x := by simp [capC]
    obtain ⟨g1, g2⟩ := List.getElem?_eq_some_iff.1 hx
    rw [h0, ← g2, List.set_getElem_self]
    exact h
  rintro c _ hc ⟨H, hM, e0, rfl⟩
  have hx2 : (t.set i { x with uses := capC e.day c x.uses })[i]? = some { x with uses := capC e.day c x.uses } := List.getElem?_set_self (List.getElem?_eq_some_iff.1 hx).1
  have hP := hM.lay.plc i p _ hp hx2
  have hU := hM.lay.uses i p _ hp hx2
  have hE := hM.ev
  have hl1 := hM.lay.lt _ (layB_mem hp).1
  have hl2 := hM.lay.lt _ (layB_mem hp).2
  have hne := (hM.lay.ne hp).1
  refine go [] pl168 (if_ (fun hlt => ?_) (fun hlt => ?_))
  · simp at hlt
    have hlc : c < (capC e.day c x.uses).length := by rw [capC_len]; exact hlt
    repeat ((conv => whnf); (first | refine datarr_at hP ?_ | refine datarr_at hE ?_ | refine datarr_at hU ?_ | refine ixl_any (by simpa using hlc) hlc ?_ | refine nth_at hlc ?_ | refine ck (beq_len (by simp)) ?_ | refine ck (and_t (by simp) rfl) ?_))
    conv => whnf
    refine ck (and_t (all1 (hM.lay.ge _ (layB_mem hp).1)) pend_l) ?_
    have hg : (capC e.day c x.uses)[c] = x.uses[c] := capC_get hlt
    have hmin : (if e.day < x.uses[c].til then e.day else x.uses[c].til) = min x.uses[c].til e.day := by split <;> omega
    have hB : ((capC e.day c x.uses).map Use.enc).set (0 + (c : Int).toNat) (Use.enc { (capC e.day c x.uses)[c] with til := if e.day < (capC e.day c x.uses)[c].til then e.day else (capC e.day c x.uses)[c].til }) = (capC e.day (c + 1) x.uses).map Use.enc := by
      rw [hg, hmin, ← capC_set hlt, List.map_set, show (0 + (c : Int).toNat) = c by simp]
    refine ⟨hlt, _, ?_, has ⟨rfl, rfl, rfl, rfl, inc hlt (by simp only [maxLen]; omega), trivial⟩ rfl⟩
    exact hM.upd (x' := { x with uses := capC e.day (c + 1) x.uses }) hp hx2 (by rw [List.set_set]) rfl (List.getElem?_set_self hl1) hB ((List.getElem?_set_ne hne).trans hP) (by simp only [plM, capC_len]) (fun b h1 h2 _ => List.getElem?_set_ne h1.symm) (by simp)
  · simp at hlt
    obtain rfl : c = x.uses.length := by omega
    have hfull : capC e.day x.uses.length x.uses = capT e.day x.uses := by rw [capC, List.drop_length, List.append_nil, List.take_of_length_le (by simp [capT])]
    rw [hfull] at hM hx2
    refine AW_rest (c' := restC 4 c168) ?_
    refine AW_has (merge_c4 hM hp hx2 ht) ?_
    exact ⟨rfl, rfl, rfl, trivial⟩
def addA(day:Int)(out:List Use)(n:ByteArray):List Use:=if openB out n 2 then out else out++[newA n day]
theorem addA_len(day:Int):∀(l:List ByteArray) (u:List Use),(l.foldl (addA day) u).length≤u.length+l.length
 |[],u=>by simp
 | n::l,u=>by
  rw[List.foldl_cons]
  refine Nat.le_trans (addA_len day l _) ?_
  unfold addA
  split<;>simp<;>omega
theorem openB_new{l:List Use}{n n':ByteArray}(day:Int)(h:strEq n n'=false):openB (l++[newA n day]) n' 2=openB l n' 2:=by
 unfold openB
 rw[List.any_append]
 simp[newA,h]
theorem addA_eq(day:Int)(l:List Use):∀{ns:List ByteArray} {u:List Use},ns.Pairwise (fun a b=>strEq a b=false)→(∀n∈ns,openB u n 2=openB l n 2)→ns.foldl (fun out n=>if openB l n 2 then out else out++[newA n day]) u=ns.foldl (addA day) u
 |[],u,_,_=>rfl
 | n::ns,u,hp,hu=>by
  rw[List.pairwise_cons]at hp
  rw[List.foldl_cons,List.foldl_cons]
  have h1:=hu n (by simp)
  unfold addA
  rw[h1]
  by_cases ho:openB l n 2=true
  ·rw[if_pos ho]
   exact addA_eq day l hp.2 fun n' hn=>hu n' (by simp[hn])
  ·rw[if_neg ho]
   exact addA_eq day l hp.2 fun n' hn=>by rw[openB_new day (hp.1 n' hn)];exact hu n' (by simp[hn])
theorem merged_addA(l other:List Use)(day:Int):mergedL l other day=(usingL other day).foldl (addA day) l:=by
 refine addA_eq day l ?_ fun _ _=>rfl
 rw[using_uniq]
 refine(uniqS_rise _).imp fun{a b} h=>?_
 cases he:strEq a b with
 | false=>rfl
 | true=>exact absurd h (by rw[strEq_iff'.1 he];exact strLt_irr _)
theorem merge_c2 {H0 H : Heap} {k m eb i j : Nat} {ps : List (Nat × Nat)} {e : Ev} {t t' : List Pl} {p q : Nat × Nat} {x y : Pl} (h : MS H0 k m eb ps e t H) (hp : ps[i]? = some p) (hx : t[i]? = some x) (hq : ps[j]? = some q) (hy : t[j]? = some y) (hij : i ≠ j)
    (hxl : x.uses.length ≤ 300000) (hyl : y.uses.length ≤ 300000)
    (ht : t' = (((t.set j { y with uses := mergedL y.uses x.uses e.day }).set i { x with uses := capT e.day x.uses }).map (repP e)).set i { repP e { x with uses := capT e.day x.uses } with ex := false, parent := 0, into := e.other }) :
    ∀ e0, AW Pg 116 (Nat.ble k) H0.length (restC 2 c168) (K168 H0 k m t') ⟨dupds e0 [(0, .map m), (3, .ptr eb 0 0 1), (4, .ptr p.2 0 0 1), (5, .ptr q.2 0 0 1)], H⟩ := by
  intro e0
  have hP := h.lay.plc i p x hp hx
  have hU := h.lay.uses i p x hp hx
  have hE := h.ev
  have hin : Ex Pg 162 [.sl p.1 0 x.uses.length x.uses.length, di e.day] H (rows senc (usingL x.uses e.day)) := (inUse_c x.uses e.day (by omega)).use (.cons (frzK_rows hU rfl rfl pdUse (fun _ => rfl) (Nat.zero_le _)) (.cons (.pd (.v _)) .nil))
  have hns := using_len x.uses e.day
  have hmg : mergedL y.uses x.uses e.day = (usingL x.uses e.day).foldl (addA e.day) y.uses := merged_addA _ _ _
  generalize usingL x.uses e.day = ns at hin hns hmg
  refine goC 1 [] pl168 ?_
  repeat ((conv => whnf); (first | refine datarr_at hP ?_ | refine datarr_at hE ?_))
  refine hin.call ?_
  conv => whnf
  refine AW_idx ns.length (fun c st => ∃ H u, u = (ns.take c).foldl (addA e.day) y.uses ∧ MS H0 k m eb ps e (t.set j { y with uses := u }) H ∧ Has [(0, .map m), (3, .ptr eb 0 0 1), (4, .ptr p.2 0 0 1), (5, .ptr q.2 0 0 1), (26, rows senc ns), (27, di ns.length), (28, di c)] H st) ⟨H, y.uses, rfl, ?_, has ⟨rfl, rfl, rfl, rfl, rfl, by simp [rows, dlen]; rfl, rfl, trivial⟩ rfl⟩ ?_
  · obtain ⟨g1, g2⟩ := List.getElem?_eq_some_iff.1 hy
    rw [show ({ y with uses := y.uses } : Pl) = y from rfl, ← g2, List.set_getElem_self]
    exact h
  rintro c _ hc ⟨H, u, hu, hM, e0, rfl⟩
  have hul : u.length ≤ 300000 + c := by rw [hu]; have := addA_len e.day (ns.take c) y.uses; simp at this; omega
  refine go [] pl168 (if_ (fun hlt => ?_) (fun hlt => ?_))
  · simp at hlt
    refine row_at hlt ?_
    have hN : ∀ {o : AO}, (H ++ [o])[H.length]? = some o := List.getElem?_concat_length
    repeat ((conv => whnf); (first | refine datarr_at hN ?_))
    conv => whnf
    have hkl : k ≤ H.length := by have := hM.lay.lt m (by simp [layB]); have := hM.lay.ge m (by simp [layB]); omega
    have hnl : H.length ∉ layB m ps := fun hb => absurd (hM.lay.lt _ hb) (by omega)
    have hne : H.length ≠ eb := fun hb => absurd (lt_of_some hM.ev) (by omega)
    refine ck (all1 hkl) ?_
    have hM2 : ∀ {o o' : AO}, MS H0 k m eb ps e (t.set j { y with uses := u }) ((H ++ [o]).set H.length o') := fun {o o'} => (hM.app _).out hnl hne hkl _
    have hN2 : ∀ {o o' : AO}, ((H ++ [o]).set H.length o')[H.length]? = some o' := fun {o o'} => List.getElem?_set_self (by simp)
    have hy2 : (t.set j { y with uses := u })[j]? = some { y with uses := u } := List.getElem?_set_self (List.getElem?_eq_some_iff.1 hy).1
    have hP2 : ∀ {o o' : AO}, ((H ++ [o]).set H.length o')[q.2]? = some (.arr 121 4 [plM q.1 { y with uses := u }]) := fun {o o'} => hM2.lay.plc j q _ hq hy2
    have hU2 : ∀ {o o' : AO}, ((H ++ [o]).set H.length o')[q.1]? = some (.arr 142 4 (u.map Use.enc)) := fun {o o'} => hM2.lay.uses j q _ hq hy2
    have hE2 : ∀ {o o' : AO}, ((H ++ [o]).set H.length o')[eb]? = some (.arr 23 5 [e.enc]) := fun {o o'} => hM2.ev
    repeat ((conv => whnf); (first | refine datarr_at hP2 ?_))
    have hc : ∀ {o : AO}, Ex Pg 165 [.sl q.1 0 u.length u.length, .clo 212 [.ptr H.length 0 0 1]] ((H ++ [o]).set H.length (.arr 9 1 [[ds' ns[c]]])) (db (openB u ns[c] 2)) := fun {o} =>
      (containsFunc_c u 212 [.fp [ds' ns[c]]] _ (PdL.one (.fp (PdL.one (.v _)))) fun w _ => merge1_c w ns[c]).borrow (.v _)
        (.cons (frzK_rows hU2 rfl rfl pdUse (fun _ => rfl) (Nat.zero_le _)) (.cons (.clo rfl fun j d d' h1 h2 => by
          cases j with
          | zero => cases h1; cases h2; exact .fp hN2 rfl (FrzL.refl (PdL.one (.v _))).2
          | succ j => cases h1) .nil))
    refine hc.call ?_
    have hstep : (ns.take (c + 1)).foldl (addA e.day) y.uses = addA e.day u ns[c] := by rw [List.take_succ_eq_append_getElem hlt, List.foldl_append, ← hu]; rfl
    refine if_ (fun ho => ?_) fun ho => ?_
    · have ho2 : openB u ns[c] 2 = false := by simpa using ho
      repeat ((conv => whnf); (first | refine datarr_at hP2 ?_ | refine datarr_at hE2 ?_ | refine datarr_at hN2 ?_))
      refine (use_ex ns[c] 2 e.day _).call ?_
      repeat ((conv => whnf); (first | refine datarr_at hP2 ?_ | refine datarr_at hE2 ?_ | refine datarr_at hN2 ?_ | refine datarr_at hU2 ?_))
      refine push (by simp) (show u.length ≤ 900000 by omega) ?_
      conv => whnf
      have hk1 := hM.lay.ge _ (layB_mem hq).1
      have hk2 := hM.lay.ge _ (layB_mem hq).2
      have hl1 := hM.lay.lt _ (layB_mem hq).1
      have hl2 := hM.lay.lt _ (layB_mem hq).2
      have hqn := (hM.lay.ne hq).1
      refine ck (and_t (all1 hk1) pend_l) ?_
      have hP3 : ∀ {o o' o'' : AO}, (((H ++ [o]).set H.length o').set q.1 o'')[q.2]? = some (.arr 121 4 [plM q.1 { y with uses := u }]) := fun {o o' o''} => (List.getElem?_set_ne hqn).trans hP2
      repeat ((conv => whnf); (first | refine datarr_at hP3 ?_))
      conv => whnf
      refine ck (and_t (all1 hk2) pend_l) ?_
      refine ⟨hlt, _, addA e.day u ns[c], hstep.symm, ?_, has ⟨rfl, rfl, rfl, rfl, rfl, rfl, inc hlt (by simp only [maxLen]; omega), trivial⟩ rfl⟩
      have hnew : addA e.day u ns[c] = u ++ [newA ns[c] e.day] := by rw [addA, ho2]; rfl
      rw [hnew]
      exact hM2.upd (x' := { y with uses := u ++ [newA ns[c] e.day] }) hq hy2 (by rw [List.set_set]) rfl ((List.getElem?_set_ne hqn.symm).trans (List.getElem?_set_self (by simp; omega))) (by rw [List.map_append]; rfl) (List.getElem?_set_self (by simp; omega)) (plM_len q.1 { y with uses := u } (u ++ [newA ns[c] e.day]) (u.length + 1) (by simp))
        (fun b h1 h2 _ => (List.getElem?_set_ne h2.symm).trans (List.getElem?_set_ne h1.symm)) (by simp)
    · have ho2 : openB u ns[c] 2 = true := by simpa using ho
      refine ⟨hlt, _, u, by rw [hstep, addA, ho2]; rfl, hM2, has ⟨rfl, rfl, rfl, rfl, rfl, rfl, inc hlt (by simp only [maxLen]; omega), trivial⟩ rfl⟩
  · simp at hlt
    have hcn : c = ns.length := by omega
    rw [hcn, List.take_length, ← hmg] at hu
    subst hu
    refine AW_rest (c' := restC 3 c168) ?_
    have hx3 : (t.set j { y with uses := mergedL y.uses x.uses e.day })[i]? = some x := by rw [List.getElem?_set_ne (Ne.symm hij)]; exact hx
    refine AW_has (merge_c3 hM hp hx3 (by omega) ht) ?_
    exact ⟨rfl, rfl, rfl, trivial⟩
theorem idx_ids{s s':List Pl}(h:s'.map (·.id)=s.map (·.id))(p:Int):idx (fun x:Pl=>x.id==p) s'=idx (fun x:Pl=>x.id==p) s:=by
 have h1:∀l:List Pl,idx (fun x:Pl=>x.id==p) l=idx (fun a:Int=>a==p) (l.map (·.id)):=fun l=>by
  unfold idx
  rw[List.findIdx?_map]
  rfl
 rw[h1,h1,h]
theorem modP_same{s s':List Pl}{p:Int}{i:Nat}(h:idx (fun x:Pl=>x.id==p) s=i)(hid:s'.map (·.id)=s.map (·.id)){x':Pl}(hx:s'[i]? =some x')(f:Pl→Pl):modP s' p f=s'.set i (f x'):=by
 obtain⟨hi,he⟩:=List.getElem?_eq_some_iff.1 hx
 rw[modP_idx ((idx_ids hid p).trans h) hi,he]
theorem set_ids{s:List Pl}{i:Nat}{x x':Pl}(hx:s[i]? =some x)(h:x'.id=x.id):(s.set i x').map (·.id)=s.map (·.id):=by
 rw[List.map_set]
 refine List.ext_getElem? fun j=>?_
 rw[List.getElem?_set]
 by_cases hj:i=j
 ·subst hj
  rw[if_pos rfl,if_pos (by simpa using (List.getElem?_eq_some_iff.1 hx).1),List.getElem?_map,hx,h];rfl
 ·rw[if_neg hj]
theorem repP_id(e:Ev)(x:Pl):(repP e x).id=x.id:=by unfold repP;split<;>rfl
theorem merge_c(t:List Pl)(e:Ev){x y:Pl}(h4:e.kind=4)(hne:e.other≠e.place)(hx:get t e.place=some x)(hy:get t e.other=some y)(hu:∀x∈t,x.uses.length≤300000):ChP 168 t (appP t e) e:=by
 intro H k m ps hL hk
 obtain⟨i,p,hp,hxi,hi,hmx⟩:=mget_lay hL.len hx
 obtain⟨j,q,hq,hyj,hj,hmy⟩:=mget_lay hL.len hy
 have hij:i≠j:=fun h=>by
  subst h
  rw[hxi]at hyj;cases hyj
  exact hne ((get_mem hy).2.symm.trans (get_mem hx).2)
 have hlx:=hu x (List.mem_of_getElem? hxi)
 have hly:=hu y (List.mem_of_getElem? hyj)
 have ht:appP t e=(((t.set j {y with uses:=mergedL y.uses x.uses e.day}).set i {x with uses:=capT e.day x.uses}).map (repP e)).set i {repP e {x with uses:=capT e.day x.uses}with ex:=false,parent:=0,into:=e.other}:=by
  have e1:modP t e.other (mergeTo e ((get t e.place).elim [] (·.uses)))=t.set j {y with uses:=mergedL y.uses x.uses e.day}:=by
   rw[modP_same hj rfl hyj,hx];rfl
  have i1:(t.set j {y with uses:=mergedL y.uses x.uses e.day}).map (·.id)=t.map (·.id):=set_ids hyj rfl
  have x1:(t.set j {y with uses:=mergedL y.uses x.uses e.day})[i]? =some x:=by rw[List.getElem?_set_ne (Ne.symm hij)];exact hxi
  have e2:=modP_same hi i1 x1 fun x=>{x with uses:=capT e.day x.uses}
  have i2:=(set_ids x1 (x':={x with uses:=capT e.day x.uses}) rfl).trans i1
  have x2:((t.set j {y with uses:=mergedL y.uses x.uses e.day}).set i {x with uses:=capT e.day x.uses})[i]? =some {x with uses:=capT e.day x.uses}:=List.getElem?_set_self (List.getElem?_eq_some_iff.1 x1).1
  have i3:(((t.set j {y with uses:=mergedL y.uses x.uses e.day}).set i {x with uses:=capT e.day x.uses}).map (repP e)).map (·.id)=t.map (·.id):=by
   rw[←i2,List.map_map]
   exact List.map_congr_left fun z _=>repP_id e z
  have x3:(((t.set j {y with uses:=mergedL y.uses x.uses e.day}).set i {x with uses:=capT e.day x.uses}).map (repP e))[i]? =some (repP e {x with uses:=capT e.day x.uses}):=by rw[List.getElem?_map,x2];rfl
  have e3:=modP_same hi i3 x3 fun x=>{x with ex:=false,parent:=0,into:=e.other}
  have:appP t e=modP ((modP (modP t e.other (mergeTo e ((get t e.place).elim [] (·.uses)))) e.place fun x=>{x with uses:=capT e.day x.uses}).map (repP e)) e.place fun x=>{x with ex:=false,parent:=0,into:=e.other}:=by
   simp[appP,h4]
  rw[this,e1,e2,e3]
 refine AC_fn Tryz.func168 rfl rfl rfl (own k H) (Nat.ble k) (fun b h h2=>List.mem_range'_1.2 (by have:=Nat.le_of_ble_eq_true h2;omega)) (AW_rest (c':=restC 0 c168) ?_)
 refine goC 2 [] pl168 ?_
 have hL1:Lay (H++[.arr 23 5 [e.enc]]) k m ps t:=hL.app _
 have hE:(H++[AO.arr 23 5 [e.enc]])[H.length]? =some (.arr 23 5 [e.enc]):=by simp
 repeat ((conv=>whnf);(first | refine datarr_at hE ?_ | refine map_at hL1.map ?_))
 refine⟨keys_st _ _,mlk_some hmx ?_⟩
 repeat ((conv=>whnf);(first | refine datarr_at hE ?_ | refine map_at hL1.map ?_))
 refine⟨keys_st _ _,mlk_some hmy ?_⟩
 conv=>whnf
 have hM:MS H k m H.length ps e t (H++[AO.arr 23 5 [e.enc]]):=⟨hL1,hE,fun hb=>absurd (hL.lt _ hb) (by omega),fun b hb=>List.getElem?_append_left (by omega),by simp,hk⟩
 refine AW_rest (c':=restC 2 c168) ?_
 refine AW_has (merge_c2 hM hp hxi hq hyj hij hlx hly ht) ?_
 exact⟨rfl,rfl,rfl,rfl,trivial⟩
end Go.Proofs.YtpndfdfipkadkaaGreatDoor
