/- The law holds: part 354. Conditions: none. -/
import Derived.Test.YtpndfdfipkadkaaGreatDoorKU4
import Derived.Test.YtpndfdfipkadkaaGreatDoorKU21
set_option linter.all false
set_option maxRecDepth 100000
namespace Go.Proofs.YtpndfdfipkadkaaGreatDoor
open Go Go.Wx Go.Ax
noncomputable def c216:Code:=Tryz.f216.body.getD .skip
def pt216_1:Tre:=(.p 0 (.l 1 (.p 3 (.l 4 (.fork (.e 2 (.fork (.e 5 (.p 6 (.e 7 (.e 8 .done)))) (.e 7 (.e 5 (.p 6 (.e 8 .done)))))) (.fork (.e 5 (.fork (.e 2 (.p 6 (.e 7 (.e 8 .done)))) (.e 7 (.e 2 (.p 6 (.e 8 .done)))))) (.e 7 (.fork (.e 2 (.e 5 (.p 6 (.e 8 .done)))) (.e 5 (.e 2 (.p 6 (.e 8 .done))))))))))))
def pl216:Plan:=[(10,[.p 0,.l 1,.p 2,.l 3,.p 4,.l 5,.p 6,.l 7,.p 8,.l 9,.l 10,.e 11,.e 12,.p 13,.e 14])]
def stN(a:Auto):Nat:=a.states.toNat
def graphD(a:Auto):D:= .agg [.row false ((List.range (stN a)).map fun(s:Nat)=>[rows Arc.enc (outA a s)]),rows ienc ((List.range (stN a)).map fun(s:Nat)=>finA a s)]
theorem pd_0{T:List (List Nat)}{i:Nat}{ms:List Nat}:pendOk T i ms []=true:=rfl
theorem pd_l{T:List (List Nat)}{i j:Nat}{ob:Option Nat}{ms:List Nat}{pd:List (Nat × Option Nat)}(h:pendOk T i ms pd=true)(hl:later T i j=true:=by kernel_rfl):pendOk T i ms ((j,ob)::pd)=true:=by
 unfold pendOk at h ⊢
 rw[List.all_cons,h,hl,Bool.or_true,Bool.true_and]
theorem pd_b{T:List (List Nat)}{i j b:Nat}{ms:List Nat}{pd:List (Nat × Option Nat)}(hb:∀m∈ms,m≠b)(h:pendOk T i ms pd=true):pendOk T i ms ((j,some b)::pd)=true:=by
 unfold pendOk at h ⊢
 rw[List.all_cons,h,Bool.and_true]
 have:(ms.all fun m=> !(Nat.beq m b))=true:=List.all_eq_true.2 fun m hm=>by
  cases hb':Nat.beq m b with
  | false=>rfl
  | true=>exact absurd (Nat.eq_of_beq_eq_true hb') (hb m hm)
 simp only[this,Bool.true_or]
def outU(a:Auto)(i:Nat)(s:Int):List Arc:=(a.arcs.take i).filter (·.frm==s)
def colU(a:Auto)(i:Nat):List (List D):=(List.range (stN a)).map fun(s:Nat)=>[D.sl (5+s) 0 (outU a i s).length (outU a i s).length]
def finU(a:Auto)(i:Nat)(s:Int):Int:=(((a.ends.take i).find? (·.state==s)).map (·.cost)).getD (-1)
def finC(a:Auto)(i:Nat):List (List D):=(List.range (stN a)).map fun(s:Nat)=>[di (finU a i s)]
theorem ends_lt{a:Auto}(va:Valid a):∀{i j:Nat} {x y:End},i<j→a.ends[i]? =some x→a.ends[j]? =some y→x.state<y.state
 | i,0,_,_,h,_,_=>by omega
 | i,j+1,x,y,h,hx,hy=>by
  obtain⟨z,hz⟩:∃z,a.ends[j]? =some z:=⟨_,List.getElem?_eq_getElem (by have:=(List.getElem?_eq_some_iff.1 hy).1;omega)⟩
  have h1:=va.ord2 j z y hz hy
  rcases Nat.lt_or_eq_of_le (Nat.le_of_lt_succ h)with h2 | rfl
  ·have:=ends_lt va h2 hx hz;omega
  ·rw[hx]at hz;cases hz;exact h1
theorem finU_succ{a:Auto}(va:Valid a){i:Nat}{x:End}(hx:a.ends[i]? =some x)(s:Int):finU a (i+1) s=if x.state=s then x.cost else finU a i s:=by
 unfold finU
 rw[List.take_add_one,hx,Option.toList_some,List.find?_append]
 by_cases he:x.state=s
 ·rw[if_pos he]
  have hn:(a.ends.take i).find? (·.state==s)=none:=by
   rw[List.find?_eq_none]
   intro y hy
   obtain⟨j,hj,rfl⟩:=List.mem_take_iff_getElem.1 hy
   have:=ends_lt va (i:=j) (j:=i) (by omega) (List.getElem?_eq_getElem (by omega)) hx
   simp;omega
  rw[hn,Option.none_or]
  simp[he]
 ·rw[if_neg he]
  have:[x].find? (·.state==s)=none:=by simp[he]
  rw[this,Option.or_none]
theorem graph_c (a : Auto) (va : Valid a) : Pur Pg 216 [.agg a.enc] (graphD a) := by
  have hst1 := va.st1
  have hst2 := va.st2
  have hn : (stN a : Int) = a.states := Int.toNat_of_nonneg (by omega)
  refine Pur_of (PdL.one (.agg (pdAuto a))) (AC_fn Tryz.func216 rfl rfl rfl [] (fun _ => true) (fun b h => nomatch h) (AW_rest (c' := restC 0 c216) ?_))
  refine goC 1 [] [] ?_
  have tail : ∀ e0 (H : Heap) (ko kf kg : Nat), H.length = 5 → H[0]? = some (.arr 75 3 [a.enc]) → H[1]? = some (.arr 242 2 [[.v (.slice none 0 0), .v (.slice none 0 0)]]) → H[kg]? = some (.arr 242 2 [[.sl ko 0 (stN a) (stN a), .sl kf 0 (stN a) (stN a)]]) →
      H[ko]? = some (.arr 72 1 (List.replicate (stN a) [.v (.slice none 0 0)])) → H[kf]? = some (.arr 3 1 (List.replicate (stN a) [di 0])) → 1 < ko → 1 < kf → 1 < kg → ko ≠ kf → ko ≠ kg → kf ≠ kg →
      AW Pg Tryz.f216.ntmps (fun _ => true) 0 (restC 2 c216) (fun ex s => dret Pg Tryz.f216.results.toList (fun d H' _ => Frz H' d (graphD a)) [] ex s.e s.H) ⟨dupds e0 [(1, .ptr 0 0 0 1), (2, .ptr 1 0 0 1), (3, .ptr kg 0 0 1)], H⟩ := by
    intro e0 H ko kf kg hl h0 h1 hg ho hf k1 k2 k3 n1 n2 n3
    have hfl := lt_of_some hf
    have hkl := lt_of_some ho
    have hgl := lt_of_some hg
    refine goC 2 [] pl216 ?_
    repeat ((conv => whnf); (first | refine datarr_at hg ?_))
    let f1 : Nat → List (List D) := fun i => List.replicate i [di (-1)] ++ List.replicate (stN a - i) [di 0]
    have f1l : ∀ i, i ≤ stN a → (f1 i).length = stN a := fun i hi => by simp [f1]; omega
    have f1s : ∀ i, i < stN a → (f1 i).set i [di (-1)] = f1 (i + 1) := fun i hi => by
      show (List.replicate i [di (-1)] ++ List.replicate (stN a - i) [di 0]).set i [di (-1)] = _
      rw [List.set_append_right _ _ (by simp), List.length_replicate, Nat.sub_self, show stN a - i = (stN a - (i + 1)) + 1 by omega, List.replicate_succ, List.set_cons_zero]
      show _ = List.replicate (i + 1) [di (-1)] ++ List.replicate (stN a - (i + 1)) [di 0]
      rw [List.replicate_succ', List.append_assoc]; rfl
    refine AW_idx (stN a) (fun i st => Has [(1, .ptr 0 0 0 1), (2, .ptr 1 0 0 1), (3, .ptr kg 0 0 1), (18, di (stN a)), (19, di i)] (H.set kf (.arr 3 1 (f1 i))) st) (has ⟨rfl, rfl, rfl, rfl, rfl, trivial⟩ ?_) ?_
    · refine List.ext_getElem? fun i => ?_
      by_cases hi : kf = i
      · subst hi; rw [List.getElem?_set_self hfl]; exact hf
      · rw [List.getElem?_set_ne hi]
    rintro i _ hi ⟨e1, rfl⟩
    refine go [] pl216 (if_ (fun hlt => ?_) (fun hlt => ?_))
    · simp at hlt
      have hg' : (H.set kf (.arr 3 1 (f1 i)))[kg]? = some (.arr 242 2 [[.sl ko 0 (stN a) (stN a), .sl kf 0 (stN a) (stN a)]]) := (List.getElem?_set_ne n3).trans hg
      have hf' : (H.set kf (.arr 3 1 (f1 i)))[kf]? = some (.arr 3 1 (f1 i)) := List.getElem?_set_self hfl
      have f1a : (f1 i)[i]? = some [di 0] := by
        show (List.replicate i [di (-1)] ++ List.replicate (stN a - i) [di 0])[i]? = _
        rw [List.getElem?_append_right (by simp), List.length_replicate, Nat.sub_self, show stN a - i = (stN a - (i + 1)) + 1 by omega, List.replicate_succ]
        rfl
      repeat ((conv => whnf); (first | refine datarr_at hg' ?_ | refine datarr_at hf' ?_))
      refine ck (and_t (beq_len (f1l i hi)) rfl) ?_
      refine ixl_any (by rw [f1l i hi]; exact hlt) hlt ?_
      repeat ((conv => whnf); (first | refine datarr_at hf' ?_))
      refine ck (beq_len (f1l i hi)) ?_
      conv => whnf
      refine lst_at (ds := [di 0]) (by rw [Nat.zero_add]; exact f1a) ?_
      refine ⟨hlt, has ⟨rfl, rfl, rfl, rfl, inc hlt (by simp only [maxLen]; omega), trivial⟩ ?_⟩
      show (H.set kf (.arr 3 1 (f1 i))).set kf (.arr 3 1 ((f1 i).set (0 + i) [di (-1)])) = _
      rw [List.set_set, Nat.zero_add, f1s i hlt]
    · simp at hlt
      have hin : i = stN a := by omega
      subst hin
      have hf1 : f1 (stN a) = List.replicate (stN a) [di (-1)] := by
        show List.replicate (stN a) [di (-1)] ++ List.replicate (stN a - stN a) [di 0] = _
        rw [Nat.sub_self, List.replicate_zero, List.append_nil]
      rw [hf1]
      obtain ⟨H1, hH1⟩ : ∃ H1, H1 = H.set kf (.arr 3 1 (List.replicate (stN a) [di (-1)])) := ⟨_, rfl⟩
      rw [← hH1]
      have hl' : H1.length = 5 := by rw [hH1]; simpa using hl
      have h0' : H1[0]? = some (.arr 75 3 [a.enc]) := by rw [hH1]; exact (List.getElem?_set_ne (by omega)).trans h0
      have h1' : H1[1]? = some (.arr 242 2 [[.v (.slice none 0 0), .v (.slice none 0 0)]]) := by rw [hH1]; exact (List.getElem?_set_ne (by omega)).trans h1
      have hg' : H1[kg]? = some (.arr 242 2 [[.sl ko 0 (stN a) (stN a), .sl kf 0 (stN a) (stN a)]]) := by rw [hH1]; exact (List.getElem?_set_ne n3).trans hg
      have ho' : H1[ko]? = some (.arr 72 1 (List.replicate (stN a) [.v (.slice none 0 0)])) := by rw [hH1]; exact (List.getElem?_set_ne n1.symm).trans ho
      have hf' : H1[kf]? = some (.arr 3 1 (List.replicate (stN a) [di (-1)])) := by rw [hH1]; exact List.getElem?_set_self hfl
      clear hH1 h0 h1 hg ho hf hf1 f1s f1l
      repeat ((conv => whnf); (first | refine datarr_at h0' ?_))
      refine AW_gcells (k := ko) (T := 72) (T' := 205) (sz' := 4) (m := stN a) (e := _) (H := H1) ho' (.inl (Nat.zero_le _)) (Nat.zero_le _) ?_
      rw [hl']
      have hko : ko < H1.length := lt_of_some ho'
      refine AW_idx a.arcs.length (fun i st => ∃ H2, 5 + stN a ≤ H2.length ∧ H2[0]? = some (.arr 75 3 [a.enc]) ∧ H2[1]? = some (.arr 242 2 [[.v (.slice none 0 0), .v (.slice none 0 0)]]) ∧ H2[kg]? = some (.arr 242 2 [[.sl ko 0 (stN a) (stN a), .sl kf 0 (stN a) (stN a)]]) ∧ H2[kf]? = some (.arr 3 1 (List.replicate (stN a) [di (-1)])) ∧
        H2[ko]? = some (.arr 72 1 (colU a i)) ∧ (∀ s, s < stN a → H2[5 + s]? = some (.arr 205 4 ((outU a i s).map Arc.enc))) ∧ Has [(1, .ptr 0 0 0 1), (2, .ptr 1 0 0 1), (3, .ptr kg 0 0 1), (28, rows Arc.enc a.arcs), (29, di a.arcs.length), (30, di i)] H2 st) ?_ ?_
      · have hin : ∀ {q : Nat} {o : AO}, q < 5 → q ≠ ko → H1[q]? = some o → (H1.set ko (.arr 72 1 ((List.range (stN a)).map fun i => [D.sl (5 + i) 0 0 0])) ++ List.replicate (stN a) (.arr 205 4 []))[q]? = some o := fun {q o} hq hne h => by
          rw [List.getElem?_append_left (by simp; omega), List.getElem?_set_ne (Ne.symm hne)]; exact h
        refine ⟨_, by simp; omega, hin (by omega) (by omega) h0', hin (by omega) (by omega) h1', hin (by omega) n2.symm hg', hin (by omega) n1.symm hf', ?_, fun s hs => ?_, has ⟨rfl, rfl, rfl, rfl, by simp [rows, dlen]; rfl, rfl, trivial⟩ rfl⟩
        · rw [List.getElem?_append_left (by simp; omega), List.getElem?_set_self hko]
          simp [colU, outU]
        · rw [List.getElem?_append_right (by simp; omega)]
          simp [hl', hs, outU]
      rintro i _ hi ⟨H2, hl2, g0, g1, gg, gf, go_, gs, e2, rfl⟩
      refine go [] pl216 (if_ (fun hlt => ?_) (fun hlt => ?_))
      · simp at hlt
        refine row_at hlt ?_
        have hxo : a.arcs[i]? = some a.arcs[i] := List.getElem?_eq_getElem hlt
        have hxv := va.arc _ (List.getElem_mem hlt)
        generalize a.arcs[i] = x at hxo hxv
        obtain ⟨xf, xt, xl, xc⟩ := x
        obtain ⟨s, rfl⟩ := Int.eq_ofNat_of_zero_le hxv.1
        have hs : s < stN a := by simp at hxv; omega
        have hcl : (colU a i).length = stN a := by simp [colU]
        have hca : (colU a i)[s]? = some [D.sl (5 + s) 0 (outU a i s).length (outU a i s).length] := by simp [colU, hs]
        have hN : ∀ {o : AO}, (H2 ++ [o])[H2.length]? = some o := List.getElem?_concat_length
        have hN2 : ∀ {o o' : AO}, ((H2 ++ [o]).set H2.length o')[H2.length]? = some o' := fun {o o'} => List.getElem?_set_self (by simp)
        have old : ∀ {q : Nat} {o1 : AO}, H2[q]? = some o1 → ∀ {o o' : AO}, ((H2 ++ [o]).set H2.length o')[q]? = some o1 := fun {q o1} h {o o'} => by
          have hq := lt_of_some h
          rw [List.getElem?_set_ne (by omega), List.getElem?_append_left hq]; exact h
        repeat ((conv => whnf); (first | refine datarr_at hN2 ?_ | refine datarr_at hN ?_ | refine datarr_at (old gg) ?_ | refine datarr_at (old go_) ?_))
        refine ck (and_t (beq_len hcl) rfl) ?_
        refine lst_at (ds := [D.sl (5 + s) 0 (outU a i s).length (outU a i s).length]) (ixl_some.2 ⟨Int.natCast_nonneg s, by simpa using hs, by simpa using hca⟩) ?_
        repeat ((conv => whnf); (first | refine datarr_at hN2 ?_ | refine datarr_at hN ?_ | refine datarr_at (old gg) ?_ | refine datarr_at (old go_) ?_))
        refine ck (beq_len hcl) ?_
        refine lst_at (ds := [D.sl (5 + s) 0 (outU a i s).length (outU a i s).length]) (by simpa using hca) ?_
        repeat ((conv => whnf); (first | refine datarr_at hN2 ?_ | refine datarr_at hN ?_ | refine datarr_at (old gg) ?_ | refine datarr_at (old (gs s hs)) ?_))
        refine ck rfl ?_
        refine push (by simp) (by have := List.length_filter_le (fun y : Arc => y.frm == (s : Int)) (a.arcs.take i); simp at this; have h2 := va.al; show (outU a i s).length ≤ _; unfold outU; omega) ?_
        have hne : ∀ b, b < 5 ∨ b = H2.length → ∀ m ∈ [5 + s], m ≠ b := fun b hb m hm => by rw [List.mem_singleton.1 hm]; omega
        conv => whnf
        refine ck (and_t rfl (pd_l (pd_l (pd_l (pd_b (hne _ (.inr rfl)) (pd_b (hne kg (.inl (by omega))) pd_0)))))) ?_
        have old2 : ∀ {q : Nat} {o1 : AO}, H2[q]? = some o1 → q ≠ 5 + s → ∀ {o o' o2 : AO}, (((H2 ++ [o]).set H2.length o').set (5 + s) o2)[q]? = some o1 := fun {q o1} h hq {o o' o2} => by
          rw [List.getElem?_set_ne (Ne.symm hq)]; exact old h
        have hkos : ko ≠ 5 + s := by omega
        repeat ((conv => whnf); (first | refine datarr_at (old2 go_ hkos) ?_))
        refine ck (and_t (beq_len hcl) rfl) ?_
        refine lst_at (ds := [D.sl (5 + s) 0 (outU a i s).length (outU a i s).length]) (ixl_some.2 ⟨Int.natCast_nonneg s, by simpa using hs, by simpa using hca⟩) ?_
        repeat ((conv => whnf); (first | refine datarr_at (old2 go_ hkos) ?_))
        refine ck (beq_len hcl) ?_
        refine lst_at (ds := [D.sl (5 + s) 0 (outU a i s).length (outU a i s).length]) (by simpa using hca) ?_
        conv => whnf
        refine ck (and_t rfl (pd_l (pd_l pd_0))) ?_
        conv => whnf
        have hsu : ∀ s' : Nat, outU a (i + 1) s' = if s' = s then outU a i s ++ [⟨s, xt, xl, xc⟩] else outU a i s' := fun s' => by
          unfold outU
          rw [List.take_add_one, hxo, Option.toList_some, List.filter_append]
          by_cases he : s' = s
          · rw [if_pos he, he]; simp
          · rw [if_neg he]
            have : ((s : Int) == (s' : Int)) = false := by simp; omega
            simp [List.filter_cons, this]
        have hlen3 : ∀ {o o' o2 : AO}, List.length (((H2 ++ [o]).set H2.length o').set (5 + s) o2) = H2.length + 1 := by simp
        refine ⟨hlt, _, ?_, ?_, ?_, ?_, ?_, ?_, ?_, has ⟨rfl, rfl, rfl, rfl, rfl, inc hlt (by have := va.al; simp only [maxLen]; omega), trivial⟩ rfl⟩
        · rw [List.length_set, hlen3]; omega
        · exact (List.getElem?_set_ne (by omega)).trans (old2 g0 (by omega))
        · exact (List.getElem?_set_ne (by omega)).trans (old2 g1 (by omega))
        · exact (List.getElem?_set_ne n2).trans (old2 gg (by omega))
        · exact (List.getElem?_set_ne n1).trans (old2 gf (by omega))
        · refine (List.getElem?_set_self (by rw [hlen3]; omega)).trans (congrArg (fun x => some (AO.arr 72 1 x)) ?_)
          refine List.ext_getElem? fun j => ?_
          show ((colU a i).set (0 + (s : Int).toNat) (putL [D.sl (5 + s) 0 (outU a i s).length (outU a i s).length] 0 [D.sl (5 + s) 0 ((outU a i s).length + 1) ((outU a i s).length + 1)]))[j]? = _
          have hput : putL [D.sl (5 + s) 0 (outU a i s).length (outU a i s).length] 0 [D.sl (5 + s) 0 ((outU a i s).length + 1) ((outU a i s).length + 1)] = [D.sl (5 + s) 0 ((outU a i s).length + 1) ((outU a i s).length + 1)] := rfl
          rw [hput, show 0 + (s : Int).toNat = s by simp]
          by_cases hj : s = j
          · subst hj
            rw [List.getElem?_set_self (by rw [hcl]; exact hs)]
            simp [colU, hs, hsu]
          · rw [List.getElem?_set_ne hj]
            by_cases hjn : j < stN a
            · simp [colU, hjn, hsu, Ne.symm hj]
            · simp [colU, hjn]
        · intro s' hs'
          rw [List.getElem?_set_ne (by omega), hsu]
          by_cases hj : s' = s
          · subst hj
            rw [List.getElem?_set_self (by simp; omega), if_pos rfl, List.map_append]
            rfl
          · rw [if_neg hj]
            exact old2 (gs s' hs') (by omega)
      · simp at hlt
        have hil : i = a.arcs.length := by omega
        subst hil
        have hU : ∀ s : Int, outU a a.arcs.length s = outA a s := fun s => by unfold outU outA; rw [List.take_length]
        conv => whnf
        refine go [] pl216 ?_
        repeat ((conv => whnf); (first | refine datarr_at g0 ?_))
        have hel : (a.ends.map End.enc).length = a.ends.length := List.length_map _
        refine AW_idx a.ends.length (fun i st => ∃ H2, 5 + stN a ≤ H2.length ∧ H2[0]? = some (.arr 75 3 [a.enc]) ∧ H2[1]? = some (.arr 242 2 [[.v (.slice none 0 0), .v (.slice none 0 0)]]) ∧ H2[kg]? = some (.arr 242 2 [[.sl ko 0 (stN a) (stN a), .sl kf 0 (stN a) (stN a)]]) ∧ H2[kf]? = some (.arr 3 1 (finC a i)) ∧
          H2[ko]? = some (.arr 72 1 (colU a a.arcs.length)) ∧ (∀ s, s < stN a → H2[5 + s]? = some (.arr 205 4 ((outU a a.arcs.length s).map Arc.enc))) ∧ Has [(1, .ptr 0 0 0 1), (2, .ptr 1 0 0 1), (3, .ptr kg 0 0 1), (50, rows End.enc a.ends), (51, di a.ends.length), (52, di i)] H2 st) ?_ ?_
        · refine ⟨H2, hl2, g0, g1, gg, ?_, go_, gs, has ⟨rfl, rfl, rfl, rfl, congrArg (fun n : Nat => di n) hel, rfl, trivial⟩ rfl⟩
          rw [gf]
          refine congrArg (fun x => some (AO.arr 3 1 x)) ?_
          unfold finC
          rw [show (fun (s : Nat) => [di (finU a 0 s)]) = fun _ => [di (-1)] from funext fun s => by simp [finU], List.map_const']
          simp
        clear hl2 g0 g1 gg gf go_ gs hlt hi
        clear H2
        rintro i _ hi ⟨H2, hl2, g0, g1, gg, gf, go_, gs, e3, rfl⟩
        have hfl' : (finC a i).length = stN a := by simp [finC]
        refine go [] pl216 (if_ (fun hlt => ?_) (fun hlt => ?_))
        · simp at hlt
          refine row_at hlt ?_
          have hxo : a.ends[i]? = some a.ends[i] := List.getElem?_eq_getElem hlt
          have hxv := va.en _ (List.getElem_mem hlt)
          generalize a.ends[i] = x at hxo hxv
          obtain ⟨xs, xc⟩ := x
          obtain ⟨s, rfl⟩ := Int.eq_ofNat_of_zero_le hxv.1
          have hs : s < stN a := by simp at hxv; omega
          have hca : (finC a i)[s]? = some [di (finU a i s)] := by simp [finC, hs]
          have hN : ∀ {o : AO}, (H2 ++ [o])[H2.length]? = some o := List.getElem?_concat_length
          have hN2 : ∀ {o o' : AO}, ((H2 ++ [o]).set H2.length o')[H2.length]? = some o' := fun {o o'} => List.getElem?_set_self (by simp)
          have old : ∀ {q : Nat} {o1 : AO}, H2[q]? = some o1 → ∀ {o o' : AO}, ((H2 ++ [o]).set H2.length o')[q]? = some o1 := fun {q o1} h {o o'} => by
            have hq := lt_of_some h
            rw [List.getElem?_set_ne (by omega), List.getElem?_append_left hq]; exact h
          repeat ((conv => whnf); (first | refine datarr_at hN2 ?_ | refine datarr_at hN ?_ | refine datarr_at (old gg) ?_ | refine datarr_at (old gf) ?_))
          refine ck (and_t (beq_len hfl') rfl) ?_
          refine lst_at (ds := [di (finU a i s)]) (ixl_some.2 ⟨Int.natCast_nonneg s, by simpa using hs, by simpa using hca⟩) ?_
          repeat ((conv => whnf); (first | refine datarr_at (old gf) ?_))
          refine ck (beq_len hfl') ?_
          refine lst_at (ds := [di (finU a i s)]) (by simpa using hca) ?_
          conv => whnf
          refine ⟨hlt, _, ?_, ?_, ?_, ?_, ?_, ?_, ?_, has ⟨rfl, rfl, rfl, rfl, rfl, inc hlt (by have := va.el; simp only [maxLen]; omega), trivial⟩ rfl⟩
          · simp; omega
          · exact (List.getElem?_set_ne (by omega)).trans (old g0)
          · exact (List.getElem?_set_ne (by omega)).trans (old g1)
          · exact (List.getElem?_set_ne n3).trans (old gg)
          · refine (List.getElem?_set_self (by simp; omega)).trans (congrArg (fun x => some (AO.arr 3 1 x)) ?_)
            refine List.ext_getElem? fun j => ?_
            show ((finC a i).set (0 + (s : Int).toNat) [di xc])[j]? = _
            rw [show 0 + (s : Int).toNat = s by simp]
            by_cases hj : s = j
            · subst hj
              rw [List.getElem?_set_self (by rw [hfl']; exact hs)]
              simp [finC, hs, finU_succ va hxo]
            · rw [List.getElem?_set_ne hj]
              by_cases hjn : j < stN a
              · have : ¬ (s : Int) = (j : Int) := by omega
                simp [finC, hjn, finU_succ va hxo, this]
              · simp [finC, hjn]
          · exact (List.getElem?_set_ne n1.symm).trans (old go_)
          · intro s' hs'
            exact (List.getElem?_set_ne (by omega)).trans (old (gs s' hs'))
        · simp at hlt
          have hil : i = a.ends.length := by omega
          subst hil
          have gset : ∀ {o : AO}, (H2.set 1 o)[1]? = some o := fun {o} => List.getElem?_set_self (lt_of_some g1)
          have old : ∀ {q : Nat} {o o1 : AO}, q ≠ 1 → H2[q]? = some o1 → (H2.set 1 o)[q]? = some o1 := fun {q o o1} hq h => (List.getElem?_set_ne (Ne.symm hq)).trans h
          repeat ((conv => whnf); (first | refine datarr_at gg ?_ | refine datarr_at g1 ?_ | refine datarr_at gset ?_))
          have hfin : finC a a.ends.length = ((List.range (stN a)).map fun (s : Nat) => finA a s).map ienc := by
            unfold finC
            rw [List.map_map]
            refine List.map_congr_left fun s _ => ?_
            show [di (finU a a.ends.length s)] = [di (finA a s)]
            unfold finU finA
            rw [List.take_length]
          rw [hfin] at gf
          refine .agg rfl fun j d d' q1 q2 => ?_
          match j, q1, q2 with
          | 0, q1, q2 =>
            cases q1; cases q2
            refine .sl (T := 72) (sz := 1) (xs := colU a a.arcs.length) (old (by omega) go_) (by simp [colU]) (by simp [colU]) (by simp) (fun l hl => ?_) (fun j _ => D.sl (5 + j) 0 (outU a a.arcs.length (j : Int)).length (outU a a.arcs.length (j : Int)).length) (fun j k d' h => ?_) (fun j k d' h => ?_) (Nat.zero_le _)
            · obtain ⟨s, _, rfl⟩ := List.mem_map.1 hl; rfl
            · obtain ⟨l, hl1, hl2⟩ := at2_some.1 h
              rw [List.getElem?_map, Option.map_eq_some_iff] at hl1
              obtain ⟨s, hs1, rfl⟩ := hl1
              have hj := List.getElem?_eq_some_iff.1 hs1
              obtain ⟨hj1, hj2⟩ := hj
              simp at hj1 hj2
              subst hj2
              cases k with
              | succ k => simp at hl2
              | zero => exact at2_some.2 ⟨[D.sl (5 + j) 0 (outU a a.arcs.length (j : Int)).length (outU a a.arcs.length (j : Int)).length], by rw [Nat.zero_add]; simp [colU, hj1], rfl⟩
            · obtain ⟨l, hl1, hl2⟩ := at2_some.1 h
              rw [List.getElem?_map, Option.map_eq_some_iff] at hl1
              obtain ⟨s, hs1, rfl⟩ := hl1
              have hj := List.getElem?_eq_some_iff.1 hs1
              obtain ⟨hj1, hj2⟩ := hj
              simp at hj1 hj2
              subst hj2
              cases k with
              | succ k => simp at hl2
              | zero =>
                cases hl2
                rw [hU]
                refine frzK_rows (T := 205) (sz := 4) (old (by omega) ?_) rfl rfl pdArc (fun _ => rfl) (Nat.zero_le _)
                have := gs j hj1
                rw [hU] at this
                exact this
          | 1, q1, q2 =>
            cases q1; cases q2
            exact frzK_rows (T := 3) (sz := 1) (xs := (List.range (stN a)).map fun (s : Nat) => finA a s) (old (by omega) gf) (by simp) (by simp) pdI (fun _ => rfl) (Nat.zero_le _)
          | n + 2, q1, _ => cases q1
  refine goC 1 [] [] ?_
  refine AW_fork [] pt216_1 ?_
  have c1 : (nonneg a.states && nonneg a.states) = true := and_t (nonneg_iff.2 (by omega)) (nonneg_iff.2 (by omega))
  have mk : ∀ b, b ≤ 24 → (Nat.ble a.states.toNat a.states.toNat && (Nat.ble (b * a.states.toNat) 281474976710656 && Nat.ble a.states.toNat maxLen)) = true := fun b hb => by
    have h1 : b * a.states.toNat ≤ 24 * 400 := Nat.mul_le_mul hb (by omega)
    refine and_t (Nat.ble_eq_true_of_le (Nat.le_refl _)) (and_t (Nat.ble_eq_true_of_le (by omega)) (Nat.ble_eq_true_of_le (by simp only [maxLen]; omega)))
  refine And.intro ?_ (And.intro ?_ ?_)
  · conv => whnf
    refine ck c1 ?_
    conv => whnf
    refine ck (mk 24 (by decide)) ?_
    conv => whnf
    refine And.intro ?_ ?_
    · conv => whnf
      refine ck c1 ?_
      conv => whnf
      refine ck (mk 8 (by decide)) ?_
      conv => whnf
      exact AW_rest (c' := restC 2 c216) (AW_has (l := [(1, .ptr 0 0 0 1), (2, .ptr 1 0 0 1), (3, .ptr 4 0 0 1)]) (fun e0 => tail e0 _ 2 3 4 rfl rfl rfl rfl rfl rfl (by decide) (by decide) (by decide) (by decide) (by decide) (by decide)) ⟨rfl, rfl, rfl, trivial⟩)
    · conv => whnf
      refine ck c1 ?_
      conv => whnf
      refine ck (mk 8 (by decide)) ?_
      conv => whnf
      exact AW_rest (c' := restC 2 c216) (AW_has (l := [(1, .ptr 0 0 0 1), (2, .ptr 1 0 0 1), (3, .ptr 3 0 0 1)]) (fun e0 => tail e0 _ 2 4 3 rfl rfl rfl rfl rfl rfl (by decide) (by decide) (by decide) (by decide) (by decide) (by decide)) ⟨rfl, rfl, rfl, trivial⟩)
  · conv => whnf
    refine ck c1 ?_
    conv => whnf
    refine ck (mk 8 (by decide)) ?_
    conv => whnf
    refine And.intro ?_ ?_
    · conv => whnf
      refine ck c1 ?_
      conv => whnf
      refine ck (mk 24 (by decide)) ?_
      conv => whnf
      exact AW_rest (c' := restC 2 c216) (AW_has (l := [(1, .ptr 0 0 0 1), (2, .ptr 1 0 0 1), (3, .ptr 4 0 0 1)]) (fun e0 => tail e0 _ 3 2 4 rfl rfl rfl rfl rfl rfl (by decide) (by decide) (by decide) (by decide) (by decide) (by decide)) ⟨rfl, rfl, rfl, trivial⟩)
    · conv => whnf
      refine ck c1 ?_
      conv => whnf
      refine ck (mk 24 (by decide)) ?_
      conv => whnf
      exact AW_rest (c' := restC 2 c216) (AW_has (l := [(1, .ptr 0 0 0 1), (2, .ptr 1 0 0 1), (3, .ptr 3 0 0 1)]) (fun e0 => tail e0 _ 4 2 3 rfl rfl rfl rfl rfl rfl (by decide) (by decide) (by decide) (by decide) (by decide) (by decide)) ⟨rfl, rfl, rfl, trivial⟩)
  · conv => whnf
    refine And.intro ?_ ?_
    · conv => whnf
      refine ck c1 ?_
      conv => whnf
      refine ck (mk 24 (by decide)) ?_
      conv => whnf
      conv => whnf
      refine ck c1 ?_
      conv => whnf
      refine ck (mk 8 (by decide)) ?_
      conv => whnf
      exact AW_rest (c' := restC 2 c216) (AW_has (l := [(1, .ptr 0 0 0 1), (2, .ptr 1 0 0 1), (3, .ptr 2 0 0 1)]) (fun e0 => tail e0 _ 3 4 2 rfl rfl rfl rfl rfl rfl (by decide) (by decide) (by decide) (by decide) (by decide) (by decide)) ⟨rfl, rfl, rfl, trivial⟩)
    · conv => whnf
      refine ck c1 ?_
      conv => whnf
      refine ck (mk 8 (by decide)) ?_
      conv => whnf
      conv => whnf
      refine ck c1 ?_
      conv => whnf
      refine ck (mk 24 (by decide)) ?_
      conv => whnf
      exact AW_rest (c' := restC 2 c216) (AW_has (l := [(1, .ptr 0 0 0 1), (2, .ptr 1 0 0 1), (3, .ptr 2 0 0 1)]) (fun e0 => tail e0 _ 4 3 2 rfl rfl rfl rfl rfl rfl (by decide) (by decide) (by decide) (by decide) (by decide) (by decide)) ⟨rfl, rfl, rfl, trivial⟩)
end Go.Proofs.YtpndfdfipkadkaaGreatDoor
