/- The law holds: part 377. Conditions: none. -/
import Derived.Test.YtpndfdfipkadkaaGreatDoorKU44
set_option linter.all false
set_option maxRecDepth 100000
namespace Go.Proofs.YtpndfdfipkadkaaGreatDoor
open Go Go.Wx Go.Ax
variable {raw : ByteArray → Auto} {a : Auto} {st : List Pl} {d : Int}
def hitB(raw:ByteArray→Auto)(a:Auto)(st:List Pl)(d most:Int)(q:Int):Bool:=match fitL raw a (namesL st q d)with
 | none=>false
 | some c=>decide (c≤most)
theorem list_snoc{α:Type}{p:List α→Prop}(h0:p [])(h1:∀l x,p l→p (l++[x]))(l:List α):p l:=by
 obtain⟨k,hk⟩:∃k,k=l.reverse:=⟨_,rfl⟩
 have hl:l=k.reverse:=by rw[hk,List.reverse_reverse]
 clear hk
 subst hl
 induction k with
 | nil=>exact h0
 | cons x k ih=>rw[List.reverse_cons];exact h1 _ _ ih
theorem mem_mch{ps:List Int}{m:Mh}:m∈mchL raw a st d ps↔m.place∈ps∧fitL raw a (namesL st m.place d)=some m.cost:=by
 induction ps using list_snoc with
 | h0=>simp[mchL]
 | h1 ps q ih=>
  rw[mchL_snoc]
  unfold mStep
  cases hF:fitL raw a (namesL st q d)with
  | none=>
   simp only
   rw[ih,List.mem_append,List.mem_singleton]
   constructor
   ·rintro⟨h1,h2⟩;exact⟨.inl h1,h2⟩
   ·rintro⟨h1 | h1,h2⟩
    ·exact⟨h1,h2⟩
    ·rw[h1,hF]at h2;cases h2
  | some c=>
   simp only
   rw[List.mem_append,List.mem_singleton,ih,List.mem_append,List.mem_singleton]
   constructor
   ·rintro(⟨h1,h2⟩ | rfl)
    ·exact⟨.inl h1,h2⟩
    ·exact⟨.inr rfl,hF⟩
   ·rintro⟨h1 | h1,h2⟩
    ·exact .inl ⟨h1,h2⟩
    ·rw[h1,hF]at h2
     cases m
     simp only at h1 h2
     rw[h1,Option.some.inj h2]
     exact .inr rfl
theorem mch_hits(most:Int)(ps:List Int):((mchL raw a st d ps).filter (fF most)).map (·.place)=ps.filter (hitB raw a st d most):=by
 induction ps using list_snoc with
 | h0=>simp[mchL]
 | h1 ps q ih=>
  rw[mchL_snoc,List.filter_append,←ih]
  unfold mStep
  cases hF:fitL raw a (namesL st q d)with
  | none=>
   have hh:hitB raw a st d most q=false:=by unfold hitB;rw[hF]
   simp[hh]
  | some c=>
   have hh:hitB raw a st d most q=decide (c≤most):=by unfold hitB;rw[hF]
   rw[List.filter_append,List.map_append]
   congr 1
   by_cases hc:c≤most
   ·rw[List.filter_cons,if_pos (by unfold fF;simp;omega),List.filter_cons,if_pos (by rw[hh];simpa using hc)];rfl
   ·rw[List.filter_cons,if_neg (by unfold fF;simp;omega),List.filter_cons,if_neg (by rw[hh];simpa using hc)];rfl
theorem mch_sub(p:Int→Bool)(ps:List Int):mchL raw a st d (ps.filter p)=(mchL raw a st d ps).filter fun m=>p m.place:=by
 induction ps using list_snoc with
 | h0=>simp[mchL]
 | h1 ps q ih=>
  rw[mchL_snoc,List.filter_append]
  by_cases hq:p q=true
  ·rw[List.filter_cons,if_pos hq,List.filter_nil,mchL_snoc,ih]
   unfold mStep
   split
   ·rfl
   ·rw[List.filter_append,List.filter_cons,if_pos hq,List.filter_nil]
  ·rw[List.filter_cons,if_neg hq,List.filter_nil,List.append_nil,ih]
   unfold mStep
   split
   ·rfl
   ·rw[List.filter_append,List.filter_cons,if_neg hq,List.filter_nil,List.append_nil]
def fnd(raw:ByteArray→Auto)(a:Auto)(st:List Pl)(d most:Int)(ps:List Int):List Mh:=(isort mLt (mchL raw a st d ps)).filter (fF most)
theorem mem_fnd{most:Int}{ps:List Int}{m:Mh}(h:m∈fnd raw a st d most ps):m.place∈ps∧fitL raw a (namesL st m.place d)=some m.cost∧m.cost≤most:=by
 obtain⟨h1,h2⟩:=List.mem_filter.1 h
 obtain⟨h3,h4⟩:=mem_mch.1 ((isort_perm _).mem_iff.1 h1)
 refine⟨h3,h4,?_⟩
 unfold fF at h2
 simp at h2
 omega
theorem fnd_len(most:Int)(ps:List Int):(fnd raw a st d most ps).length=(ps.filter (hitB raw a st d most)).length:=by
 rw[←mch_hits,List.length_map]
 exact((isort_perm _).filter _).length_eq
theorem fnd_places{most:Int}{ps:List Int}(hn:ps.Nodup):((fnd raw a st d most ps).map (·.place)).Nodup:=by
 have h1:((fnd raw a st d most ps).map (·.place)).Perm (ps.filter (hitB raw a st d most)):=by
  rw[←mch_hits]
  exact((isort_perm _).filter _).map _
 exact h1.nodup_iff.2 (hn.filter _)
theorem fnd_rise{most:Int}{ps:List Int}(hn:ps.Nodup){i:Nat}(h1:i<(fnd raw a st d most ps).length)(h2:i+1<(fnd raw a st d most ps).length):(fnd raw a st d most ps)[i].cost<(fnd raw a st d most ps)[i+1].cost∨(fnd raw a st d most ps)[i].cost=(fnd raw a st d most ps)[i+1].cost∧(fnd raw a st d most ps)[i].place<(fnd raw a st d most ps)[i+1].place:=by
 have ha:Asc mLt (fnd raw a st d most ps):=(isort_asc swoM _).filter _
 have hp:=List.pairwise_iff_getElem.1 ha i (i+1) h1 h2 (by omega)
 have hne:=List.pairwise_iff_getElem.1 (fnd_places (raw:=raw) (a:=a) (st:=st) (d:=d) (most:=most) hn) i (i+1) (by simpa using h1) (by simpa using h2) (by omega)
 simp only[List.getElem_map]at hne
 have n1:¬mLt (fnd raw a st d most ps)[i+1] (fnd raw a st d most ps)[i]=true:=by rw[hp];simp
 rw[mLt_iff]at n1
 omega
theorem fnd_sub(most:Int)(p:Int→Bool)(ps:List Int):fnd raw a st d most (ps.filter p)=(fnd raw a st d most ps).filter fun m=>p m.place:=by
 unfold fnd
 rw[mch_sub,←isort_filter,List.filter_filter,List.filter_filter]
 congr 1
 funext m
 exact Bool.and_comm _ _
end Go.Proofs.YtpndfdfipkadkaaGreatDoor
set_option maxRecDepth 100000
namespace Go.Proofs.YtpndfdfipkadkaaGreatDoor
open Go Go.Wx Go.Ax
def pl15:Plan:=[(12,[.p 0,.p 1,.p 2,.p 3,.p 4,.p 5,.p 6,.p 7,.p 8,.l 9,.p 10,.p 11,.p 12,.p 13,.p 14,.p 15,.p 16,.p 17,.p 18,.p 19,.p 20,.p 21,.p 22,.p 23,.p 24,.p 25,.l 26,.p 27,.l 28,.p 29,.p 30,.p 31,.p 32,.p 33,.p 34,.p 35,.l 36,.p 37,.l 38,.p 39,.p 40,.p 41,.p 42,.p 43,.p 44,.p 45,.l 46,.p 47,.l 48,.p 49,.p 50,.p 51,.p 52,.p 53])]
noncomputable def c15:Code:=Tryz.f15.body.getD .skip
theorem fits_hit{l:List Ev}{a:Auto}{s:List Spell}{d q c:Int}(h0:readyL a s=0)(hm:manyL (namesL (onL l d) q d) s=0)(hf:fitL (rawA · s) a (namesL (onL l d) q d)=some c):fitsT (rawA · s) a s (namesL (onL l d) q d)=(c,true,0):=by
 rw[←ready_fits h0]
 unfold fitsN
 rw[if_neg (by rw[hm];simp),hf]
 rfl
theorem found1_c (l : List Ev) (ha : Acc l) (d r : Int) (a : Auto) (s : List Spell) (hok : ∀ x ∈ s, x.ok) (most : Int) (h0 : readyL a s = 0) (hM : anyMany (onL l d) d s (allL (onL l d)) = false) (hnd : (allL (onL l d)).Nodup) (xs ys : List Mh) (h : Int) (hxs : xs = fnd (rawA · s) a (onL l d) d most (allL (onL l d))) (hxl : xs.length ≤ 100000)
    (K : APost) (e0 : Nat → D)
    (hK : ∀ e1 G, AW Pg Tryz.f15.ntmps (fun _ => true) 0 (restC 7 c15) K ⟨dupds e1 [(1, di d), (2, di r), (4, rows Spell.enc s), (5, di most), (9, .fp a.enc), (13, refG l), (16, rows Mh.enc xs), (18, rows Mh.enc ys), (19, di h)], G⟩) :
    AW Pg Tryz.f15.ntmps (fun _ => true) 0 (restC 6 c15) K ⟨dupds e0 [(1, di d), (2, di r), (4, rows Spell.enc s), (5, di most), (9, .fp a.enc), (13, refG l), (16, rows Mh.enc xs), (18, rows Mh.enc ys), (19, di h)], []⟩ := by
  refine AW_seq (AW_seq ?_)
  refine goC 1 [] [] ?_
  conv => whnf
  refine AW_block ?_
  refine AW_idx xs.length (fun i st => HasG [(1, di d), (2, di r), (4, rows Spell.enc s), (5, di most), (9, .fp a.enc), (13, refG l), (16, rows Mh.enc xs), (18, rows Mh.enc ys), (19, di h), (101, rows Mh.enc xs), (102, di xs.length), (103, di i)] [] st) (hasG (G := []) (by exact ⟨rfl, rfl, rfl, rfl, rfl, rfl, rfl, rfl, rfl, rfl, congrArg (fun n : Nat => di n) (List.length_map ..), rfl, trivial⟩) rfl) ?_
  rintro i _ hi ⟨e1, G, rfl⟩
  refine AW_drop (BlL.v (.v (.cons (.pd (pd_rows pdSpell s)) (.v (.cons (.pd (.fp (pdAuto a))) (.cons (.pd (pd_refG l)) (.cons (.pd (pd_rows pdMh xs)) (.cons (.pd (pd_rows pdMh ys)) (.v (.cons (.pd (pd_rows pdMh xs)) (.v (.v .nil)))))))))))) (fun _ h => nomatch h) (Nat.zero_le _) fun e => ?_
  refine go [] pl15 (if_ (fun hlt => ?_) (fun hlt => ?_))
  · simp at hlt
    have hm : xs[i] ∈ fnd (rawA · s) a (onL l d) d most (allL (onL l d)) := by rw [← hxs]; exact List.getElem_mem hlt
    obtain ⟨m1, m2, m3⟩ := mem_fnd hm
    have hmn : manyL (namesL (onL l d) xs[i].place d) s = 0 := by
      have := List.any_eq_false.1 hM _ m1
      simpa using this
    have hF := qFits_c l ha xs[i].place d a s hok
    rw [fits_hit h0 hmn m2] at hF
    refine row_at hlt ?_
    conv => whnf
    refine hF.call ?_
    conv => whnf
    refine iff_ (by simp) ?_
    conv => whnf
    refine iff_ (by simpa using m3) ?_
    conv => whnf
    refine if_ (fun hp => ?_) fun hp => ?_
    · obtain ⟨k, rfl⟩ : ∃ k, i = k + 1 := ⟨i - 1, by simp at hp; omega⟩
      have hw : IntKind.wrap .i64 (((k + 1 : Nat) : Int) - 1) = (k : Int) := by rw [wrap_id (by omega) (by omega)]; omega
      have hk : k < xs.length := by omega
      have hat : ixl (xs.map Mh.enc) 0 (xs.map Mh.enc).length (IntKind.wrap .i64 (((k + 1 : Nat) : Int) - 1)) = some xs[k].enc := by rw [hw]; exact ixl_at (by simp [hk])
      have hri : xs[k].cost < xs[k + 1].cost ∨ xs[k].cost = xs[k + 1].cost ∧ xs[k].place < xs[k + 1].place := by
        subst hxs
        exact fnd_rise hnd hk hlt
      conv => whnf
      refine lst_at hat ?_
      conv => whnf
      refine iff_ (by simp; omega) ?_
      conv => whnf
      refine lst_at hat ?_
      conv => whnf
      refine if_ (fun hq => ?_) fun hq => ?_
      · have hq : xs[k].cost = xs[k + 1].cost := by simpa using hq
        conv => whnf
        refine lst_at hat ?_
        conv => whnf
        refine iff_ (by simp; omega) ?_
        conv => whnf
        exact ⟨hlt, hasG (G := [_]) (by exact ⟨rfl, rfl, rfl, rfl, rfl, rfl, rfl, rfl, rfl, rfl, rfl, inc hlt (by simp only [maxLen]; omega), trivial⟩) rfl⟩
      · conv => whnf
        exact ⟨hlt, hasG (G := [_]) (by exact ⟨rfl, rfl, rfl, rfl, rfl, rfl, rfl, rfl, rfl, rfl, rfl, inc hlt (by simp only [maxLen]; omega), trivial⟩) rfl⟩
    · conv => whnf
      exact ⟨hlt, hasG (G := [_]) (by exact ⟨rfl, rfl, rfl, rfl, rfl, rfl, rfl, rfl, rfl, rfl, rfl, inc hlt (by simp only [maxLen]; omega), trivial⟩) rfl⟩
  · refine AW_rest (c' := restC 7 c15) (AW_has (fun e1 => hK e1 _) (by exact ⟨rfl, rfl, rfl, rfl, rfl, rfl, rfl, rfl, rfl, trivial⟩))
end Go.Proofs.YtpndfdfipkadkaaGreatDoor
set_option maxRecDepth 100000
namespace Go.Proofs.YtpndfdfipkadkaaGreatDoor
open Go Go.Wx Go.Ax
theorem fits_none{l:List Ev}{a:Auto}{s:List Spell}{d q:Int}(h0:readyL a s=0)(hm:manyL (namesL (onL l d) q d) s=0)(hf:fitL (rawA · s) a (namesL (onL l d) q d)=none):fitsT (rawA · s) a s (namesL (onL l d) q d)=(0,false,0):=by
 rw[←ready_fits h0]
 unfold fitsN
 rw[if_neg (by rw[hm];simp),hf]
 rfl
theorem found2_c (l : List Ev) (ha : Acc l) (d r : Int) (a : Auto) (s : List Spell) (hok : ∀ x ∈ s, x.ok) (most : Int) (h0 : readyL a s = 0) (hM : anyMany (onL l d) d s (allL (onL l d)) = false) (xs ys : List Mh) (h : Int) (hall : (allL (onL l d)).length ≤ 100000)
    (K : APost) (e0 : Nat → D) (G0 : Heap)
    (hK : ∀ e1 G, AW Pg Tryz.f15.ntmps (fun _ => true) 0 (restC 9 c15) K ⟨dupds e1 [(1, di d), (2, di r), (13, refG l), (16, rows Mh.enc xs), (18, rows Mh.enc ys), (19, di h), (25, di ((allL (onL l d)).filter (hitB (rawA · s) a (onL l d) d most)).length)], G⟩) :
    AW Pg Tryz.f15.ntmps (fun _ => true) 0 (restC 7 c15) K ⟨dupds e0 [(1, di d), (2, di r), (4, rows Spell.enc s), (5, di most), (9, .fp a.enc), (13, refG l), (16, rows Mh.enc xs), (18, rows Mh.enc ys), (19, di h)], G0⟩ := by
  refine AW_drop (H1 := []) (G := G0) (BlL.v (.v (.cons (.pd (pd_rows pdSpell s)) (.v (.cons (.pd (.fp (pdAuto a))) (.cons (.pd (pd_refG l)) (.cons (.pd (pd_rows pdMh xs)) (.cons (.pd (pd_rows pdMh ys)) (.v .nil))))))))) (fun _ h => nomatch h) (Nat.zero_le _) fun e9 => ?_
  refine goC 1 [] [] ?_
  conv => whnf
  refine AW_seq (AW_seq ?_)
  refine goC 1 [] [] ?_
  refine (qAll_c l d ha).call ?_
  conv => whnf
  obtain ⟨al, hal⟩ : ∃ al, al = allL (onL l d) := ⟨_, rfl⟩
  rw [← hal] at hM hK hall ⊢
  refine AW_block ?_
  refine AW_idx al.length (fun i st => Has [(1, di d), (2, di r), (4, rows Spell.enc s), (5, di most), (9, .fp a.enc), (13, refG l), (16, rows Mh.enc xs), (18, rows Mh.enc ys), (19, di h), (25, di ((al.take i).filter (hitB (rawA · s) a (onL l d) d most)).length), (176, rows ienc al), (177, di al.length), (178, di i)] [] st) (has (by exact ⟨rfl, rfl, rfl, rfl, rfl, rfl, rfl, rfl, rfl, rfl, rfl, congrArg (fun n : Nat => di n) (List.length_map ..), rfl, trivial⟩) rfl) ?_
  rintro i _ hi ⟨e1, rfl⟩
  refine go [] [] (if_ (fun hlt => ?_) (fun hlt => ?_))
  · simp at hlt
    have hmn : manyL (namesL (onL l d) al[i] d) s = 0 := by
      have := List.any_eq_false.1 hM _ (List.getElem_mem hlt)
      simpa using this
    have hF := qFits_c l ha al[i] d a s hok
    have hft := filtT (p := hitB (rawA · s) a (onL l d) d most) hlt
    have hle := List.length_filter_le (hitB (rawA · s) a (onL l d) d most) (al.take i)
    rw [List.length_take] at hle
    refine row_at hlt ?_
    conv => whnf
    refine hF.call ?_
    cases hf : fitL (rawA · s) a (namesL (onL l d) al[i] d) with
    | none =>
      rw [fits_none h0 hmn hf]
      have hh : hitB (rawA · s) a (onL l d) d most al[i] = false := by unfold hitB; rw [hf]
      rw [hh, if_neg (by simp)] at hft
      conv => whnf
      exact ⟨hlt, has (by exact ⟨rfl, rfl, rfl, rfl, rfl, rfl, rfl, rfl, rfl, by rw [hft]; rfl, rfl, rfl, inc hlt (by simp only [maxLen]; omega), trivial⟩) rfl⟩
    | some c =>
      rw [fits_hit h0 hmn hf]
      have hh : hitB (rawA · s) a (onL l d) d most al[i] = decide (c ≤ most) := by unfold hitB; rw [hf]
      rw [hh] at hft
      conv => whnf
      refine if_ (fun hq => ?_) fun hq => ?_
      · rw [if_pos (by simpa using hq)] at hft
        have hcnt : D.v (.int .i64 (IntKind.wrap .i64 ((((al.take i).filter (hitB (rawA · s) a (onL l d) d most)).length : Int) + 1))) = di ((al.take (i + 1)).filter (hitB (rawA · s) a (onL l d) d most)).length := by
          rw [hft, List.length_append]
          exact congrArg di (by rw [wadd (by omega) (by omega)]; simp)
        conv => whnf
        exact ⟨hlt, has (by exact ⟨rfl, rfl, rfl, rfl, rfl, rfl, rfl, rfl, rfl, hcnt, rfl, rfl, inc hlt (by simp only [maxLen]; omega), trivial⟩) rfl⟩
      · rw [if_neg (by simpa using hq)] at hft
        conv => whnf
        exact ⟨hlt, has (by exact ⟨rfl, rfl, rfl, rfl, rfl, rfl, rfl, rfl, rfl, by rw [hft]; rfl, rfl, rfl, inc hlt (by simp only [maxLen]; omega), trivial⟩) rfl⟩
  · have hil : i = al.length := by simp at hlt; omega
    subst hil
    rw [List.take_length]
    refine AW_rest (c' := restC 9 c15) (AW_has (fun e1 => hK e1 _) (by exact ⟨rfl, rfl, rfl, rfl, rfl, rfl, rfl, trivial⟩))
end Go.Proofs.YtpndfdfipkadkaaGreatDoor
set_option maxRecDepth 100000
namespace Go.Proofs.YtpndfdfipkadkaaGreatDoor
open Go Go.Wx Go.Ax
def inR(ins:List Int)(m:Mh):Bool:=ins.any (· ==m.place)
theorem inR_step{ins:List Int}(hn:ins.Nodup){m:Mh}{j:Nat}(hj:j<ins.length)(h:ins[j]=m.place):inR (ins.take j) m=false:=by
 unfold inR
 rw[List.any_eq_false]
 intro q hq he
 obtain⟨k,hk,rfl⟩:=List.mem_iff_getElem.1 hq
 rw[List.length_take]at hk
 rw[List.getElem_take]at he
 have:=List.pairwise_iff_getElem.1 hn k j (by omega) hj (by omega)
 exact this (by rw[h];simpa using he)
theorem found4_c (l : List Ev) (r : Int) (xs ys zs : List Mh) (h : Int) (hy0 : r = 0 → ys = xs) (hy : r ≠ 0 → h = 0 → ys = zs) (e0 : Nat → D) (G0 : Heap) :
    AW Pg Tryz.f15.ntmps (fun _ => true) 0 (restC 12 c15) (fun ex s' => dret Pg Tryz.f15.results.toList (fun d' H' _ => Frz H' d' (db true)) [] ex s'.e s'.H) ⟨dupds e0 [(2, di r), (16, rows Mh.enc xs), (18, rows Mh.enc ys), (19, di h), (31, rows Mh.enc zs)], G0⟩ := by
  refine AW_drop (H1 := []) (G := G0) (BlL.v (.cons (.pd (pd_rows pdMh xs)) (.cons (.pd (pd_rows pdMh ys)) (.v (.cons (.pd (pd_rows pdMh zs)) .nil))))) (fun _ h => nomatch h) (Nat.zero_le _) fun e9 => ?_
  refine go [] [] ?_
  by_cases hr : r = 0
  · refine ift (by simp [hr]) ?_
    rw [hy0 hr]
    conv => whnf
    refine alive_c.call ?_
    conv => whnf
    refine if_ (fun hq => ?_) fun hq => ?_
    · conv => whnf
      first | exact frzt | (refine go [] [] ?_; exact frzt)
    · conv => whnf
      refine (sameM_c xs).call ?_
      conv => whnf
      first | exact frzt | (refine go [] [] ?_; exact frzt)
  · refine iff_ (by simp [hr]) ?_
    conv => whnf
    refine alive_c.call ?_
    conv => whnf
    refine if_ (fun hq => ?_) fun hq => ?_
    · conv => whnf
      first | exact frzt | (refine go [] [] ?_; exact frzt)
    · rw [hy hr (by simpa using hq)]
      conv => whnf
      refine (sameM_c zs).call ?_
      conv => whnf
      first | exact frzt | (refine go [] [] ?_; exact frzt)
theorem found3_c (l : List Ev) (ha : Acc l) (d r : Int) (xs ys : List Mh) (h : Int) (n : Nat) (hc : n = xs.length) (hh : r ≠ 0 → (h == 5) = !hereB (onL l d) r) (K : APost) (e0 : Nat → D) (G0 : Heap)
    (hK : ∀ e1 G, AW Pg Tryz.f15.ntmps (fun _ => true) 0 (restC 10 c15) K ⟨dupds e1 [(1, di d), (2, di r), (13, refG l), (16, rows Mh.enc xs), (18, rows Mh.enc ys), (19, di h)], G⟩) :
    AW Pg Tryz.f15.ntmps (fun _ => true) 0 (restC 9 c15) K ⟨dupds e0 [(1, di d), (2, di r), (13, refG l), (16, rows Mh.enc xs), (18, rows Mh.enc ys), (19, di h), (25, di n)], G0⟩ := by
  refine AW_drop (H1 := []) (G := G0) (BlL.v (.v (.cons (.pd (pd_refG l)) (.cons (.pd (pd_rows pdMh xs)) (.cons (.pd (pd_rows pdMh ys)) (.v (.v .nil))))))) (fun _ h => nomatch h) (Nat.zero_le _) fun e9 => ?_
  refine goC 1 [] [] ?_
  refine iff_ (by simp [hc]) ?_
  conv => whnf
  by_cases hr : r = 0
  · refine iff_ (by simp [hr]) ?_
    conv => whnf
    exact AW_rest (c' := restC 10 c15) (AW_has (fun e1 => hK e1 _) (by exact ⟨rfl, rfl, rfl, rfl, rfl, rfl, trivial⟩))
  · refine ift (by simp [hr]) ?_
    conv => whnf
    refine (qExists_c l r d ha).call ?_
    conv => whnf
    refine iff_ (by simp [hh hr]) ?_
    conv => whnf
    exact AW_rest (c' := restC 10 c15) (AW_has (fun e1 => hK e1 _) (by exact ⟨rfl, rfl, rfl, rfl, rfl, rfl, trivial⟩))
end Go.Proofs.YtpndfdfipkadkaaGreatDoor
set_option maxRecDepth 100000
namespace Go.Proofs.YtpndfdfipkadkaaGreatDoor
open Go Go.Wx Go.Ax
theorem inR_take{ins:List Int}{m:Mh}{j:Nat}(hj:j<ins.length):inR (ins.take (j+1)) m=(inR (ins.take j) m||ins[j]==m.place):=by
 unfold inR
 rw[List.take_succ_eq_append_getElem hj,List.any_append,List.any_cons,List.any_nil,Bool.or_false]
theorem foundIn_c (l : List Ev) (ha : Acc l) (d r : Int) (xs ys : List Mh) (h : Int) (hxl : xs.length ≤ 100000) (ins : List Int) (hins : ins = insideL (onL l d) r) (hnd : ins.Nodup) (hil : ins.length ≤ 100000) (K : APost) (e0 : Nat → D) (G0 : Heap)
    (hK : ∀ e1 G, AW Pg Tryz.f15.ntmps (fun _ => true) 0 (restC 12 c15) K ⟨dupds e1 [(2, di r), (16, rows Mh.enc xs), (18, rows Mh.enc ys), (19, di h), (31, rows Mh.enc (xs.filter (inR ins)))], G⟩) :
    AW Pg Tryz.f15.ntmps (fun _ => true) 0 (restC 10 c15) K ⟨dupds e0 [(1, di d), (2, di r), (13, refG l), (16, rows Mh.enc xs), (18, rows Mh.enc ys), (19, di h)], G0⟩ := by
  have hQ := qInside_c l r d ha
  rw [← hins] at hQ
  refine AW_drop (H1 := []) (G := G0) (BlL.v (.v (.cons (.pd (pd_refG l)) (.cons (.pd (pd_rows pdMh xs)) (.cons (.pd (pd_rows pdMh ys)) (.v .nil)))))) (fun _ h => nomatch h) (Nat.zero_le _) fun e9 => ?_
  refine goC 1 [] [] ?_
  conv => whnf
  refine AW_ghost 31 80 2 (Nat.zero_le _) ?_
  refine AW_seq (AW_seq ?_)
  refine goC 1 [] [] ?_
  conv => whnf
  refine AW_block ?_
  refine AW_idx xs.length (fun i st => ∃ out n, out = (xs.take i).filter (inR ins) ∧ out.length = n ∧ HasG [(1, di d), (2, di r), (13, refG l), (16, rows Mh.enc xs), (18, rows Mh.enc ys), (19, di h), (31, .sl 0 0 n n), (219, rows Mh.enc xs), (220, di xs.length), (221, di i)] [.arr 80 2 (out.map Mh.enc)] st) ⟨[], 0, rfl, rfl, hasG (G := []) (by exact ⟨rfl, rfl, rfl, rfl, rfl, rfl, rfl, rfl, congrArg (fun n : Nat => di n) (List.length_map ..), rfl, trivial⟩) rfl⟩ ?_
  rintro i _ hi ⟨out, n, ho, hn, e1, G, rfl⟩
  have hnb : n ≤ 100000 := by
    have h1 := List.length_filter_le (inR ins) (xs.take i)
    rw [← ho, List.length_take] at h1
    omega
  refine AW_drop (BlL.v (.v (.cons (.pd (pd_refG l)) (.cons (.pd (pd_rows pdMh xs)) (.cons (.pd (pd_rows pdMh ys)) (.v (.cons (.sl (by simp)) (.cons (.pd (pd_rows pdMh xs)) (.v (.v .nil)))))))))) (BlH.cons (BlO.enc pdMh) .nil) (Nat.zero_le _) fun e => ?_
  refine go [] [] (if_ (fun hlt => ?_) (fun hlt => ?_))
  · simp at hlt
    have hft := filtT (p := inR ins) hlt
    rw [← ho] at hft
    refine row_at hlt ?_
    conv => whnf
    refine hQ.call ?_
    conv => whnf
    refine AW_idx ins.length (fun j st => ∃ o2 n2, o2 = (if inR (ins.take j) xs[i] then out ++ [xs[i]] else out) ∧ o2.length = n2 ∧ HasG [(1, di d), (2, di r), (13, refG l), (16, rows Mh.enc xs), (18, rows Mh.enc ys), (19, di h), (31, .sl 0 0 n2 n2), (33, .ptr 1 0 0 1), (219, rows Mh.enc xs), (220, di xs.length), (221, di i), (228, rows ienc ins), (229, di ins.length), (230, di j)] [.arr 80 2 (o2.map Mh.enc), .arr 80 2 [xs[i].enc]] st) ⟨out, n, rfl, hn, hasG (G := []) (by exact ⟨rfl, rfl, rfl, rfl, rfl, rfl, rfl, rfl, rfl, rfl, rfl, rfl, congrArg (fun n : Nat => di n) (List.length_map ..), rfl, trivial⟩) rfl⟩ ?_
    rintro j _ hj ⟨o2, n2, ho2, hn2, e2, G2, rfl⟩
    have hn2b : n2 ≤ 100001 := by
      rw [← hn2, ho2]
      split
      · simp; omega
      · omega
    refine AW_drop (BlL.v (.v (.cons (.pd (pd_refG l)) (.cons (.pd (pd_rows pdMh xs)) (.cons (.pd (pd_rows pdMh ys)) (.v (.cons (.sl (by simp)) (.cons (.ptr (by simp)) (.cons (.pd (pd_rows pdMh xs)) (.v (.v (.cons (.pd (pd_rows pdI ins)) (.v (.v .nil)))))))))))))) (BlH.cons (BlO.enc pdMh) (.cons (fun y hy d hd => by
      rw [List.mem_singleton.1 hy] at hd
      exact .pd (pdMh _ d hd)) .nil)) (Nat.zero_le _) fun e => ?_
    refine go [] [] (if_ (fun hjlt => ?_) (fun hjlt => ?_))
    · simp at hjlt
      have hst := inR_take (m := xs[i]) hjlt
      refine row_at hjlt ?_
      conv => whnf
      refine if_ (fun hq => ?_) fun hq => ?_
      · have hqe : ins[j] = xs[i].place := by simpa using hq
        have hf := inR_step hnd hjlt hqe
        rw [hf, if_neg (by simp)] at ho2
        rw [hf, Bool.false_or, show (ins[j] == xs[i].place) = true from hq] at hst
        conv => whnf
        refine push (by simp [hn2]) (by omega) ?_
        exact ⟨hjlt, o2 ++ [xs[i]], n2 + 1, by rw [hst, if_pos rfl, ho2], by simp [hn2], hasG (by exact ⟨rfl, rfl, rfl, rfl, rfl, rfl, rfl, rfl, rfl, rfl, rfl, rfl, rfl, inc hjlt (by simp only [maxLen]; omega), trivial⟩) (by rw [List.map_append]; rfl)⟩
      · rw [show (ins[j] == xs[i].place) = false from hq, Bool.or_false] at hst
        conv => whnf
        exact ⟨hjlt, o2, n2, by rw [hst]; exact ho2, hn2, hasG (G := []) (by exact ⟨rfl, rfl, rfl, rfl, rfl, rfl, rfl, rfl, rfl, rfl, rfl, rfl, rfl, inc hjlt (by simp only [maxLen]; omega), trivial⟩) rfl⟩
    · have hjz : j = ins.length := by simp at hjlt; omega
      rw [hjz, List.take_length] at ho2
      conv => whnf
      exact ⟨hlt, o2, n2, by rw [hft]; exact ho2, hn2, hasG (G := [_]) (by exact ⟨rfl, rfl, rfl, rfl, rfl, rfl, rfl, rfl, rfl, inc hlt (by simp only [maxLen]; omega), trivial⟩) rfl⟩
  · have hiz : i = xs.length := by simp at hlt; omega
    rw [hiz, List.take_length] at ho
    refine AW_rest (c' := restC 12 c15) ?_
    refine AW_has (l := [(2, di r), (16, rows Mh.enc xs), (18, rows Mh.enc ys), (19, di h), (31, .sl 0 0 n n)]) (fun e3 => ?_) (by exact ⟨rfl, rfl, rfl, rfl, rfl, trivial⟩)
    refine AW_frz (r := [(2, di r), (16, rows Mh.enc xs), (18, rows Mh.enc ys), (19, di h), (31, rows Mh.enc (xs.filter (inR ins)))]) (H1 := []) (G := [.arr 80 2 (out.map Mh.enc)]) (Nat.zero_le _) (fun _ h => nomatch h) ⟨rfl, .v, rfl, .pd (pd_rows pdMh xs), rfl, .pd (pd_rows pdMh ys), rfl, .v, rfl, .fz (ho ▸ frzK_rows (enc := Mh.enc) (xs := out) (T := 80) (sz := 2) rfl hn hn pdMh (fun _ => rfl) (Nat.le_refl _)), trivial⟩ fun e4 => ?_
    exact hK e4 []
end Go.Proofs.YtpndfdfipkadkaaGreatDoor
set_option maxRecDepth 100000
namespace Go.Proofs.YtpndfdfipkadkaaGreatDoor
open Go Go.Wx Go.Ax
theorem allL_nodup(s:List Pl):(allL s).Nodup:=by
 rw[allL_uniq]
 exact rise_nodup (uniqI_rise _)
theorem insideL_nodup(s:List Pl)(r:Int):(insideL s r).Nodup:=by
 rw[←insideL_eq]
 exact(allL_nodup s).filter _
theorem find_all{raw:ByteArray→Auto}{a:Auto}{s:List Spell}{st:List Pl}{d most:Int}:findV raw a s st d 0 most=if readyL a s≠0 then([],readyL a s)else if anyMany st d s (allL st)then([],2)else(fnd raw a st d most (allL st),0):=by
 unfold findV
 rw[if_neg (show ¬((0:Int)≠0∧hereB st 0=false) by simp)]
 rfl
theorem find_in{raw:ByteArray→Auto}{a:Auto}{s:List Spell}{st:List Pl}{d r most:Int}(h0:readyL a s=0)(hM:anyMany st d s (allL st)=false)(hr:r≠0):findV raw a s st d r most=if hereB st r=false then([],5)else(fnd raw a st d most (insideL st r),0):=by
 have hMi:anyMany st d s (insideL st r)=false:=by
  unfold anyMany at hM ⊢
  rw[List.any_eq_false]at hM ⊢
  intro q hq
  rw[←insideL_eq]at hq
  exact hM q (List.mem_filter.1 hq).1
 unfold findV psL
 rw[if_neg (by rw[h0];simp),if_neg hr]
 by_cases hh:hereB st r=false
 ·rw[if_pos ⟨hr,hh⟩,if_pos hh]
 ·rw[if_neg (by rintro⟨_,h⟩;exact hh h),if_neg hh,if_neg (by rw[hMi];simp)]
  rfl
theorem fnd_inside{raw:ByteArray→Auto}{a:Auto}{st:List Pl}{d r most:Int}:fnd raw a st d most (insideL st r)=(fnd raw a st d most (allL st)).filter (inR (insideL st r)):=by
 conv=>lhs;rw[←insideL_eq]
 rw[fnd_sub]
 refine List.filter_congr fun m hm=>?_
 have hp:=(mem_fnd hm).1
 unfold inR
 cases hc:cont st r m.place with
 | true=>
  refine(List.any_eq_true.2 ⟨m.place,?_,by simp⟩).symm
  rw[←insideL_eq]
  exact List.mem_filter.2 ⟨hp,hc⟩
 | false=>
  refine(List.any_eq_false.2 fun q hq=>?_).symm
  rw[←insideL_eq]at hq
  have h2:=(List.mem_filter.1 hq).2
  intro he
  have he:q=m.place:=by simpa using he
  rw[he,hc]at h2
  cases h2
theorem lawFound_c(l:List Ev)(d r:Int)(a:Auto)(s:List Spell)(hok:∀x∈s,x.ok)(most:Int):Pur Pg 15 [rows Ev.enc l,di d,di r,.agg a.enc,rows Spell.enc s,di most] (db true):=by
 refine Pur_of (PdL.cons (pd_rows pdEv l) (.cons (.v _) (.cons (.v _) (.cons (.agg (pdAuto a)) (.cons (pd_rows pdSpell s) (PdL.one (.v _))))))) (AC_fn Tryz.func15 rfl rfl rfl [] (fun _=>true) (fun b h=>nomatch h) (AW_rest (c':=restC 0 c15) ?_))
 refine goC 3 [] pl15 ?_
 rcases open_cases (openF_c l)with⟨i,e,he,g⟩ | ⟨ha,g⟩
 ·refine g.call ?_
  conv=>whnf
  refine alive_c.call ?_
  conv=>whnf
  refine ift (by simpa using he) ?_
  conv=>whnf
  first | exact frzt | (refine go [] [] ?_;exact frzt)
 refine g.call ?_
 conv=>whnf
 refine(few_c l s a).call ?_
 refine if_ (fun _=>?_) fun _=>?_
 ·conv=>whnf
  refine alive_c.call ?_
  conv=>whnf
  first | exact frzt | (refine go [] [] ?_;exact frzt)
 conv=>whnf
 refine if_ (fun _=>?_) fun _=>?_
 ·conv=>whnf
  refine alive_c.call ?_
  conv=>whnf
  first | exact frzt | (refine go [] [] ?_;exact frzt)
 conv=>whnf
 have q0:=qFind_c l ha d 0 a s hok most
 have qr:=qFind_c l ha d r a s hok most
 refine goC 3 [] pl15 ?_
 refine q0.call ?_
 conv=>whnf
 refine qr.call ?_
 by_cases hE:readyL a s≠0∨anyMany (onL l d) d s (allL (onL l d))=true
 ·obtain⟨c,hc,e0⟩:∃c,c≠0∧findV (rawA · s) a s (onL l d) d 0 most=([],c):=by
   rw[find_all]
   by_cases h0:readyL a s≠0
   ·exact⟨_,h0,by rw[if_pos h0]⟩
   ·rcases hE with hE | hE
    ·exact absurd hE h0
    ·exact⟨2,by decide,by rw[if_neg h0,if_pos hE]⟩
  have hr0:r=0→(findV (rawA · s) a s (onL l d) d r most).2=c:=fun hr=>by rw[hr,e0]
  rw[e0]
  generalize findV (rawA · s) a s (onL l d) d r most=v at hr0
  conv=>whnf
  refine ift (by simpa using hc) ?_
  conv=>whnf
  refine alive_c.call ?_
  conv=>whnf
  refine if_ (fun hr=>?_) fun hr=>?_
  ·conv=>whnf
   first | exact frzt | (refine go [] [] ?_;exact frzt)
  ·have hr:r=0:=by simpa using hr
   conv=>whnf
   first | exact frzb (by simp[hr0 hr]) | (refine go [] [] ?_;exact frzb (by simp[hr0 hr]))
 have h0:readyL a s=0:=Classical.not_not.1 fun h=>hE (.inl h)
 have hM:anyMany (onL l d) d s (allL (onL l d))=false:=by
  cases h:anyMany (onL l d) d s (allL (onL l d))with
  | false=>rfl
  | true=>exact absurd (.inr h) hE
 obtain⟨xs,hxs⟩:∃xs,xs=fnd (rawA · s) a (onL l d) d most (allL (onL l d)):=⟨_,rfl⟩
 have e0:findV (rawA · s) a s (onL l d) d 0 most=(xs,0):=by rw[find_all,if_neg (by rw[h0];simp),if_neg (by rw[hM];simp),hxs]
 have hal:(allL (onL l d)).length≤100000:=by have:=all_len (ha.invOn d).1.ids;have:=(ha.invOn d).2;omega
 have hil:(insideL (onL l d) r).length≤100000:=by have:=inside_len (ha.invOn d).1.ids r;have:=(ha.invOn d).2;omega
 have hcnt:((allL (onL l d)).filter (hitB (rawA · s) a (onL l d) d most)).length=xs.length:=by rw[hxs,fnd_len]
 have hxl:xs.length≤100000:=by
  have:=List.length_filter_le (hitB (rawA · s) a (onL l d) d most) (allL (onL l d))
  omega
 have hv0:r=0→(findV (rawA · s) a s (onL l d) d r most).1=xs:=fun hr=>by rw[hr,e0]
 have hv1:r≠0→((findV (rawA · s) a s (onL l d) d r most).2==5)= !hereB (onL l d) r:=fun hr=>by
  rw[find_in h0 hM hr]
  cases hereB (onL l d) r<;>rfl
 have hv2:r≠0→(findV (rawA · s) a s (onL l d) d r most).2=0→(findV (rawA · s) a s (onL l d) d r most).1=xs.filter (inR (insideL (onL l d) r)):=fun hr=>by
  rw[find_in h0 hM hr]
  cases hereB (onL l d) r with
  | false=>intro h;cases h
  | true=>intro _;rw[hxs,←fnd_inside];rfl
 rw[e0]
 generalize findV (rawA · s) a s (onL l d) d r most=v at hv0 hv1 hv2
 conv=>whnf
 refine AW_rest (c':=restC 6 c15) ?_
 refine AW_has (l:=[(1,di d),(2,di r),(4,rows Spell.enc s),(5,di most),(9,.ptr 0 0 0 1),(13,refG l),(16,rows Mh.enc xs),(18,rows Mh.enc v.1),(19,di v.2)]) (fun e1=>?_) (by exact⟨rfl,rfl,rfl,rfl,rfl,rfl,rfl,rfl,rfl,trivial⟩)
 refine AW_frz (r:=[(1,di d),(2,di r),(4,rows Spell.enc s),(5,di most),(9,.fp a.enc),(13,refG l),(16,rows Mh.enc xs),(18,rows Mh.enc v.1),(19,di v.2)]) (H1:=[]) (G:=[.arr 75 3 [a.enc]]) (Nat.le_refl _) (fun _ h=>nomatch h) ⟨rfl,.v,rfl,.v,rfl,.pd (pd_rows pdSpell s),rfl,.v,rfl,.fz (.fp rfl rfl (FrzL.refl (pdAuto a)).2),rfl,.pd (pd_refG l),rfl,.pd (pd_rows pdMh xs),rfl,.pd (pd_rows pdMh v.1),rfl,.v,trivial⟩ fun e2=>?_
 refine found1_c l ha d r a s hok most h0 hM (allL_nodup _) xs v.1 v.2 hxs hxl _ e2 fun e3 G=>?_
 refine found2_c l ha d r a s hok most h0 hM xs v.1 v.2 hal _ e3 G fun e4 G=>?_
 refine found3_c l ha d r xs v.1 v.2 _ hcnt hv1 _ e4 G fun e5 G=>?_
 refine foundIn_c l ha d r xs v.1 v.2 hxl (insideL (onL l d) r) rfl (insideL_nodup _ _) hil _ e5 G fun e6 G=>?_
 exact found4_c l r xs v.1 (xs.filter (inR (insideL (onL l d) r))) v.2 hv0 hv2 e6 G
end Go.Proofs.YtpndfdfipkadkaaGreatDoor
