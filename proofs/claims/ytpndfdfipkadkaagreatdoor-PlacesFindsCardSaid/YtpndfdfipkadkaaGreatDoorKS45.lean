/- The law holds: part 255. Conditions: none. -/
import Derived.Test.YtpndfdfipkadkaaGreatDoorKS25
import Derived.Test.YtpndfdfipkadkaaGreatDoorKS41
import Derived.Test.YtpndfdfipkadkaaGreatDoorKS43
import Derived.Test.YtpndfdfipkadkaaGreatDoorKS44
set_option linter.all false
set_option maxRecDepth 100000
namespace Go.Proofs.YtpndfdfipkadkaaGreatDoor
open Go Go.Wx Go.Ax
theorem rdAhead_c(r w:Rd):Pur Pg 187 [.agg (rdE r),.agg (rdE w)] (db (rdLt r w)):=by
 refine fn Tryz.func187 [] [] (.cons (.agg (pdE r)) (.one (.agg (pdE w)))) ?_
 refine if_ (fun h=>?_) fun h=>?_
 ·exact frzb (by unfold rdLt;rw[h];rfl)
 refine if_ (fun h2=>?_) fun h2=>?_
 ·exact frzb (by unfold rdLt;rw[h,h2];rfl)
 ·exact frzb (by unfold rdLt;rw[h,h2];rfl)
structure Tab(a b:Auto)(A B:Nat)(V:Int→Int→Rd)(U:Int→Int→Bool)(H:Heap):Prop where
 h0:H[0]? =some (.arr 75 3 [a.enc])
 h1:H[1]? =some (.arr 75 3 [b.enc])
 h2:H[2]? =some (.arr 161 2 [rdE noRd])
 h3:H[3]? =some (.arr 214 1 ((List.range A).map fun p=>[D.sl (5+2*p) 0 B B]))
 h4:H[4]? =some (.arr 215 1 ((List.range A).map fun p=>[D.sl (6+2*p) 0 B B]))
 row:∀p,p<A→H[5+2*p]? =some (.arr 161 2 ((List.range B).map fun(q:Nat)=>rdE (V p q)))
 irow:∀p,p<A→H[6+2*p]? =some (.arr 4 1 ((List.range B).map fun(q:Nat)=>[db (U p q)]))
 len:5+2*A≤H.length
structure Tab0(a b:Auto)(A B k:Nat)(H:Heap):Prop where
 h0:H[0]? =some (.arr 75 3 [a.enc])
 h1:H[1]? =some (.arr 75 3 [b.enc])
 h2:H[2]? =some (.arr 161 2 [rdE noRd])
 h3:H[3]? =some (.arr 214 1 ((List.range k).map (fun p=>[D.sl (5+2*p) 0 B B])++List.replicate (A-k) [.v (.slice none 0 0)]))
 h4:H[4]? =some (.arr 215 1 ((List.range k).map (fun p=>[D.sl (6+2*p) 0 B B])++List.replicate (A-k) [.v (.slice none 0 0)]))
 row:∀p,p<k→H[5+2*p]? =some (.arr 161 2 (List.replicate B (rdE noRd)))
 irow:∀p,p<k→H[6+2*p]? =some (.arr 4 1 (List.replicate B [db false]))
 len:H.length=5+2*k
def oS(A k d B:Nat):List (List D):=(List.range k).map (fun p=>[D.sl (d+2*p) 0 B B])++List.replicate (A-k) [D.v (.slice none 0 0)]
theorem oS_len{A k d B:Nat}(h:k≤A):(oS A k d B).length=A:=by unfold oS;simp;omega
theorem oS_at{A k d B:Nat}(h:k<A):(oS A k d B)[0+(k:Int).toNat]? =some [D.v (.slice none 0 0)]:=by
 unfold oS
 rw[Nat.zero_add,Int.toNat_natCast,List.getElem?_append_right (by simp),List.length_map,List.length_range,Nat.sub_self,show A-k=(A-(k+1))+1 by omega,List.replicate_succ]
 rfl
theorem oS_set{A k d B n:Nat}(h:k<A)(hn:n=d+2*k):(oS A k d B).set (0+(k:Int).toNat) [D.sl n 0 B B]=oS A (k+1) d B:=by
 subst hn
 unfold oS
 rw[Nat.zero_add,Int.toNat_natCast,List.set_append_right _ _ (by simp),List.length_map,List.length_range,Nat.sub_self,show A-k=(A-(k+1))+1 by omega,List.replicate_succ,List.set_cons_zero,List.range_succ,List.map_append,List.append_assoc]
 rfl
theorem Tab0.succ {a b : Auto} {A B k n1 n2 : Nat} {H : Heap} (hT : Tab0 a b A B k H) (h : k < A) (h1 : n1 = H.length) (h2 : n2 = H.length + 1) :
    Tab0 a b A B (k + 1) (((H ++ [AO.arr 161 2 (List.replicate B (rdE noRd))]).set 3 (.arr 214 1 ((oS A k 5 B).set (0 + (k : Int).toNat) [D.sl n1 0 B B])) ++ [AO.arr 4 1 (List.replicate B [db false])]).set 4 (.arr 215 1 ((oS A k 6 B).set (0 + (k : Int).toNat) [D.sl n2 0 B B]))) := by
  have hl := hT.len
  rw [oS_set h (by omega), oS_set h (by omega)]
  have low : ∀ {q : Nat} {o : AO}, q < H.length → q ≠ 3 → q ≠ 4 → H[q]? = some o → (((H ++ [AO.arr 161 2 (List.replicate B (rdE noRd))]).set 3 (.arr 214 1 (oS A (k + 1) 5 B)) ++ [AO.arr 4 1 (List.replicate B [db false])]).set 4 (.arr 215 1 (oS A (k + 1) 6 B)))[q]? = some o := fun {q o} h0 h3 h4 hq => by
    rw [List.getElem?_set_ne (by omega), List.getElem?_append_left (by simp; omega), List.getElem?_set_ne (by omega), List.getElem?_append_left h0]
    exact hq
  refine ⟨low (by omega) (by decide) (by decide) hT.h0, low (by omega) (by decide) (by decide) hT.h1, low (by omega) (by decide) (by decide) hT.h2, ?_, ?_, fun p hp => ?_, fun p hp => ?_, by simp; omega⟩
  · rw [List.getElem?_set_ne (by decide), List.getElem?_append_left (by simp; omega), List.getElem?_set_self (by simp; omega)]
    rfl
  · rw [List.getElem?_set_self (by simp; omega)]
    rfl
  · by_cases hpk : p < k
    · exact low (by omega) (by omega) (by omega) (hT.row p hpk)
    · have : p = k := by omega
      subst this
      rw [List.getElem?_set_ne (by omega), List.getElem?_append_left (by simp; omega), List.getElem?_set_ne (by omega), List.getElem?_append_right (by omega), show 5 + 2 * p - H.length = 0 by omega]
      rfl
  · by_cases hpk : p < k
    · exact low (by omega) (by omega) (by omega) (hT.irow p hpk)
    · have : p = k := by omega
      subst this
      rw [List.getElem?_set_ne (by omega), List.getElem?_append_right (by simp; omega)]
      simp only [List.length_set, List.length_append, List.length_cons, List.length_nil]
      rw [show 6 + 2 * p - (H.length + (0 + 1)) = 0 by omega]
      rfl
theorem map_const_range{β:Type}(x:β)(n:Nat):(List.range n).map (fun _=>x)=List.replicate n x:=by
 induction n with
 | zero=>rfl
 | succ n ih=>rw[List.range_succ,List.map_append,ih,List.replicate_succ'];rfl
theorem Tab0.full{a b:Auto}{A B:Nat}{H:Heap}(hT:Tab0 a b A B A H):Tab a b A B (fun _ _=>noRd) (fun _ _=>false) H:=by
 have h3:=hT.h3
 have h4:=hT.h4
 rw[Nat.sub_self,List.replicate_zero,List.append_nil]at h3 h4
 exact⟨hT.h0,hT.h1,hT.h2,h3,h4,fun p hp=>by rw[map_const_range];exact hT.row p hp,fun p hp=>by rw[map_const_range];exact hT.irow p hp,by have:=hT.len;omega⟩
noncomputable def c134:Code:=Tryz.f134.body.getD .skip
def pt134_31:Tre:=(.p 0 (.l 1 (.p 4 (.p 5 (.l 6 (.p 7 (.l 8 (.p 9 (.l 10 (.p 11 (.p 12 (.l 13 (.p 15 (.l 16 (.p 17 (.l 18 (.p 19 (.p 20 (.p 21 (.l 22 (.p 23 (.l 24 (.p 25 (.l 26 (.p 27 (.p 28 (.l 29 (.p 30 (.fork (.e 2 (.l 3 (.p 14 (.p 31 (.e 32 (.e 33 .done)))))) (.e 32 (.e 2 (.l 3 (.p 14 (.p 31 (.e 33 .done)))))))))))))))))))))))))))))))))))
def pl134:Plan:=[(20,[.p 0,.p 1,.l 2,.p 3,.p 4,.p 5,.l 6,.p 7,.l 8,.p 9,.l 10,.p 11,.p 12,.p 13,.l 14,.p 15,.l 16,.p 17,.p 18,.p 19,.l 20,.p 21,.l 22,.p 23,.p 24,.p 25,.l 26,.p 27,.p 28,.p 29,.e 30]),(21,[.p 0,.p 1,.l 2,.p 3,.p 4,.p 5,.l 6,.p 7,.l 8,.p 9,.l 10,.p 11,.p 12,.p 13,.l 14,.p 15,.e 16]),(30,[.p 0,.l 1,.p 2,.l 3,.p 4,.p 5,.p 6,.p 7,.l 8,.p 9,.l 10,.p 11,.l 12,.p 13,.l 14,.p 15,.p 16]),(32,[.l 0,.p 1,.p 2,.l 3,.p 4,.l 5,.p 6,.l 7,.p 8,.l 9,.e 10,.p 11]),(33,[.p 0,.p 1,.l 2,.p 3,.l 4,.p 5,.l 6,.p 7,.l 8,.p 9,.p 10,.p 11,.p 12]),(34,[.p 0,.p 1,.l 2,.p 3,.l 4,.p 5,.l 6,.l 7,.p 8,.e 9]),(35,[.p 0,.p 1,.l 2,.p 3,.l 4,.p 5,.l 6,.p 7,.e 8]),(36,[.p 0,.p 1,.l 2,.p 3,.l 4,.p 5,.p 6,.l 7,.p 8,.l 9,.e 10,.p 11,.p 12])]
abbrev RM(a b:Auto):APost:=fun ex s=>dret Pg Tryz.f134.results.toList (fun d H' _=>Frz H' d (meetD a b)) [] ex s.e s.H
theorem meet7 (a b : Auto) (A B : Nat) (hA : a.states = A) (hB : b.states = B) (h1 : 1 ≤ A) (hA4 : A ≤ 400) (hB4 : B ≤ 400)
    (next : ∀ (H : Heap) e0, Tab a b A B (fun _ _ => noRd) (fun _ _ => false) H → AW Pg Tryz.f134.ntmps (fun _ => true) 0 (restC 8 c134) (RM a b) ⟨dupds e0 [(2, .ptr 0 0 0 1), (3, .ptr 1 0 0 1), (4, .ptr 2 0 0 1), (5, db false), (6, di 0), (9, .sl 3 0 A A), (10, .sl 4 0 A A)], H⟩) (e0 : Nat → D) :
    AW Pg Tryz.f134.ntmps (fun _ => true) 0 (restC 7 c134) (RM a b) ⟨dupds e0 [(2, .ptr 0 0 0 1), (3, .ptr 1 0 0 1), (4, .ptr 2 0 0 1), (5, db false), (6, di 0), (9, .sl 3 0 A A), (10, .sl 4 0 A A)], [.arr 75 3 [a.enc], .arr 75 3 [b.enc], .arr 161 2 [rdE noRd], .arr 214 1 (List.replicate A [.v (.slice none 0 0)]), .arr 215 1 (List.replicate A [.v (.slice none 0 0)])]⟩ := by
  obtain ⟨sa, aA, aE⟩ := a
  obtain ⟨sb, bA, bE⟩ := b
  simp only at hA hB
  subst hA
  subst hB
  have mk : (Nat.ble B B && (Nat.ble (24 * B) 281474976710656 && Nat.ble B maxLen)) = true := and_t (Nat.ble_eq_true_of_le (Nat.le_refl _)) (and_t (Nat.ble_eq_true_of_le (by omega)) (Nat.ble_eq_true_of_le (by simp only [maxLen]; omega)))
  refine goC 1 [] pl134 ?_
  refine AW_idx A (fun k st => ∃ H, Tab0 ⟨A, aA, aE⟩ ⟨B, bA, bE⟩ A B k H ∧ Has [(2, .ptr 0 0 0 1), (3, .ptr 1 0 0 1), (4, .ptr 2 0 0 1), (5, db false), (6, di 0), (9, .sl 3 0 A A), (10, .sl 4 0 A A), (11, di k)] H st) ⟨_, ⟨rfl, rfl, rfl, rfl, rfl, fun p h => absurd h (Nat.not_lt_zero _), fun p h => absurd h (Nat.not_lt_zero _), rfl⟩, has ⟨rfl, rfl, rfl, rfl, rfl, rfl, rfl, rfl, trivial⟩ rfl⟩ ?_
  rintro k _ hk ⟨H, hT, e, rfl⟩
  refine go [] pl134 ?_
  repeat ((conv => whnf); (first | refine datarr_at hT.h0 ?_))
  refine if_ (fun hlt => ?_) fun hlt => ?_
  · repeat ((conv => whnf); (first | refine datarr_at hT.h1 ?_))
    conv => whnf
    refine ck mk ?_
    have hlt : k < A := by simpa using hlt
    have hl := hT.len
    have hl3 := oS_len (d := 5) (B := B) hk
    have hl4 := oS_len (d := 6) (B := B) hk
    have g3 : (H ++ [AO.arr 161 2 (List.replicate B (rdE noRd))])[3]? = some (.arr 214 1 (oS A k 5 B)) := (List.getElem?_append_left (by omega)).trans hT.h3
    repeat ((conv => whnf); (first | refine datarr_at g3 ?_))
    refine ck (and_t (beq_len hl3) rfl) ?_
    refine ixl_any (by omega) hlt ?_
    repeat ((conv => whnf); (first | refine datarr_at g3 ?_))
    refine ck (beq_len hl3) ?_
    refine lst_at (oS_at hlt) ?_
    have k1 : ((H ++ [AO.arr 161 2 (List.replicate B (rdE noRd))]).set 3 (.arr 214 1 ((oS A k 5 B).set (0 + (k : Int).toNat) [D.sl H.length 0 B B])))[1]? = some (.arr 75 3 [Auto.enc ⟨B, bA, bE⟩]) := (List.getElem?_set_ne (by decide)).trans ((List.getElem?_append_left (by omega)).trans hT.h1)
    have k4 : ((H ++ [AO.arr 161 2 (List.replicate B (rdE noRd))]).set 3 (.arr 214 1 ((oS A k 5 B).set (0 + (k : Int).toNat) [D.sl H.length 0 B B])) ++ [AO.arr 4 1 (List.replicate B [db false])])[4]? = some (.arr 215 1 (oS A k 6 B)) := (List.getElem?_append_left (by simp; omega)).trans ((List.getElem?_set_ne (by decide)).trans ((List.getElem?_append_left (by omega)).trans hT.h4))
    repeat ((conv => whnf); (first | refine datarr_at k1 ?_))
    conv => whnf
    refine ck (and_t (Nat.ble_eq_true_of_le (Nat.le_refl B)) (and_t (Nat.ble_eq_true_of_le (show 1 * B ≤ _ by omega)) (Nat.ble_eq_true_of_le (show B ≤ maxLen by simp only [maxLen]; omega)))) ?_
    repeat ((conv => whnf); (first | refine datarr_at k4 ?_))
    refine ck (and_t (beq_len hl4) rfl) ?_
    refine ixl_any (by omega) hlt ?_
    repeat ((conv => whnf); (first | refine datarr_at k4 ?_))
    refine ck (beq_len hl4) ?_
    refine lst_at (oS_at hlt) ?_
    exact ⟨hlt, _, hT.succ hlt rfl (by simp), has ⟨rfl, rfl, rfl, rfl, rfl, rfl, rfl, inc hlt (by simp only [maxLen]; omega), trivial⟩ rfl⟩
  · have hlt : ¬ k < A := by simpa using hlt
    obtain rfl : k = A := by omega
    conv => whnf
    exact AW_rest (c' := restC 8 c134) (AW_has (l := [(2, .ptr 0 0 0 1), (3, .ptr 1 0 0 1), (4, .ptr 2 0 0 1), (5, db false), (6, di 0), (9, .sl 3 0 k k), (10, .sl 4 0 k k)]) (fun e0 => next H e0 hT.full) (by exact ⟨rfl, rfl, rfl, rfl, rfl, rfl, rfl, trivial⟩))
theorem range_set{B:Nat}{f:Nat→List D}{q:Nat}{y:List D}(hq:q<B):((List.range B).map f).set (0+q) y=(List.range B).map fun j=>if j=q then y else f j:=by
 refine List.ext_getElem? fun j=>?_
 rw[Nat.zero_add,List.getElem?_set,List.getElem?_map,List.getElem?_map]
 by_cases hj:q=j
 ·subst hj
  rw[if_pos rfl,if_pos (by simpa using hq),List.getElem?_range hq]
  simp
 ·rw[if_neg hj]
  by_cases hjb:j<B
  ·rw[List.getElem?_range hjb]
   simp[Ne.symm hj]
  ·rw[List.getElem?_eq_none (by simpa using hjb)]
   rfl
def updV(V:Int→Int→Rd)(p q:Int)(r:Rd):Int→Int→Rd:=fun p' q'=>if p'=p∧q'=q then r else V p' q'
def updU(U:Int→Int→Bool)(p q:Int):Int→Int→Bool:=fun p' q'=>if p'=p∧q'=q then true else U p' q'
section
variable {a b : Auto} {A B : Nat} {V : Int → Int → Rd} {U : Int → Int → Bool} {H : Heap}
theorem Tab.setV(h:Tab a b A B V U H){p q:Nat}(hp:p<A)(hq:q<B)(r:Rd):Tab a b A B (updV V p q r) U (H.set (5+2*p) (.arr 161 2 (((List.range B).map fun(q:Nat)=>rdE (V p q)).set (0+q) (rdE r)))):=by
 have hl:=h.len
 have ne:∀{c:Nat} {o:AO},5+2*p≠c→H[c]? =some o→∀x,(H.set (5+2*p) x)[c]? =some o:=fun{c o} hc ho x=>(List.getElem?_set_ne hc).trans ho
 refine⟨ne (by omega) h.h0 _,ne (by omega) h.h1 _,ne (by omega) h.h2 _,ne (by omega) h.h3 _,ne (by omega) h.h4 _,fun p' hp'=>?_,fun p' hp'=>ne (by omega) (h.irow p' hp') _,by simpa using hl⟩
 by_cases he:p=p'
 ·subst he
  rw[List.getElem?_set_self (by omega),range_set hq]
  congr 2
  refine List.map_congr_left fun j _=>?_
  unfold updV
  by_cases hj:j=q
  ·subst hj;simp
  ·rw[if_neg hj,if_neg (by omega)]
 ·rw[List.getElem?_set_ne (by omega),h.row p' hp']
  congr 2
  refine List.map_congr_left fun j _=>?_
  unfold updV
  rw[if_neg (by omega)]
theorem Tab.setU(h:Tab a b A B V U H){p q:Nat}(hp:p<A)(hq:q<B):Tab a b A B V (updU U p q) (H.set (6+2*p) (.arr 4 1 (((List.range B).map fun(q:Nat)=>[db (U p q)]).set (0+q) [db true]))):=by
 have hl:=h.len
 have ne:∀{c:Nat} {o:AO},6+2*p≠c→H[c]? =some o→∀x,(H.set (6+2*p) x)[c]? =some o:=fun{c o} hc ho x=>(List.getElem?_set_ne hc).trans ho
 refine⟨ne (by omega) h.h0 _,ne (by omega) h.h1 _,ne (by omega) h.h2 _,ne (by omega) h.h3 _,ne (by omega) h.h4 _,fun p' hp'=>ne (by omega) (h.row p' hp') _,fun p' hp'=>?_,by simpa using hl⟩
 by_cases he:p=p'
 ·subst he
  rw[List.getElem?_set_self (by omega),range_set hq]
  congr 2
  refine List.map_congr_left fun j _=>?_
  unfold updU
  by_cases hj:j=q
  ·subst hj;simp
  ·rw[if_neg hj,if_neg (by omega)]
 ·rw[List.getElem?_set_ne (by omega),h.irow p' hp']
  congr 2
  refine List.map_congr_left fun j _=>?_
  unfold updU
  rw[if_neg (by omega)]
theorem inner_at{B q:Nat}{f:Nat→List D}(hq:q<B):((List.range B).map f)[0+(q:Int).toNat]? =some (f q):=by simp[hq]
end
def setT(T:Tbl)(p q:Int)(r:Rd):Tbl:=fun p' q'=>if p'=p∧q'=q then some r else T p' q'
theorem setT_V(T:Tbl)(p q:Int)(r:Rd):(fun p' q'=>(setT T p q r p' q').getD noRd)=updV (fun p q=>(T p q).getD noRd) p q r:=by
 funext p' q'
 unfold setT updV
 split<;>rfl
theorem setT_U(T:Tbl)(p q:Int)(r:Rd):(fun p' q'=>(setT T p q r p' q').isSome)=updU (fun p q=>(T p q).isSome) p q:=by
 funext p' q'
 unfold setT updU
 split<;>rfl
theorem meet8 (a b : Auto) (va : Valid a) (vb : Valid b) (A B : Nat) (hA : a.states = A) (hB : b.states = B)
    (next : ∀ (H : Heap) e0 (T : Tbl), T = startA a b → Tab a b A B (fun p q => (T p q).getD noRd) (fun p q => (T p q).isSome) H → AW Pg Tryz.f134.ntmps (fun _ => true) 0 (restC 9 c134) (RM a b) ⟨dupds e0 [(2, .ptr 0 0 0 1), (3, .ptr 1 0 0 1), (4, .ptr 2 0 0 1), (5, db false), (6, di 0), (9, .sl 3 0 A A), (10, .sl 4 0 A A)], H⟩) (H : Heap) (e0 : Nat → D)
    (hT : Tab a b A B (fun _ _ => noRd) (fun _ _ => false) H) :
    AW Pg Tryz.f134.ntmps (fun _ => true) 0 (restC 8 c134) (RM a b) ⟨dupds e0 [(2, .ptr 0 0 0 1), (3, .ptr 1 0 0 1), (4, .ptr 2 0 0 1), (5, db false), (6, di 0), (9, .sl 3 0 A A), (10, .sl 4 0 A A)], H⟩ := by
  have hel := va.el
  have hbl := vb.el
  refine goC 1 [] pl134 ?_
  refine AW_idx a.ends.length (fun i st => ∃ T H, EOk a b (fun p q => (∃ x ∈ a.ends.take i, x.state = p) ∧ ∃ y ∈ b.ends, y.state = q) T ∧ Tab a b A B (fun p q => (T p q).getD noRd) (fun p q => (T p q).isSome) H ∧ Has [(2, .ptr 0 0 0 1), (3, .ptr 1 0 0 1), (4, .ptr 2 0 0 1), (5, db false), (6, di 0), (9, .sl 3 0 A A), (10, .sl 4 0 A A), (12, di i)] H st)
    ⟨fun _ _ => none, H, fun p q => ⟨fun ⟨⟨x, hx, _⟩, _⟩ => by simp at hx, fun _ => rfl⟩, hT, has ⟨rfl, rfl, rfl, rfl, rfl, rfl, rfl, rfl, trivial⟩ rfl⟩ ?_
  rintro i _ hi ⟨T, H, hE, hT, e, rfl⟩
  refine go [] pl134 ?_
  repeat ((conv => whnf); (first | refine datarr_at hT.h0 ?_))
  refine if_ (fun hlt => ?_) fun hlt => ?_
  · have hlt : i < a.ends.length := by simpa using hlt
    obtain ⟨x, hx⟩ : ∃ x, a.ends[i] = x := ⟨_, rfl⟩
    have hxm : x ∈ a.ends := by rw [← hx]; exact List.getElem_mem hlt
    have hxv := va.en x hxm
    obtain ⟨p, hp⟩ : ∃ p : Nat, x.state = p := ⟨x.state.toNat, by omega⟩
    have htk : a.ends.take (i + 1) = a.ends.take i ++ [x] := by rw [List.take_succ_eq_append_getElem hlt, hx]
    obtain ⟨xs, xc⟩ := x
    simp only at hp
    subst hp
    have hpA : p < A := by simp only at hxv; omega
    have hrow : ixl (a.ends.map End.enc) 0 (a.ends.map End.enc).length (i : Int) = some [di p, di xc] := ixl_at (by rw [List.getElem?_map, List.getElem?_eq_getElem hlt, hx]; rfl)
    refine AW_idx b.ends.length (fun k st => ∃ T H, EOk a b (fun p' q => (∃ x ∈ a.ends.take i, x.state = p') ∧ (∃ y ∈ b.ends, y.state = q) ∨ p' = (p : Int) ∧ ∃ y ∈ b.ends.take k, y.state = q) T ∧ Tab a b A B (fun p q => (T p q).getD noRd) (fun p q => (T p q).isSome) H ∧ Has [(2, .ptr 0 0 0 1), (3, .ptr 1 0 0 1), (4, .ptr 2 0 0 1), (5, db false), (6, di 0), (9, .sl 3 0 A A), (10, .sl 4 0 A A), (12, di i), (13, di k)] H st)
      ⟨T, H, hE.congr fun p q => by simp, hT, has ⟨rfl, rfl, rfl, rfl, rfl, rfl, rfl, rfl, rfl, trivial⟩ rfl⟩ ?_
    clear hE hT
    clear T H
    rintro k _ hk ⟨T, H, hE, hT, e, rfl⟩
    refine go [] pl134 ?_
    repeat ((conv => whnf); (first | refine datarr_at hT.h1 ?_))
    refine if_ (fun hklt => ?_) fun hklt => ?_
    · have hklt : k < b.ends.length := by simpa using hklt
      obtain ⟨y, hy⟩ : ∃ y, b.ends[k] = y := ⟨_, rfl⟩
      have hym : y ∈ b.ends := by rw [← hy]; exact List.getElem_mem hklt
      have hyv := vb.en y hym
      obtain ⟨q, hq⟩ : ∃ q : Nat, y.state = q := ⟨y.state.toNat, by omega⟩
      have htk2 : b.ends.take (k + 1) = b.ends.take k ++ [y] := by rw [List.take_succ_eq_append_getElem hklt, hy]
      obtain ⟨ys, yc⟩ := y
      simp only at hq
      subst hq
      have hqB : q < B := by simp only at hyv; omega
      have hrow2 : ixl (b.ends.map End.enc) 0 (b.ends.map End.enc).length (k : Int) = some [di q, di yc] := ixl_at (by rw [List.getElem?_map, List.getElem?_eq_getElem hklt, hy]; rfl)
      have hol : ((List.range A).map fun p => [D.sl (5 + 2 * p) 0 B B]).length = A := by simp
      have hol2 : ((List.range A).map fun p => [D.sl (6 + 2 * p) 0 B B]).length = A := by simp
      repeat ((conv => whnf); (first | refine datarr_at hT.h0 ?_ | refine datarr_at hT.h1 ?_ | refine lst_at hrow ?_ | refine lst_at hrow2 ?_ | refine datarr_at hT.h3 ?_))
      conv => whnf
      refine ck (and_t (beq_len hol) rfl) ?_
      refine ixl_any (by rw [hol]; exact hpA) hpA ?_
      repeat ((conv => whnf); (first | refine datarr_at hT.h3 ?_))
      conv => whnf
      refine ck (beq_len hol) ?_
      refine lst_at (inner_at hpA) ?_
      repeat ((conv => whnf); (first | refine datarr_at hT.h0 ?_ | refine datarr_at hT.h1 ?_ | refine lst_at hrow ?_ | refine lst_at hrow2 ?_ | refine datarr_at (hT.row p hpA) ?_))
      conv => whnf
      refine ck (and_t (beq_len (by simp)) rfl) ?_
      refine ixl_any (by simp; exact hqB) hqB ?_
      repeat ((conv => whnf); (first | refine datarr_at (hT.row p hpA) ?_))
      conv => whnf
      refine ck (beq_len (by simp)) ?_
      refine lst_at (inner_at hqB) ?_
      have hT2 := hT.setV hpA hqB ⟨⟨#[]⟩, IntKind.wrap .i64 (xc + yc)⟩
      conv => whnf
      refine ck (and_t rfl pend_l) ?_
      repeat ((conv => whnf); (first | refine datarr_at hT2.h0 ?_ | refine datarr_at hT2.h1 ?_ | refine lst_at hrow ?_ | refine lst_at hrow2 ?_ | refine datarr_at hT2.h4 ?_))
      conv => whnf
      refine ck (and_t (beq_len hol2) rfl) ?_
      refine ixl_any (by rw [hol2]; exact hpA) hpA ?_
      repeat ((conv => whnf); (first | refine datarr_at hT2.h4 ?_))
      conv => whnf
      refine ck (beq_len hol2) ?_
      refine lst_at (inner_at hpA) ?_
      repeat ((conv => whnf); (first | refine datarr_at hT2.h0 ?_ | refine datarr_at hT2.h1 ?_ | refine lst_at hrow ?_ | refine lst_at hrow2 ?_ | refine datarr_at (hT2.irow p hpA) ?_))
      conv => whnf
      refine ck (and_t (beq_len (by simp)) rfl) ?_
      refine ixl_any (by simp; exact hqB) hqB ?_
      repeat ((conv => whnf); (first | refine datarr_at (hT2.irow p hpA) ?_))
      conv => whnf
      refine ck (beq_len (by simp)) ?_
      refine lst_at (inner_at hqB) ?_
      have hT3 := hT2.setU hpA hqB
      conv => whnf
      refine ck (and_t rfl pend_l) ?_
      conv => whnf
      have hw : IntKind.wrap .i64 (xc + yc) = xc + yc := by simp only at hxv hyv; exact wadd (by omega) (by omega)
      refine ⟨hklt, setT T p q ⟨⟨#[]⟩, xc + yc⟩, _, (hE.step va vb hxm hym).congr fun p' q' => ?_, ?_, has ⟨rfl, rfl, rfl, rfl, rfl, rfl, rfl, rfl, inc hklt (by simp only [maxLen]; omega), trivial⟩ rfl⟩
      · rw [htk2]
        simp only [List.mem_append, List.mem_singleton]
        constructor
        · rintro ((h | ⟨h1, y, h2, h3⟩) | ⟨h1, h2⟩)
          · exact .inl h
          · exact .inr ⟨h1, y, .inl h2, h3⟩
          · exact .inr ⟨h1, _, .inr rfl, h2.symm⟩
        · rintro (h | ⟨h1, y, (h2 | rfl), h3⟩)
          · exact .inl (.inl h)
          · exact .inl (.inr ⟨h1, y, h2, h3⟩)
          · exact .inr ⟨h1, h3.symm⟩
      · have he : (⟨⟨#[]⟩, xc + yc⟩ : Rd) = ⟨⟨#[]⟩, IntKind.wrap .i64 (xc + yc)⟩ := by rw [hw]
        rw [setT_V, setT_U, he]
        exact hT3
    · have hklt : ¬ k < b.ends.length := by simpa using hklt
      have hkl : k = b.ends.length := by omega
      rw [hkl, List.take_length] at hE
      refine ⟨hlt, T, H, hE.congr fun p' q' => ?_, hT, has ⟨rfl, rfl, rfl, rfl, rfl, rfl, rfl, inc hlt (by simp only [maxLen]; omega), trivial⟩ rfl⟩
      rw [htk]
      simp only [List.mem_append, List.mem_singleton]
      constructor
      · rintro (⟨⟨x, h1, h2⟩, h3⟩ | ⟨h1, h3⟩)
        · exact ⟨⟨x, .inl h1, h2⟩, h3⟩
        · exact ⟨⟨_, .inr rfl, h1.symm⟩, h3⟩
      · rintro ⟨⟨x, (h1 | rfl), h2⟩, h3⟩
        · exact .inl ⟨⟨x, h1, h2⟩, h3⟩
        · exact .inr ⟨h2.symm, h3⟩
  · have hlt : ¬ i < a.ends.length := by simpa using hlt
    have hil : i = a.ends.length := by omega
    rw [hil, List.take_length] at hE
    conv => whnf
    exact AW_rest (c' := restC 9 c134) (AW_has (l := [(2, .ptr 0 0 0 1), (3, .ptr 1 0 0 1), (4, .ptr 2 0 0 1), (5, db false), (6, di 0), (9, .sl 3 0 A A), (10, .sl 4 0 A A)]) (fun e0 => next H e0 T (hE.done va vb) hT) (by exact ⟨rfl, rfl, rfl, rfl, rfl, rfl, rfl, trivial⟩))
end Go.Proofs.YtpndfdfipkadkaaGreatDoor
set_option maxRecDepth 100000
namespace Go.Proofs.YtpndfdfipkadkaaGreatDoor
open Go Go.Wx Go.Ax
noncomputable def b6:Code:=lpC (lpC (restC 1 (fstC (restC 9 c134))))
noncomputable def b8:Code:=lpC (lpC (restC 1 (lpC (fstC (restC 1 b6)))))
noncomputable def b9:Code:=lpC (fstC (restC 1 b8))
abbrev VT(T:Tbl):Int→Int→Rd:=fun p q=>(T p q).getD noRd
abbrev UT(T:Tbl):Int→Int→Bool:=fun p q=>(T p q).isSome
def putB(T:Tbl)(p q:Int)(r:Rd):Tbl:=if !(T p q).isSome||rdLt r ((T p q).getD noRd)then setT T p q r else T
abbrev slM(A:Nat)(i k:Int):List (Nat × D):=[(2,.ptr 0 0 0 1),(3,.ptr 1 0 0 1),(4,.ptr 2 0 0 1),(5,db false),(6,di 0),(9,.sl 3 0 A A),(10,.sl 4 0 A A),(14,di i),(15,di k)]
section
variable {a b : Auto} {A B : Nat}
theorem m9e {T : Tbl} {H : Heap} (hT : Tab a b A B (VT T) (UT T) H) {f g nx ny nr : Nat} (hf : f < A) (hg : g < B) {t u l m c d i k : Int} {r : Rd} (hx : H[nx]? = some (.arr 205 4 [[di f, di t, du l, di c]])) (hy : H[ny]? = some (.arr 205 4 [[di g, di u, du m, di d]])) (hr : H[nr]? = some (.arr 161 2 [rdE r])) (n1 : 5 + 2 * A ≤ nx) (n2 : 5 + 2 * A ≤ ny) (n3 : 5 + 2 * A ≤ nr) (q : Bool) (e0 : Nat → D) :
    AW Pg Tryz.f134.ntmps (fun _ => true) 0 (restC 6 b9) (fun ex st => ex = .normal ∧ ∃ H', Tab a b A B (VT (if q then setT T f g r else T)) (UT (if q then setT T f g r else T)) H' ∧ Has (slM A i k) H' st)
      ⟨dupds e0 (slM A i k ++ [(16, .ptr nx 0 0 1), (17, .ptr ny 0 0 1), (18, .ptr nr 0 0 1), (214, db q)]), H⟩ := by
  have hol : ((List.range A).map fun p => [D.sl (5 + 2 * p) 0 B B]).length = A := by simp
  have hol2 : ((List.range A).map fun p => [D.sl (6 + 2 * p) 0 B B]).length = A := by simp
  refine go [] pl134 ?_
  refine if_ (fun h => ?_) fun h => ?_
  · have h : q = true := h
    subst h
    repeat ((conv => whnf); (first | refine datarr_at hx ?_ | refine datarr_at hy ?_ | refine datarr_at hr ?_ | refine datarr_at hT.h3 ?_ | refine datarr_at hT.h4 ?_ | refine datarr_at (hT.row f hf) ?_ | refine datarr_at (hT.irow f hf) ?_))
    conv => whnf
    refine ck (and_t (beq_len hol) rfl) ?_
    refine ixl_any (by rw [hol]; exact hf) hf ?_
    repeat ((conv => whnf); (first | refine datarr_at hx ?_ | refine datarr_at hy ?_ | refine datarr_at hr ?_ | refine datarr_at hT.h3 ?_ | refine datarr_at hT.h4 ?_ | refine datarr_at (hT.row f hf) ?_ | refine datarr_at (hT.irow f hf) ?_))
    conv => whnf
    refine ck (beq_len hol) ?_
    refine lst_at (inner_at hf) ?_
    repeat ((conv => whnf); (first | refine datarr_at hx ?_ | refine datarr_at hy ?_ | refine datarr_at hr ?_ | refine datarr_at hT.h3 ?_ | refine datarr_at hT.h4 ?_ | refine datarr_at (hT.row f hf) ?_ | refine datarr_at (hT.irow f hf) ?_))
    conv => whnf
    refine ck (and_t (beq_len (by simp)) rfl) ?_
    refine ixl_any (by simp; exact hg) hg ?_
    repeat ((conv => whnf); (first | refine datarr_at hx ?_ | refine datarr_at hy ?_ | refine datarr_at hr ?_ | refine datarr_at hT.h3 ?_ | refine datarr_at hT.h4 ?_ | refine datarr_at (hT.row f hf) ?_ | refine datarr_at (hT.irow f hf) ?_))
    conv => whnf
    refine ck (beq_len (by simp)) ?_
    refine lst_at (inner_at hg) ?_
    conv => whnf
    refine ck (and_t rfl pend_l) ?_
    have hT2 := hT.setV hf hg r
    have keep : ∀ {n : Nat} {o : AO}, 5 + 2 * A ≤ n → H[n]? = some o → ∀ z, (H.set (5 + 2 * f) z)[n]? = some o := fun {n o} hn ho z => (List.getElem?_set_ne (by omega)).trans ho
    have hx := keep n1 hx (.arr 161 2 (((List.range B).map fun (q : Nat) => rdE (VT T f q)).set (0 + g) (rdE r)))
    have hy := keep n2 hy (.arr 161 2 (((List.range B).map fun (q : Nat) => rdE (VT T f q)).set (0 + g) (rdE r)))
    have hr := keep n3 hr (.arr 161 2 (((List.range B).map fun (q : Nat) => rdE (VT T f q)).set (0 + g) (rdE r)))
    repeat ((conv => whnf); (first | refine datarr_at hx ?_ | refine datarr_at hy ?_ | refine datarr_at hr ?_ | refine datarr_at hT2.h3 ?_ | refine datarr_at hT2.h4 ?_ | refine datarr_at (hT2.row f hf) ?_ | refine datarr_at (hT2.irow f hf) ?_))
    conv => whnf
    refine ck (and_t (beq_len hol2) rfl) ?_
    refine ixl_any (by rw [hol2]; exact hf) hf ?_
    repeat ((conv => whnf); (first | refine datarr_at hx ?_ | refine datarr_at hy ?_ | refine datarr_at hr ?_ | refine datarr_at hT2.h3 ?_ | refine datarr_at hT2.h4 ?_ | refine datarr_at (hT2.row f hf) ?_ | refine datarr_at (hT2.irow f hf) ?_))
    conv => whnf
    refine ck (beq_len hol2) ?_
    refine lst_at (inner_at hf) ?_
    repeat ((conv => whnf); (first | refine datarr_at hx ?_ | refine datarr_at hy ?_ | refine datarr_at hr ?_ | refine datarr_at hT2.h3 ?_ | refine datarr_at hT2.h4 ?_ | refine datarr_at (hT2.row f hf) ?_ | refine datarr_at (hT2.irow f hf) ?_))
    conv => whnf
    refine ck (and_t (beq_len (by simp)) rfl) ?_
    refine ixl_any (by simp; exact hg) hg ?_
    repeat ((conv => whnf); (first | refine datarr_at hx ?_ | refine datarr_at hy ?_ | refine datarr_at hr ?_ | refine datarr_at hT2.h3 ?_ | refine datarr_at hT2.h4 ?_ | refine datarr_at (hT2.row f hf) ?_ | refine datarr_at (hT2.irow f hf) ?_))
    conv => whnf
    refine ck (beq_len (by simp)) ?_
    refine lst_at (inner_at hg) ?_
    conv => whnf
    refine ck (and_t rfl pend_l) ?_
    conv => whnf
    refine ⟨rfl, _, ?_, has ⟨rfl, rfl, rfl, rfl, rfl, rfl, rfl, rfl, rfl, trivial⟩ rfl⟩
    rw [if_pos rfl]
    unfold VT UT
    rw [setT_V, setT_U]
    exact hT2.setU hf hg
  · have h : q = false := h
    subst h
    conv => whnf
    exact ⟨rfl, H, hT, has ⟨rfl, rfl, rfl, rfl, rfl, rfl, rfl, rfl, rfl, trivial⟩ rfl⟩
theorem m9d {T : Tbl} {H : Heap} (hT : Tab a b A B (VT T) (UT T) H) {f g nx ny nr : Nat} (hf : f < A) (hg : g < B) {t u l m c d i k : Int} {r : Rd} (hx : H[nx]? = some (.arr 205 4 [[di f, di t, du l, di c]])) (hy : H[ny]? = some (.arr 205 4 [[di g, di u, du m, di d]])) (hr : H[nr]? = some (.arr 161 2 [rdE r])) (n1 : 5 + 2 * A ≤ nx) (n2 : 5 + 2 * A ≤ ny) (n3 : 5 + 2 * A ≤ nr) (e0 : Nat → D) :
    AW Pg Tryz.f134.ntmps (fun _ => true) 0 (restC 4 b9) (fun ex st => ex = .normal ∧ ∃ H', Tab a b A B (VT (putB T f g r)) (UT (putB T f g r)) H' ∧ Has (slM A i k) H' st)
      ⟨dupds e0 (slM A i k ++ [(16, .ptr nx 0 0 1), (17, .ptr ny 0 0 1), (18, .ptr nr 0 0 1)]), H⟩ := by
  have hol : ((List.range A).map fun p => [D.sl (5 + 2 * p) 0 B B]).length = A := by simp
  have hol2 : ((List.range A).map fun p => [D.sl (6 + 2 * p) 0 B B]).length = A := by simp
  refine goC 2 [] pl134 ?_
  repeat ((conv => whnf); (first | refine datarr_at hx ?_ | refine datarr_at hy ?_ | refine datarr_at hr ?_ | refine datarr_at hT.h3 ?_ | refine datarr_at hT.h4 ?_ | refine datarr_at (hT.row f hf) ?_ | refine datarr_at (hT.irow f hf) ?_))
  conv => whnf
  refine ck (and_t (beq_len hol) rfl) ?_
  refine ixl_any (by rw [hol]; exact hf) hf ?_
  repeat ((conv => whnf); (first | refine datarr_at hx ?_ | refine datarr_at hy ?_ | refine datarr_at hr ?_ | refine datarr_at hT.h3 ?_ | refine datarr_at hT.h4 ?_ | refine datarr_at (hT.row f hf) ?_ | refine datarr_at (hT.irow f hf) ?_))
  conv => whnf
  refine ck (beq_len hol) ?_
  refine lst_at (inner_at hf) ?_
  repeat ((conv => whnf); (first | refine datarr_at hx ?_ | refine datarr_at hy ?_ | refine datarr_at hr ?_ | refine datarr_at hT.h3 ?_ | refine datarr_at hT.h4 ?_ | refine datarr_at (hT.row f hf) ?_ | refine datarr_at (hT.irow f hf) ?_))
  conv => whnf
  refine ck (and_t (beq_len (by simp)) rfl) ?_
  refine ixl_any (by simp; exact hg) hg ?_
  repeat ((conv => whnf); (first | refine datarr_at hx ?_ | refine datarr_at hy ?_ | refine datarr_at hr ?_ | refine datarr_at hT.h3 ?_ | refine datarr_at hT.h4 ?_ | refine datarr_at (hT.row f hf) ?_ | refine datarr_at (hT.irow f hf) ?_))
  conv => whnf
  refine ck (beq_len (by simp)) ?_
  refine lst_at (inner_at hg) ?_
  refine (rdAhead_c r (VT T f g)).call ?_
  repeat ((conv => whnf); (first | refine datarr_at hx ?_ | refine datarr_at hy ?_ | refine datarr_at hr ?_ | refine datarr_at hT.h3 ?_ | refine datarr_at hT.h4 ?_ | refine datarr_at (hT.row f hf) ?_ | refine datarr_at (hT.irow f hf) ?_))
  conv => whnf
  refine ck (and_t (beq_len hol2) rfl) ?_
  refine ixl_any (by rw [hol2]; exact hf) hf ?_
  repeat ((conv => whnf); (first | refine datarr_at hx ?_ | refine datarr_at hy ?_ | refine datarr_at hr ?_ | refine datarr_at hT.h3 ?_ | refine datarr_at hT.h4 ?_ | refine datarr_at (hT.row f hf) ?_ | refine datarr_at (hT.irow f hf) ?_))
  conv => whnf
  refine ck (beq_len hol2) ?_
  refine lst_at (inner_at hf) ?_
  repeat ((conv => whnf); (first | refine datarr_at hx ?_ | refine datarr_at hy ?_ | refine datarr_at hr ?_ | refine datarr_at hT.h3 ?_ | refine datarr_at hT.h4 ?_ | refine datarr_at (hT.row f hf) ?_ | refine datarr_at (hT.irow f hf) ?_))
  conv => whnf
  refine ck (and_t (beq_len (by simp)) rfl) ?_
  refine ixl_any (by simp; exact hg) hg ?_
  repeat ((conv => whnf); (first | refine datarr_at hx ?_ | refine datarr_at hy ?_ | refine datarr_at hr ?_ | refine datarr_at hT.h3 ?_ | refine datarr_at hT.h4 ?_ | refine datarr_at (hT.row f hf) ?_ | refine datarr_at (hT.irow f hf) ?_))
  conv => whnf
  refine ck (beq_len (by simp)) ?_
  refine lst_at (inner_at hg) ?_
  conv => whnf
  rcases Bool.eq_false_or_eq_true (UT T f g) with hU | hU
  · rw [hU]
    conv => whnf
    have hp : putB T f g r = if rdLt r (VT T f g) then setT T f g r else T := by
      unfold putB
      have hU' : (T f g).isSome = true := hU
      rw [hU']
      rfl
    rw [hp]
    exact AW_rest (c' := restC 6 b9) (AW_has (fun e0 => m9e hT hf hg hx hy hr n1 n2 n3 (rdLt r (VT T f g)) e0) (by exact ⟨rfl, rfl, rfl, rfl, rfl, rfl, rfl, rfl, rfl, rfl, rfl, rfl, rfl, trivial⟩))
  · rw [hU]
    conv => whnf
    have hp : putB T f g r = if true then setT T f g r else T := by
      unfold putB
      have hU' : (T f g).isSome = false := hU
      rw [hU']
      rfl
    rw [hp]
    exact AW_rest (c' := restC 6 b9) (AW_has (fun e0 => m9e hT hf hg hx hy hr n1 n2 n3 true e0) (by exact ⟨rfl, rfl, rfl, rfl, rfl, rfl, rfl, rfl, rfl, rfl, rfl, rfl, rfl, trivial⟩))
theorem Tab.app{V:Int→Int→Rd}{U:Int→Int→Bool}{H:Heap}(h:Tab a b A B V U H)(o:AO):Tab a b A B V U (H++[o]):=by
 have hl:=h.len
 have k:∀{q:Nat} {x:AO},H[q]? =some x→(H++[o])[q]? =some x:=fun{q x} hq=>(List.getElem?_append_left (lt_of_some hq)).trans hq
 exact⟨k h.h0,k h.h1,k h.h2,k h.h3,k h.h4,fun p hp=>k (h.row p hp),fun p hp=>k (h.irow p hp),by simp;omega⟩
theorem tStep_ne{T:Tbl}{f t l c g u m d:Int}(h:l≠m):tStep ⟨f,t,l,c⟩ T ⟨g,u,m,d⟩=T:=by
 funext p q
 unfold tStep stepQ
 simp[h]
theorem tStep_none{T:Tbl}{f t l c g u m d:Int}(h:T t u=none):tStep ⟨f,t,l,c⟩ T ⟨g,u,m,d⟩=T:=by
 funext p q
 unfold tStep stepQ
 simp only[h]
 split
 ·split<;>rfl
 ·rfl
theorem tStep_some{T:Tbl}{f t l c g u d:Int}{w:Rd}(h:T t u=some w):tStep ⟨f,t,l,c⟩ T ⟨g,u,l,d⟩=putB T f g ⟨consT l w.text,c+d+w.cost⟩:=by
 funext p q
 unfold tStep stepQ putB
 simp only[h,beq_self_eq_true,if_true]
 by_cases hpq:p=f∧q=g
 ·obtain⟨rfl,rfl⟩:=hpq
  rw[if_pos ⟨rfl,rfl⟩]
  cases hT:T p q with
  | none=>
   simp only[Option.isSome_none,Bool.not_false,Bool.true_or,if_true]
   unfold setT betterO
   rw[if_pos ⟨rfl,rfl⟩]
  | some v=>
   simp only[Option.isSome_some,Bool.not_true,Bool.false_or,Option.getD_some]
   unfold betterO
   simp only
   split
   ·unfold setT
    rw[if_pos ⟨rfl,rfl⟩]
   ·exact hT.symm
 ·rw[if_neg hpq]
  split
  ·unfold setT
   rw[if_neg hpq]
  ·rfl
theorem put_last{α:Type}(H:List α)(z w:α):(H++[z]).set H.length w=H++[w]:=by simp
theorem m9c {T : Tbl} {H : Heap} (hT : Tab a b A B (VT T) (UT T) H) {f t g u nx ny : Nat} (hf : f < A) (ht : t < A) (hg : g < B) (hu : u < B) {l m c d : Int} (hc : 0 ≤ c ∧ c ≤ 1000000) (hd : 0 ≤ d ∧ d ≤ 1000000) (hl : 0 ≤ l ∧ l < 256) (hS : Small 401 (T t u)) {i k : Int}
    (hx : H[nx]? = some (.arr 205 4 [[di f, di t, du l, di c]])) (hy : H[ny]? = some (.arr 205 4 [[di g, di u, du m, di d]])) (n1 : 5 + 2 * A ≤ nx) (n2 : 5 + 2 * A ≤ ny) (e0 : Nat → D) :
    AW Pg Tryz.f134.ntmps (fun _ => true) 0 (restC 2 b9) (fun ex st => (ex = .normal ∨ ex = .exit 9) ∧ ∃ H', Tab a b A B (VT (tStep ⟨f, t, l, c⟩ T ⟨g, u, m, d⟩)) (UT (tStep ⟨f, t, l, c⟩ T ⟨g, u, m, d⟩)) H' ∧ Has (slM A i k) H' st)
      ⟨dupds e0 (slM A i k ++ [(16, .ptr nx 0 0 1), (17, .ptr ny 0 0 1)]), H⟩ := by
  have hol : ((List.range A).map fun p => [D.sl (5 + 2 * p) 0 B B]).length = A := by simp
  have hol2 : ((List.range A).map fun p => [D.sl (6 + 2 * p) 0 B B]).length = A := by simp
  refine goC 2 [] pl134 ?_
  repeat ((conv => whnf); (first | refine datarr_at hx ?_ | refine datarr_at hy ?_))
  conv => whnf
  by_cases hlm : l = m
  rotate_left
  · rw [show (l != m) = true by simp [hlm]]
    conv => whnf
    rw [tStep_ne hlm]
    refine ⟨.inr rfl, H, hT, has ⟨rfl, rfl, rfl, rfl, rfl, rfl, rfl, rfl, rfl, trivial⟩ rfl⟩
  subst hlm
  rw [show (l != l) = false by simp]
  repeat ((conv => whnf); (first | refine datarr_at hx ?_ | refine datarr_at hy ?_ | refine datarr_at hT.h3 ?_ | refine datarr_at hT.h4 ?_ | refine datarr_at (hT.row t ht) ?_ | refine datarr_at (hT.irow t ht) ?_))
  conv => whnf
  refine ck (and_t (beq_len hol2) rfl) ?_
  refine ixl_any (by rw [hol2]; exact ht) ht ?_
  repeat ((conv => whnf); (first | refine datarr_at hx ?_ | refine datarr_at hy ?_ | refine datarr_at hT.h3 ?_ | refine datarr_at hT.h4 ?_ | refine datarr_at (hT.row t ht) ?_ | refine datarr_at (hT.irow t ht) ?_))
  conv => whnf
  refine ck (beq_len hol2) ?_
  refine lst_at (inner_at ht) ?_
  repeat ((conv => whnf); (first | refine datarr_at hx ?_ | refine datarr_at hy ?_ | refine datarr_at hT.h3 ?_ | refine datarr_at hT.h4 ?_ | refine datarr_at (hT.row t ht) ?_ | refine datarr_at (hT.irow t ht) ?_))
  conv => whnf
  refine ck (and_t (beq_len (by simp)) rfl) ?_
  refine ixl_any (by simp; exact hu) hu ?_
  repeat ((conv => whnf); (first | refine datarr_at hx ?_ | refine datarr_at hy ?_ | refine datarr_at hT.h3 ?_ | refine datarr_at hT.h4 ?_ | refine datarr_at (hT.row t ht) ?_ | refine datarr_at (hT.irow t ht) ?_))
  conv => whnf
  refine ck (beq_len (by simp)) ?_
  refine lst_at (inner_at hu) ?_
  conv => whnf
  cases hw : T t u with
  | none =>
    have hU : UT T t u = false := by unfold UT; rw [hw]; rfl
    rw [hU]
    conv => whnf
    rw [tStep_none hw]
    exact ⟨.inr rfl, H, hT, has ⟨rfl, rfl, rfl, rfl, rfl, rfl, rfl, rfl, rfl, trivial⟩ rfl⟩
  | some w =>
    have hU : UT T t u = true := by unfold UT; rw [hw]; rfl
    rw [hU]
    conv => whnf
    rw [tStep_some hw]
    have hN1 : ∀ {o : AO}, (H ++ [o])[H.length]? = some o := List.getElem?_concat_length
    have hN2 : ∀ {z o : AO}, (H ++ [z] ++ [o])[(H ++ [z]).length]? = some o := List.getElem?_concat_length
    refine AW_fork [] pt134_31 ?_
    repeat ((conv => whnf); (first | refine datarr_at hx ?_ | refine datarr_at hy ?_ | refine datarr_at hT.h3 ?_ | refine datarr_at hT.h4 ?_ | refine datarr_at (hT.row t ht) ?_ | refine datarr_at (hT.irow t ht) ?_))
    conv => whnf
    refine ck (and_t (beq_len hol) rfl) ?_
    refine ixl_any (by rw [hol]; exact ht) ht ?_
    repeat ((conv => whnf); (first | refine datarr_at hx ?_ | refine datarr_at hy ?_ | refine datarr_at hT.h3 ?_ | refine datarr_at hT.h4 ?_ | refine datarr_at (hT.row t ht) ?_ | refine datarr_at (hT.irow t ht) ?_))
    conv => whnf
    refine ck (beq_len hol) ?_
    refine lst_at (inner_at ht) ?_
    repeat ((conv => whnf); (first | refine datarr_at hx ?_ | refine datarr_at hy ?_ | refine datarr_at hT.h3 ?_ | refine datarr_at hT.h4 ?_ | refine datarr_at (hT.row t ht) ?_ | refine datarr_at (hT.irow t ht) ?_))
    conv => whnf
    refine ck (and_t (beq_len (by simp)) rfl) ?_
    refine ixl_any (by simp; exact hu) hu ?_
    repeat ((conv => whnf); (first | refine datarr_at hx ?_ | refine datarr_at hy ?_ | refine datarr_at hT.h3 ?_ | refine datarr_at hT.h4 ?_ | refine datarr_at (hT.row t ht) ?_ | refine datarr_at (hT.irow t ht) ?_))
    conv => whnf
    refine ck (beq_len (by simp)) ?_
    repeat ((conv => whnf); (first | refine datarr_at hx ?_ | refine datarr_at hy ?_ | refine datarr_at hT.h3 ?_ | refine datarr_at hT.h4 ?_ | refine datarr_at (hT.row t ht) ?_ | refine datarr_at (hT.irow t ht) ?_))
    conv => whnf
    refine ck (beq_len (by simp)) ?_
    refine lst_at (inner_at hu) ?_
    repeat ((conv => whnf); (first | refine datarr_at hx ?_ | refine datarr_at hy ?_ | refine datarr_at hT.h3 ?_ | refine datarr_at hT.h4 ?_ | refine datarr_at (hT.row t ht) ?_ | refine datarr_at (hT.irow t ht) ?_))
    conv => whnf
    refine ck (and_t (beq_len hol) rfl) ?_
    refine ixl_any (by rw [hol]; exact ht) ht ?_
    repeat ((conv => whnf); (first | refine datarr_at hx ?_ | refine datarr_at hy ?_ | refine datarr_at hT.h3 ?_ | refine datarr_at hT.h4 ?_ | refine datarr_at (hT.row t ht) ?_ | refine datarr_at (hT.irow t ht) ?_))
    conv => whnf
    refine ck (beq_len hol) ?_
    refine lst_at (inner_at ht) ?_
    repeat ((conv => whnf); (first | refine datarr_at hx ?_ | refine datarr_at hy ?_ | refine datarr_at hT.h3 ?_ | refine datarr_at hT.h4 ?_ | refine datarr_at (hT.row t ht) ?_ | refine datarr_at (hT.irow t ht) ?_))
    conv => whnf
    refine ck (and_t (beq_len (by simp)) rfl) ?_
    refine ixl_any (by simp; exact hu) hu ?_
    repeat ((conv => whnf); (first | refine datarr_at hx ?_ | refine datarr_at hy ?_ | refine datarr_at hT.h3 ?_ | refine datarr_at hT.h4 ?_ | refine datarr_at (hT.row t ht) ?_ | refine datarr_at (hT.irow t ht) ?_))
    conv => whnf
    refine ck (beq_len (by simp)) ?_
    repeat ((conv => whnf); (first | refine datarr_at hx ?_ | refine datarr_at hy ?_ | refine datarr_at hT.h3 ?_ | refine datarr_at hT.h4 ?_ | refine datarr_at (hT.row t ht) ?_ | refine datarr_at (hT.irow t ht) ?_))
    conv => whnf
    refine ck (beq_len (by simp)) ?_
    refine lst_at (inner_at hu) ?_
    repeat ((conv => whnf); (first | refine datarr_at hx ?_ | refine datarr_at hy ?_ | refine datarr_at hT.h3 ?_ | refine datarr_at hT.h4 ?_ | refine datarr_at (hT.row t ht) ?_ | refine datarr_at (hT.irow t ht) ?_))
    conv => whnf
    have hV : VT T t u = w := by unfold VT; rw [hw]; rfl
    have hwS := hS w hw
    have hsz : (strOf [l]).size + w.text.size ≤ 9223372036854775807 := by
      have : (strOf [l]).size = 1 := rfl
      omega
    have hR : (⟨strOf [l] ++ w.text, IntKind.wrap .i64 (IntKind.wrap .i64 (c + d) + w.cost)⟩ : Rd) = ⟨consT l w.text, c + d + w.cost⟩ := by
      rw [wadd (a := c) (b := d) (by omega) (by omega), wadd (a := c + d) (b := w.cost) (by omega) (by omega)]; rfl
    have hlen := hT.len
    rw [← hR]
    have hA := hT.app (.arr 161 2 [rdE ⟨strOf [l] ++ w.text, IntKind.wrap .i64 (IntKind.wrap .i64 (c + d) + w.cost)⟩])
    have ap2 : ∀ {q : Nat} {z : AO}, H[q]? = some z → (H ++ [AO.arr 161 2 [rdE ⟨strOf [l] ++ w.text, IntKind.wrap .i64 (IntKind.wrap .i64 (c + d) + w.cost)⟩]])[q]? = some z := fun {q z} hq => (List.getElem?_append_left (lt_of_some hq)).trans hq
    have hB := ap2 hx
    have hC := ap2 hy
    have hD : (H ++ [AO.arr 161 2 [rdE ⟨strOf [l] ++ w.text, IntKind.wrap .i64 (IntKind.wrap .i64 (c + d) + w.cost)⟩]])[H.length]? = some (.arr 161 2 [rdE ⟨strOf [l] ++ w.text, IntKind.wrap .i64 (IntKind.wrap .i64 (c + d) + w.cost)⟩]) := List.getElem?_concat_length
    refine ⟨?_, ?_⟩
    all_goals
      conv => whnf
      rw [hV]
      refine ck (Nat.ble_eq_true_of_le hsz) ?_
      repeat ((conv => whnf); (first | refine datarr_at hN2 ?_ | refine datarr_at hN1 ?_))
      conv => whnf
      refine ck (and_t rfl pend_l) ?_
      conv => whnf
      refine AW_rest (c' := restC 4 b9) (AW_has (l := slM A i k ++ [(16, .ptr nx 0 0 1), (17, .ptr ny 0 0 1), (18, .ptr H.length 0 0 1)]) (fun e1 => ?_) ?_)
      · dsimp only
        refine AW_mono (m9d (T := T) (nx := nx) (ny := ny) (nr := H.length) (t := t) (u := u) (l := l) (m := l) (c := c) (d := d) (r := ⟨strOf [l] ++ w.text, IntKind.wrap .i64 (IntKind.wrap .i64 (c + d) + w.cost)⟩) ?_ hf hg (i := i) (k := k) ?_ ?_ ?_ n1 n2 (by omega) e1) fun ex st h => ⟨.inl h.1, h.2⟩
        · rw [put_last]
          exact hA
        · rw [put_last]
          exact hB
        · rw [put_last]
          exact hC
        · rw [put_last]
          exact hD
      · exact ⟨rfl, rfl, rfl, rfl, rfl, rfl, rfl, rfl, rfl, rfl, rfl, rfl, trivial⟩
theorem m9 {T : Tbl} {H : Heap} (hT : Tab a b A B (VT T) (UT T) H) {f t g u : Nat} (hf : f < A) (ht : t < A) (hg : g < B) (hu : u < B) {l m c d : Int} (hc : 0 ≤ c ∧ c ≤ 1000000) (hd : 0 ≤ d ∧ d ≤ 1000000) (hl : 0 ≤ l ∧ l < 256) (hS : Small 401 (T t u)) {i k : Nat}
    (hx : a.arcs[i]? = some ⟨f, t, l, c⟩) (hy : b.arcs[k]? = some ⟨g, u, m, d⟩) (e0 : Nat → D) :
    AW Pg Tryz.f134.ntmps (fun _ => true) 0 b9 (fun ex st => (ex = .normal ∨ ex = .exit 9) ∧ ∃ H', Tab a b A B (VT (tStep ⟨f, t, l, c⟩ T ⟨g, u, m, d⟩)) (UT (tStep ⟨f, t, l, c⟩ T ⟨g, u, m, d⟩)) H' ∧ Has (slM A i k) H' st)
      ⟨dupds e0 (slM A i k), H⟩ := by
  have hrx : ixl (a.arcs.map Arc.enc) 0 (a.arcs.map Arc.enc).length (i : Int) = some [di f, di t, du l, di c] := ixl_at (by rw [List.getElem?_map, hx]; rfl)
  have hry : ixl (b.arcs.map Arc.enc) 0 (b.arcs.map Arc.enc).length (k : Int) = some [di g, di u, du m, di d] := ixl_at (by rw [List.getElem?_map, hy]; rfl)
  have hlen := hT.len
  have hN : ∀ {o : AO}, (H ++ [o])[H.length]? = some o := List.getElem?_concat_length
  have k1 : ∀ {z w : AO}, ((H ++ [z]).set H.length w)[1]? = some (.arr 75 3 [b.enc]) := fun {z w} => by rw [put_last]; exact (hT.app w).h1
  have hN2 : ∀ {z w o : AO}, ((H ++ [z]).set H.length w ++ [o])[((H ++ [z]).set H.length w).length]? = some o := List.getElem?_concat_length
  refine goC 2 [] pl134 ?_
  repeat ((conv => whnf); (first | refine datarr_at hT.h0 ?_ | refine lst_at hrx ?_ | refine lst_at hry ?_ | refine datarr_at hN ?_ | refine datarr_at k1 ?_ | refine datarr_at hN2 ?_))
  conv => whnf
  have hT1 := (hT.app (.arr 205 4 [[di f, di t, du l, di c]]))
  have hT2 := hT1.app (.arr 205 4 [[di g, di u, du m, di d]])
  have hX : (H ++ [AO.arr 205 4 [[di f, di t, du l, di c]]] ++ [AO.arr 205 4 [[di g, di u, du m, di d]]])[H.length]? = some (.arr 205 4 [[di f, di t, du l, di c]]) := by
    rw [List.getElem?_append_left (by simp)]
    exact List.getElem?_concat_length
  have hY : (H ++ [AO.arr 205 4 [[di f, di t, du l, di c]]] ++ [AO.arr 205 4 [[di g, di u, du m, di d]]])[H.length + 1]? = some (.arr 205 4 [[di g, di u, du m, di d]]) := by
    have : H.length + 1 = (H ++ [AO.arr 205 4 [[di f, di t, du l, di c]]]).length := by simp
    rw [this]
    exact List.getElem?_concat_length
  refine AW_rest (c' := restC 2 b9) (AW_has (l := slM A i k ++ [(16, .ptr H.length 0 0 1), (17, .ptr (H.length + 1) 0 0 1)]) (fun e1 => ?_) ?_)
  · refine AW_mono (m9c (T := T) (nx := H.length) (ny := H.length + 1) ?_ hf ht hg hu hc hd hl hS (i := i) (k := k) ?_ ?_ (by omega) (by omega) e1) fun ex st h => h
    · rw [put_last, put_last]
      exact hT2
    · rw [put_last, put_last]
      exact hX
    · rw [put_last, put_last]
      exact hY
  · exact ⟨rfl, rfl, rfl, rfl, rfl, rfl, rfl, rfl, rfl, rfl, congrArg (fun n => D.ptr n 0 0 1) (by simp), trivial⟩
end
end Go.Proofs.YtpndfdfipkadkaaGreatDoor
