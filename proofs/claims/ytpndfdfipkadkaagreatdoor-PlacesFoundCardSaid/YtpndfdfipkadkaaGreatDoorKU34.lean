/- The law holds: part 366. Conditions: none. -/
import Derived.Test.YtpndfdfipkadkaaGreatDoorKU33
set_option linter.all false
set_option maxRecDepth 100000
namespace Go.Proofs.YtpndfdfipkadkaaGreatDoor
open Go Go.Wx Go.Ax
end Go.Proofs.YtpndfdfipkadkaaGreatDoor
set_option maxRecDepth 100000
namespace Go.Proofs.YtpndfdfipkadkaaGreatDoor
open Go Go.Wx Go.Ax
def gazAt(v:Nat)(l:List Ev):AO:= .arr 126 1 [[.sl v 0 l.length l.length]]
def grown(l:List Ev)(e:Ev):List Ev:=if addE l e==0 then l++[e]else l
theorem rel_enc{α:Type}{enc:α→List D}(he:∀x,PdL (enc x))(j:Nat→Nat)(l:List α):(l.map enc).map (fun x=>x.map (rel j))=l.map enc:=by
 rw[List.map_map]
 refine List.map_congr_left fun x _=>?_
 show(enc x).map (rel j)=enc x
 conv=>rhs;rw[←List.map_id (enc x)]
 exact List.map_congr_left fun d hd=>rel_pd (he x d hd)
theorem rel_ev(j:Nat→Nat)(e:Ev):rel j (.agg e.enc)= .agg e.enc:=rel_pd (.agg (pdEv e))
theorem addAt_c (l : List Ev) (e : Ev) (ha : Acc l) {H : Heap} {g v : Nat} (hg : H[g]? = some (gazAt v l)) (hv : H[v]? = some (evsM l)) (hgv : g ≠ v) :
    AC Pg 31 [.ptr g 0 0 1, .agg e.enc] H fun d H' ms => d = di (addE l e) ∧ H' = (H.set g (gazAt v (grown l e))).set v (evsM (grown l e)) ∧ ms = [g, v] := by
  have hgl := lt_of_some hg
  have hvl := lt_of_some hv
  have hj0 : ∀ l' : List Ev, ∀ H' : Heap, H'[g]? = some (gazAt v l') → H'[v]? = some (evsM l') → Emb (fun b => if b = 0 then g else v) [gazM l', evsM l'] H' := fun l' H' h1 h2 => by
    refine ⟨fun b hb => ?_, fun b b' hb hb' he => ?_, fun b o ho => ?_⟩
    · by_cases h : b = 0
      · simp only [h, if_true]; exact lt_of_some h1
      · simp only [h, if_false]; exact lt_of_some h2
    · simp at hb hb'
      by_cases h : b = 0 <;> by_cases h' : b' = 0
      · omega
      · simp [h, h'] at he; exact absurd he hgv
      · simp [h, h'] at he; exact absurd he.symm hgv
      · omega
    · match b, ho with
      | 0, ho =>
        cases ho
        have : relO (fun b => if b = 0 then g else v) (gazM l') = gazAt v l' := by simp [relO, gazM, gazAt, rel]
        rw [this]; exact h1
      | 1, ho =>
        cases ho
        have : relO (fun b => if b = 0 then g else v) (evsM l') = evsM l' := congrArg (AO.arr 23 5) (rel_enc pdEv _ l')
        rw [this]; exact h2
      | b + 2, ho => simp at ho
  have hO : ∀ l' : List Ev, ∀ o ∈ [gazM l', evsM l'], BlO 2 o := fun l' o ho => by
    simp at ho
    rcases ho with rfl | rfl
    · intro y hy d hd
      rw [List.mem_singleton] at hy
      subst hy
      rw [List.mem_singleton] at hd
      subst hd
      exact .sl (by simp)
    · exact BlO.enc pdEv
  have hfr := AC.frame (hj0 l H hg hv) (args := [.ptr 0 0 0 1, .agg e.enc]) (fun d hd => by
    simp at hd
    rcases hd with rfl | rfl
    · exact .ptr (by simp)
    · exact .pd (.agg (pdEv e))) (hO l) (R := fun d H' ms => d = di (addE l e) ∧ H' = [gazM (grown l e), evsM (grown l e)] ∧ ms = [0, 1]) (fun d H0 ms ⟨h1, h2, h3⟩ => by
      subst h1; subst h2; subst h3
      exact ⟨rfl, .pd (.v _), hO _, fun b hb => by simp at hb ⊢; omega⟩) (addP_c l e ha)
  refine AC.mono (AC.via hfr (by rw [List.map_cons, List.map_cons, List.map_nil, rel_ev]; simp [rel])) ?_
  rintro d H' ms ⟨d0, H0, ms0, ⟨rfl, rfl, rfl⟩, rfl, rfl, rfl⟩
  refine ⟨rel_pd (.v _), ?_, rfl⟩
  refine backH_eq (hj0 (grown l e) _ ?_ ?_) (by simp) fun c hc => ?_
  · exact (List.getElem?_set_ne hgv.symm).trans (List.getElem?_set_self hgl)
  · exact List.getElem?_set_self (by simpa using hvl)
  · have h0 := hc 0 (by simp)
    have h1 := hc 1 (by simp)
    exact (List.getElem?_set_ne h1).trans (List.getElem?_set_ne h0)
end Go.Proofs.YtpndfdfipkadkaaGreatDoor
