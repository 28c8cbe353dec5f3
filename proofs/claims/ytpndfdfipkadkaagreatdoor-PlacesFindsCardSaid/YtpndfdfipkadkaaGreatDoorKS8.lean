/- The law holds: part 218. Conditions: none. -/
import Derived.Test.YtpndfdfipkadkaaGreatDoorKS7
set_option linter.all false
set_option maxRecDepth 100000
namespace Go.Proofs.YtpndfdfipkadkaaGreatDoor
open Go Go.Wx Go.Ax
structure Ev where
 day:Int
 kind:Int
 place:Int
 other:Int
 name:ByteArray
def Ev.enc(e:Ev):List D:=[di e.day,du e.kind,di e.place,di e.other,ds' e.name]
theorem pdEv:∀u:Ev,PdL u.enc:=fun _=> .cons (.v _) (.cons (.v _) (.cons (.v _) (.cons (.v _) (.cons (.v _) .nil))))
def modP(s:List Pl)(p:Int)(f:Pl→Pl):List Pl:=match s with
 |[]=>[]
 | x::r=>if x.id==p then f x::r else x::modP r p f
def foundP(e:Ev):Pl:=⟨e.place,e.other,0,true,[newT e.name e.day]⟩
def afterL(s:List Pl)(e:Ev):List Pl:=
 if e.kind==1 then s++[foundP e]
 else if e.kind==2 then modP s e.place fun x=>{x with uses:=renL x.uses e.name e.day}
 else if e.kind==3 then modP s e.place fun x=>{x with parent:=e.other}
 else if e.kind==4 then
  (modP (modP s e.other fun y=>{y with uses:=mergedL y.uses ((get s e.place).elim [] (·.uses)) e.day}) e.place fun x=>{x with uses:=capT e.day x.uses,ex:=false,into:=e.other}).map
   fun n=>if n.parent==e.place then{n with parent:=e.other}else n
 else if e.kind==5 then modP s e.place fun x=>{x with uses:=x.uses++[newA e.name e.day]}
 else s
theorem modP_idx'{p:Int}(f:Pl→Pl):∀{s:List Pl} {i:Nat} (hi:i<s.length),s.findIdx? (fun x=>x.id==p)=some i→modP s p f=s.set i (f s[i])
 |[],_,hi,_=>absurd hi (by simp)
 | x::r,i,hi,hf=>by
  rw[List.findIdx?_cons]at hf
  by_cases hx:x.id==p
  ·rw[if_pos hx]at hf
   cases hf
   simp[modP,hx]
  ·rw[if_neg hx]at hf
   cases hr:r.findIdx? (fun x=>x.id==p)with
   | none=>rw[hr]at hf;cases hf
   | some k=>
    rw[hr]at hf
    cases hf
    have hk:k<r.length:=by simpa using hi
    simp only[modP,if_neg hx]
    rw[modP_idx' f hk hr]
    simp
theorem modP_idx{s:List Pl}{p:Int}{i:Nat}(h:idx (fun x=>x.id==p) s=i)(hi:i<s.length)(f:Pl→Pl):modP s p f=s.set i (f s[i]):=by
 unfold idx at h
 cases hf:s.findIdx? (fun x=>x.id==p)with
 | none=>rw[hf]at h;simp at h
 | some j=>
  rw[hf]at h
  have hj:(j:Int)=i:=h
  obtain rfl:j=i:=by omega
  exact modP_idx' f hi hf
theorem idx_set{s:List Pl}{p:Int}{k:Nat}(hk:k<s.length){x:Pl}(hx:x.id=s[k].id):idx (fun x=>x.id==p) (s.set k x)=idx (fun x=>x.id==p) s:=by
 have hm:∀s:List Pl,idx (fun x=>x.id==p) s=idx (· ==p) (s.map (·.id)):=fun s=>by
  unfold idx
  rw[List.findIdx?_map]
  rfl
 have he:(s.set k x).map (·.id)=s.map (·.id):=by
  rw[List.map_set,hx]
  apply List.ext_getElem (by simp)
  intro j h1 h2
  rw[List.getElem_set]
  split
  ·rename_i h;subst h;simp
  ·rfl
 rw[hm,hm,he]
theorem re_get{α:Type}{s:List α}{n:Nat}{f:α→α}(h:n<s.length):((s.take n).map f++s.drop n)[n]? =some s[n]:=by
 have hl:((s.take n).map f).length=n:=by simp;omega
 rw[List.getElem?_append_right (by rw[hl];exact Nat.le_refl _),hl,Nat.sub_self,List.drop_eq_getElem_cons h]
 rfl
theorem re_set{α:Type}{s:List α}{n:Nat}{f:α→α}(h:n<s.length):((s.take n).map f++s.drop n).set n (f s[n])=(s.take (n+1)).map f++s.drop (n+1):=by
 have hl:((s.take n).map f).length=n:=by simp;omega
 rw[List.set_append_right _ _ (by rw[hl];exact Nat.le_refl _),hl,Nat.sub_self,List.drop_eq_getElem_cons h,List.set_cons_zero,List.take_succ_eq_append_getElem h,List.map_append,List.append_assoc]
 rfl
theorem re_same{α:Type}{s:List α}{n:Nat}{f:α→α}(h:n<s.length)(hf:f s[n]=s[n]):(s.take n).map f++s.drop n=(s.take (n+1)).map f++s.drop (n+1):=by
 rw[List.drop_eq_getElem_cons h,List.take_succ_eq_append_getElem h,List.map_append,List.append_assoc,List.map_singleton,hf]
 rfl
def reParent(e:Ev)(n:Pl):Pl:=if n.parent==e.place then⟨n.id,e.other,n.into,n.ex,n.uses⟩else n
theorem after_merge {s : List Pl} {e : Ev} {i k : Nat} (h4 : e.kind = 4) (hi1 : idx (fun x => x.id == e.place) s = i) (hi : i < s.length) (hi2 : get s e.place = some s[i]) (hk1 : idx (fun x => x.id == e.other) s = k) (hk : k < s.length) (hki : k ≠ i) :
    afterL s e = ((s.set k ⟨s[k].id, s[k].parent, s[k].into, s[k].ex, mergedL s[k].uses s[i].uses e.day⟩).set i ⟨s[i].id, s[i].parent, e.other, false, capT e.day s[i].uses⟩).map (reParent e) := by
  unfold afterL
  rw [if_neg (by simp [h4]), if_neg (by simp [h4]), if_neg (by simp [h4]), if_pos (by simp [h4]), hi2, modP_idx hk1 hk]
  simp only [Option.elim_some]
  rw [modP_idx (i := i) ((idx_set (x := ⟨s[k].id, s[k].parent, s[k].into, s[k].ex, mergedL s[k].uses s[i].uses e.day⟩) hk rfl).trans hi1) (by simpa using hi)]
  rw [List.getElem_set_ne hki]
  rfl
def evOk(s:List Pl)(e:Ev):Prop:=0≤e.day∧e.day≤100000∧s.length≤1000∧(∀x∈s,x.uses.length≤1000)∧
 (e.kind=2∨e.kind=3∨e.kind=4∨e.kind=5→get s e.place≠none)∧(e.kind=4→get s e.other≠none∧e.other≠e.place)
def pl103:Plan:=[(8,[.p 0,.p 1,.p 2,.p 3,.p 4,.p 5,.l 6,.p 7,.l 8,.p 9,.l 10,.e 11,.p 12,.p 13,.e 14]),(12,[.p 0,.p 1,.p 2,.p 3,.l 4,.p 5,.p 6,.p 7,.p 8,.l 9,.p 10,.l 11,.e 12,.p 13,.p 14,.p 15,.p 16,.p 17]),(20,[.p 0,.p 1,.p 2,.p 3,.l 4,.p 5,.l 6,.p 7])]
def pt103_23:Tre:=(.p 0 (.p 1 (.p 3 (.p 4 (.p 5 (.p 6 (.l 7 (.p 9 (.l 10 (.p 11 (.l 12 (.p 13 (.fork (.e 2 (.fork (.e 8 (.e 14 (.e 15 (.p 16 (.p 17 (.e 18 .done)))))) (.e 14 (.e 8 (.e 15 (.p 16 (.p 17 (.e 18 .done)))))))) (.e 14 (.e 2 (.e 8 (.e 15 (.p 16 (.p 17 (.e 18 .done))))))))))))))))))))
theorem after_c (s : List Pl) (e : Ev) (h : evOk s e) : Pur Pg 103 [rows Pl.enc s, .agg e.enc] (rows Pl.enc (afterL s e)) := by
  obtain ⟨hd0, hd1, hsl, hul, hg1, hg2⟩ := h
  refine fn Tryz.func103 [] pl103 (.cons (pd_rows pdPl s) (.cons (.agg (pdEv e)) .nil)) ?_
  refine push0 (fun _ => rfl) (by omega) ?_
  refine (at_c s e.place).call ?_
  refine (at_c s e.other).call ?_
  refine if_ (fun h1 => ?_) fun h1 => if_ (fun h2 => ?_) fun h2 => if_ (fun h3 => ?_) fun h3 => if_ (fun h4 => ?_) fun h4 => if_ (fun h5 => ?_) fun h5 => ?_
  · refine push (by simp) (by simp; omega) ?_
    have ha : afterL s e = s ++ [foundP e] := by rw [afterL, if_pos h1]
    rw [ha]
    refine frz_rowsF (T := 139) (sz := 5) rfl (by simp) (by simp) (by simp) (fun _ => rfl) fun i x y hx hy => ?_
    rcases Nat.lt_or_ge i s.length with hi | hi
    · rw [List.getElem?_append_left hi] at hy
      rw [List.getElem?_append_left (by simpa using hi), List.getElem?_map, hy] at hx
      cases hx
      exact .refl (pdPl y)
    · rw [List.getElem?_append_right hi] at hy
      rw [List.getElem?_append_right (by simpa using hi)] at hx
      obtain ⟨h6, rfl⟩ : i - s.length = 0 ∧ y = foundP e := by
        cases hk : i - s.length with
        | zero => rw [hk] at hy; simp at hy; exact ⟨rfl, hy.symm⟩
        | succ k => rw [hk] at hy; simp at hy
      rw [List.length_map, h6] at hx
      cases hx
      exact .v (.v (.v (.v (.cons (.row fun l hl d hd => by rw [List.mem_singleton] at hl; subst hl; exact pdUse (newT e.name e.day) d hd) .nil))))
  · obtain ⟨i, hi1, hi, hi2⟩ := (get_idx (s := s) (p := e.place)).resolve_left fun h => hg1 (by simp at h2; omega) h.2
    rw [hi1]
    refine row_at hi ?_
    refine (renamed_c s[i].uses e.name e.day (by have := hul _ (List.getElem_mem hi); omega) ⟨hd0, hd1⟩).call ?_
    refine ck rfl ?_
    refine ck (and_t (Nat.beq_refl _) rfl) ?_
    refine row_at hi ?_
    refine ck (Nat.beq_refl _) (ck (Nat.beq_refl _) (nth_at hi ?_))
    have ha : afterL s e = s.set i { s[i] with uses := renL s[i].uses e.name e.day } := by
      rw [afterL, if_neg (by simpa using h1), if_pos h2, modP_idx hi1 hi]
    refine frz_rows (T := 139) (sz := 5) (xs := afterL s e) ?_ (by simp [ha]) (by simp [ha]) pdPl fun _ => rfl
    rw [ha, List.map_set]
    exact congrArg (fun k => some (AO.arr 139 5 ((List.map Pl.enc s).set k (Pl.enc { s[i] with uses := renL s[i].uses e.name e.day })))) (Nat.zero_add i)
  · obtain ⟨i, hi1, hi, hi2⟩ := (get_idx (s := s) (p := e.place)).resolve_left fun h => hg1 (by simp at h3; omega) h.2
    rw [hi1]
    refine ck (and_t (Nat.beq_refl _) rfl) ?_
    refine row_at hi ?_
    refine ck rfl ?_
    refine ck (beq_len rfl) ?_
    refine ck rfl ?_
    refine ck (beq_len rfl) ?_
    refine nth_at hi ?_
    have ha : afterL s e = s.set i { s[i] with parent := e.other } := by
      rw [afterL, if_neg (by simpa using h1), if_neg (by simpa using h2), if_pos h3, modP_idx hi1 hi]
    refine frz_rows (T := 139) (sz := 5) (xs := afterL s e) ?_ (by simp [ha]) (by simp [ha]) pdPl fun _ => rfl
    rw [ha, List.map_set]
    exact congrArg (fun k => some (AO.arr 139 5 ((List.map Pl.enc s).set k (Pl.enc { s[i] with parent := e.other })))) (Nat.zero_add i)
  · obtain ⟨i, hi1, hi, hi2⟩ := (get_idx (s := s) (p := e.place)).resolve_left fun h => hg1 (by simp at h4; omega) h.2
    obtain ⟨hg3, hne⟩ := hg2 (by simpa using h4)
    obtain ⟨k, hk1, hk, hk2⟩ := (get_idx (s := s) (p := e.other)).resolve_left fun h => hg3 h.2
    have hki : k ≠ i := fun h => by
      subst h
      have g1 := List.find?_some hk2
      have g2 := List.find?_some hi2
      simp at g1 g2
      exact hne (g1.symm.trans g2)
    rw [hi1, hk1]
    have hu := hul _ (List.getElem_mem hi)
    have huk := hul _ (List.getElem_mem hk)
    refine row_at hk ?_
    refine row_at hi ?_
    refine (merged_c s[k].uses s[i].uses e.day (by omega) (by omega)).call ?_
    refine ck rfl ?_
    refine ck (and_t (Nat.beq_refl _) rfl) ?_
    refine row_at hk ?_
    refine ck rfl ?_
    refine ck (beq_len rfl) ?_
    refine ck rfl ?_
    refine ck (beq_len rfl) ?_
    refine nth_at hk ?_
    refine ck (and_t (beq_len (by rw [List.length_set])) rfl) ?_
    refine ixl_any (by rw [List.length_set]; simpa using hi) (by simpa using hi) ?_
    refine ck rfl ?_
    refine ck (beq_len (by rw [List.length_set])) ?_
    refine ck rfl ?_
    refine ck (beq_len (by rw [List.length_set])) ?_
    refine nth_ne (by simpa using hki) (ds := s[i].enc) (by simp [hi]) ?_
    refine ck (and_t (beq_len (by simp only [List.length_set])) rfl) ?_
    refine ixl_any (by simp only [List.length_set]; simpa using hi) (by simpa using hi) ?_
    refine ck rfl ?_
    refine ck (beq_len (by simp only [List.length_set])) ?_
    refine ck rfl ?_
    refine ck (beq_len (by simp only [List.length_set])) ?_
    refine nth_eq rfl (by simp only [List.length_set]; simpa using hi) ?_
    refine ck (and_t (beq_len (by simp only [List.length_set])) rfl) ?_
    refine ixl_any (by simp only [List.length_set]; simpa using hi) (by simpa using hi) ?_
    refine ck rfl ?_
    refine ck (beq_len (by simp only [List.length_set])) ?_
    refine ck rfl ?_
    refine ck (beq_len (by simp only [List.length_set])) ?_
    refine nth_eq rfl (by simp only [List.length_set]; simpa using hi) ?_
    obtain ⟨s2, hs2⟩ : ∃ s2 : List Pl, s2 = (s.set k ⟨s[k].id, s[k].parent, s[k].into, s[k].ex, mergedL s[k].uses s[i].uses e.day⟩).set i ⟨s[i].id, s[i].parent, e.other, false, capT e.day s[i].uses⟩ := ⟨_, rfl⟩
    have h2l : s2.length = s.length := by rw [hs2]; simp
    have ha : afterL s e = s2.map (reParent e) := by rw [hs2]; exact after_merge (by simpa using h4) hi1 hi hi2 hk1 hk hki
    refine AW_idx s.length (fun n st => ∃ t xs, t = (s2.take n).map (reParent e) ++ s2.drop n ∧ xs = t.map Pl.enc ∧ Has [(3, .ptr 0 0 0 1), (5, .sl 1 0 (s.map Pl.enc).length (s.map Pl.enc).length), (10, di n)] [.arr 23 5 [e.enc], .arr 139 5 xs] st) ⟨s2, _, by simp, ?_, has ⟨rfl, rfl, rfl, trivial⟩ rfl⟩ ?_
    · show ((((s.map Pl.enc).set (0 + k) (Pl.enc ⟨s[k].id, s[k].parent, s[k].into, s[k].ex, mergedL s[k].uses s[i].uses e.day⟩)).set (0 + i) (Pl.enc ⟨s[i].id, s[i].parent, s[i].into, s[i].ex, capT e.day s[i].uses⟩)).set (0 + i) (Pl.enc ⟨s[i].id, s[i].parent, s[i].into, false, capT e.day s[i].uses⟩)).set (0 + i) (Pl.enc ⟨s[i].id, s[i].parent, e.other, false, capT e.day s[i].uses⟩) = _
      rw [hs2]
      simp only [Nat.zero_add, List.set_set, List.map_set]
    rintro n _ _ ⟨t, xs, ht, rfl, e0, rfl⟩
    have htl : t.length = s.length := by rw [ht]; simp; omega
    refine go [] pl103 (if_ (fun hlt => ?_) (fun hlt => ?_))
    · have hlt : n < t.length := by simp at hlt; omega
      refine ck (and_t (beq_len (by simp [htl])) rfl) ?_
      refine ixl_any (by simpa using hlt) (by simp; omega) ?_
      refine ck (beq_len (by simp [htl])) ?_
      refine ck (beq_len (by simp [htl])) ?_
      refine nth_at hlt ?_
      have hn2 : n < s2.length := by omega
      have htn : t[n] = s2[n] := by
        have := re_get (f := reParent e) hn2
        rw [← ht, List.getElem?_eq_getElem hlt] at this
        exact Option.some.inj this
      refine if_ (fun h6 => ?_) (fun h6 => ?_)
      · refine ck (and_t (beq_len (by simp [htl])) rfl) ?_
        refine ixl_any (by simpa using hlt) (by simp; omega) ?_
        refine ck rfl ?_
        refine ck (beq_len (by simp [htl])) ?_
        refine ck rfl ?_
        refine ck (beq_len (by simp [htl])) ?_
        refine nth_at hlt ?_
        refine ⟨by omega, t.set n (reParent e s2[n]), _, by rw [ht]; exact re_set hn2, ?_, has ⟨rfl, rfl, inc (by omega) (N := s.length) (by simp only [maxLen]; omega), trivial⟩ rfl⟩
        have h7 : reParent e s2[n] = ⟨t[n].id, e.other, t[n].into, t[n].ex, t[n].uses⟩ := by rw [← htn, reParent, if_pos h6]
        rw [h7, List.map_set]
        exact congrArg (fun k => (List.map Pl.enc t).set k (Pl.enc ⟨t[n].id, e.other, t[n].into, t[n].ex, t[n].uses⟩)) (Nat.zero_add n)
      · refine ⟨by omega, t, _, ?_, rfl, has ⟨rfl, rfl, inc (by omega) (N := s.length) (by simp only [maxLen]; omega), trivial⟩ rfl⟩
        rw [ht]
        exact re_same hn2 (by rw [← htn, reParent, if_neg (by simpa using h6)])
    · have hlt : s.length ≤ n := by simp at hlt; omega
      rw [ha]
      have : t = s2.map (reParent e) := by rw [ht, List.take_of_length_le (by omega), List.drop_of_length_le (by omega), List.append_nil]
      rw [this]
      exact frz_rows (T := 139) (sz := 5) (xs := s2.map (reParent e)) rfl (by simp; omega) (by simp; omega) pdPl fun _ => rfl
  · obtain ⟨i, hi1, hi, hi2⟩ := (get_idx (s := s) (p := e.place)).resolve_left fun h => hg1 (by simp at h5; omega) h.2
    rw [hi1]
    have hu := hul _ (List.getElem_mem hi)
    have ha : afterL s e = s.set i { s[i] with uses := s[i].uses ++ [newA e.name e.day] } := by
      rw [afterL, if_neg (by simpa using h1), if_neg (by simpa using h2), if_neg (by simpa using h3), if_neg (by simpa using h4), if_pos h5, modP_idx hi1 hi]
    refine AW_fork [] pt103_23 ?_
    refine row_at hi ?_
    have fin : ∀ (H : Heap) (b b' : Nat) (T : Nat), H[b]? = some (.arr 139 5 ((s.map Pl.enc).set (0 + i) [di s[i].id, di s[i].parent, di s[i].into, db s[i].ex, .sl b' 0 ((s[i].uses.map Use.enc).length + 1) ((s[i].uses.map Use.enc).length + 1)])) → H[b']? = some (.arr T 4 (s[i].uses.map Use.enc ++ [(newA e.name e.day).enc])) →
        Frz H (.sl b 0 (s.map Pl.enc).length (s.map Pl.enc).length) (rows Pl.enc (afterL s e)) := fun H b b' T hb hb' => by
      rw [ha]
      refine frz_rowsF hb (by simp) (by simp) (by simp) (fun _ => rfl) fun j x y hx hy => ?_
      rw [Nat.zero_add] at hx
      by_cases hj : j = i
      · subst hj
        rw [List.getElem?_set_self (by simpa using hi)] at hx
        rw [List.getElem?_set_self hi] at hy
        cases hx
        cases hy
        refine .v (.v (.v (.v (.cons (frz_rows (T := T) (sz := 4) ?_ (by simp) (by simp) pdUse fun _ => rfl) .nil))))
        rw [hb', List.map_append]
        rfl
      · rw [List.getElem?_set_ne (Ne.symm hj), List.getElem?_map] at hx
        rw [List.getElem?_set_ne (Ne.symm hj)] at hy
        rw [hy] at hx
        cases hx
        exact .refl (pdPl y)
    refine And.intro (And.intro ?_ ?_) ?_
    all_goals
      refine push0 (l := s[i].uses) (fun _ => rfl) (by omega) ?_
      refine push (by simp) (by simp; omega) ?_
      refine ck rfl ?_
      refine ck (and_t (Nat.beq_refl _) rfl) ?_
      refine row_at hi ?_
      refine ck (beq_len rfl) ?_
      refine ck (beq_len rfl) ?_
      refine nth_at hi ?_
      exact fin _ 1 2 142 rfl rfl
  · have ha : afterL s e = s := by rw [afterL, if_neg (by simpa using h1), if_neg (by simpa using h2), if_neg (by simpa using h3), if_neg (by simpa using h4), if_neg (by simpa using h5)]
    rw [ha]
    refine frz_rows (T := 139) (sz := 5) (xs := s) rfl (by simp) (by simp) pdPl fun _ => rfl
end Go.Proofs.YtpndfdfipkadkaaGreatDoor
