/- The law holds: part 37. Conditions: none. -/
import Derived.Test.YtpndfdfipkadkaaGreatDoorKP36
set_option linter.all false
set_option maxRecDepth 100000
namespace Go.Proofs.YtpndfdfipkadkaaGreatDoor
open Go Go.Wx Go.Ax
def comP (s : List Pl) (a b : Int) : Int := if hereB s a && hereB s b then ((a :: pth s a).find? fun q => cont s q b).getD 0 else 0
theorem comP_prg (s : List Pl) (a b : Int) : comP (prg s) a b = comP s a b := by
  unfold comP
  rw [here_prg, here_prg, pth_prg]
  have : (fun q => cont (prg s) q b) = fun q => cont s q b := funext fun q => cont_prg s q b
  rw [this]
theorem find_at : ∀ {C : List Int} {p : Int → Bool} {i : Nat} (hi : i < C.length), (∀ x ∈ C.take i, p x = false) → p C[i] = true → C.find? p = some C[i]
  | c :: C, p, 0, _, _, h2 => by simp at h2; simp [h2]
  | c :: C, p, i + 1, hi, h1, h2 => by
    have hc : p c = false := h1 c (by simp)
    rw [List.find?_cons, hc]
    simp only [List.getElem_cons_succ]
    exact find_at (by simpa using hi) (fun x hx => h1 x (by simp [hx])) (by simpa using h2)
theorem common_c (t : List Pl) (l : List Ev) (a b day : Int) (hon : Pur Pg 91 [refG l, di day] (stD t)) (hst : StOk t) : Pur Pg 42 [refG l, di a, di b, di day] (di (comP t a b)) := by
  refine fn Tryz.func42 [26] [] (.cons (pd_refG l) (.cons (.v _) (.cons (.v _) (.cons (.v _) .nil)))) ?_
  refine hon.call ?_
  refine (exists_c t a).call ?_
  refine if_ (fun h1 => ?_) fun h1 => ?_
  · exact frzi (by have : hereB t a = false := by simpa using h1
                   rw [comP, this]; rfl)
  refine (exists_c t b).call ?_
  refine if_ (fun h2 => ?_) fun h2 => ?_
  · exact frzi (by have : hereB t b = false := by simpa using h2
                   rw [comP, this, Bool.and_false]; rfl)
  have ha : hereB t a = true := by simpa using h1
  have hb : hereB t b = true := by simpa using h2
  have hcp : comP t a b = ((a :: pth t a).find? fun q => cont t q b).getD 0 := by rw [comP, ha, hb]; rfl
  have hpl : (pth t a).length ≤ t.length := (hst.fin.pth hst.par a).2
  have htl := hst.len
  refine (hst.path_c a).call ?_
  conv => whnf
  refine ck (and_t (enc_all fun _ => rfl) rfl) ?_
  conv => whnf
  refine ck (bnd_ok (by simp; omega) (by decide)) ?_
  conv => whnf
  have hlen : 1 + ((pth t a).map ienc).length = (a :: pth t a).length := by simp; omega
  refine AW_idx (a :: pth t a).length (fun i st => (∀ x ∈ (a :: pth t a).take i, cont t x b = false) ∧ Has [(2, di b), (9, stD t), (30, .sl 0 0 (a :: pth t a).length (a :: pth t a).length), (31, di (a :: pth t a).length), (32, di i)] [.arr 3 1 ((a :: pth t a).map ienc)] st) ⟨by simp, has ⟨rfl, rfl, congrArg (fun n => D.sl 0 0 n n) hlen, congrArg (fun n : Nat => di n) hlen, rfl, trivial⟩ rfl⟩ ?_
  generalize hC : a :: pth t a = C
  have hCl : C.length ≤ 200000 := by rw [← hC]; simp; omega
  rintro i _ hi ⟨h, e, rfl⟩
  refine go [] [] (if_ (fun hlt => ?_) (fun hlt => ?_))
  · simp at hlt
    refine ck (and_t (by simp) rfl) ?_
    refine ixl_any (by simpa using hlt) hlt ?_
    repeat ((conv => whnf); (first | refine ck (beq_len (by simp)) ?_ | refine nth_at hlt ?_))
    refine (contP_c t C[i] b hst).call ?_
    refine if_ (fun hc => ?_) fun hc => ?_
    · exact frzi (by rw [hcp, hC, find_at (p := fun q => cont t q b) hlt h hc]; rfl)
    · exact ⟨hlt, take_succ hlt h hc, has ⟨rfl, rfl, rfl, rfl, inc hlt (by simp only [maxLen]; omega), trivial⟩ rfl⟩
  · simp at hlt
    rw [List.take_of_length_le hlt] at h
    exact frzi (by rw [hcp, hC, List.find?_eq_none.2 fun x hx => by rw [h x hx]; simp]; rfl)
theorem com_spec (s : List Pl) (a b : Int) : ∀ (l : List Pl) (v w : Int), w ≤ (l.foldl (comStep s a b) (v, w)).2 ∧ (∀ x ∈ l, cont s x.id a = true → cont s x.id b = true → ((pth s x.id).length : Int) ≤ (l.foldl (comStep s a b) (v, w)).2) ∧
    (l.foldl (comStep s a b) (v, w) = (v, w) ∨ ∃ x ∈ l, cont s x.id a = true ∧ cont s x.id b = true ∧ l.foldl (comStep s a b) (v, w) = (x.id, ((pth s x.id).length : Int)))
  | [], v, w => ⟨Int.le_refl _, fun _ h => (nomatch h), .inl rfl⟩
  | x :: l, v, w => by
    rw [List.foldl_cons]
    unfold comStep
    by_cases h : (cont s x.id a && (cont s x.id b && decide (((pth s x.id).length : Int) > (v, w).2))) = true
    · rw [if_pos h]
      simp only [Bool.and_eq_true, decide_eq_true_eq] at h
      obtain ⟨h1, h2, h3⟩ := h
      obtain ⟨g1, g2, g3⟩ := com_spec s a b l x.id ((pth s x.id).length : Int)
      refine ⟨by unfold comStep at g1; omega, fun y hy ha hb => ?_, .inr ?_⟩
      · rcases List.mem_cons.1 hy with rfl | hy
        · exact g1
        · exact g2 y hy ha hb
      · rcases g3 with g3 | ⟨y, hy, g3⟩
        · exact ⟨x, by simp, h1, h2, g3⟩
        · exact ⟨y, List.mem_cons_of_mem _ hy, g3⟩
    · rw [if_neg h]
      obtain ⟨g1, g2, g3⟩ := com_spec s a b l v w
      refine ⟨g1, fun y hy ha hb => ?_, ?_⟩
      · rcases List.mem_cons.1 hy with rfl | hy
        · rw [ha, hb] at h
          simp only [Bool.true_and, decide_eq_true_eq] at h
          unfold comStep at g1
          omega
        · exact g2 y hy ha hb
      · rcases g3 with g3 | ⟨y, hy, g3⟩
        · exact .inl g3
        · exact .inr ⟨y, List.mem_cons_of_mem _ hy, g3⟩
theorem path_suf {s : List Pl} : ∀ {l : List Int} {p : Int} {i : Nat} (h : IsPath s p l) (hi : i < (p :: l).length), IsPath s (p :: l)[i] ((p :: l).drop (i + 1))
  | l, p, 0, h, _ => h
  | [], p, i + 1, _, hi => by simp at hi
  | q :: l, p, i + 1, h, hi => path_suf (l := l) (p := q) (i := i) h.2.2 (by simpa using hi)
theorem com_eq {s : List Pl} (hp : ParOk s) (hf : FinP s) (a b : Int) : comP s a b = commonL s a b := by
  obtain ⟨g1, g2, g3⟩ := com_spec s a b s 0 (-1)
  unfold commonL
  unfold comP
  have ha : ∀ x, cont s x a = true ↔ hereB s x = true ∧ hereB s a = true ∧ x ∈ a :: pth s a := fun x => by
    unfold cont contB
    rw [List.mem_cons]
    simp
  by_cases hh : (hereB s a && hereB s b) = true
  · rw [if_pos hh]
    simp only [Bool.and_eq_true] at hh
    cases hfind : (a :: pth s a).find? (fun q => cont s q b) with
    | none =>
      rw [List.find?_eq_none] at hfind
      rcases g3 with g3 | ⟨y, hy, h1, h2, _⟩
      · rw [g3]; rfl
      · exact absurd h2 (hfind y.id ((ha _).1 h1).2.2)
    | some c =>
      rw [List.find?_eq_some_iff_getElem] at hfind
      obtain ⟨hcb, i, hi, hci, hbef⟩ := hfind
      have hP := (hf.pth hp a).1
      have hdep : ∀ k (hk : k < (a :: pth s a).length), (pth s (a :: pth s a)[k]).length = (a :: pth s a).length - (k + 1) := fun k hk => by
        rw [(pth_of hp (path_suf hP hk)).1, List.length_drop]
      have hcH : hereB s c = true := by
        unfold cont contB at hcb
        simp only [Bool.and_eq_true] at hcb
        exact hcb.1
      obtain ⟨y, hy, _⟩ := hereB_iff.1 hcH
      obtain ⟨hym, hyi⟩ := get_mem hy
      have hca : cont s c a = true := (ha c).2 ⟨hcH, hh.1, by rw [← hci]; exact List.getElem_mem hi⟩
      have hge := g2 y hym (by rw [hyi]; exact hca) (by rw [hyi]; exact hcb)
      rw [hyi] at hge
      rcases g3 with g3 | ⟨x, hx, h1, h2, h3⟩
      · rw [g3] at hge; simp only at hge; omega
      · rw [h3] at hge ⊢
        simp only at hge
        obtain ⟨k, hk, hkx⟩ := List.getElem_of_mem ((ha _).1 h1).2.2
        have hki : i ≤ k := Nat.not_lt.1 fun hlt => by
          have := hbef k hlt
          rw [hkx, h2] at this
          simp at this
        have d1 := hdep i hi
        have d2 := hdep k hk
        rw [hci] at d1
        rw [hkx] at d2
        have : k = i := by omega
        subst this
        rw [hci] at hkx
        exact hkx
  · rw [if_neg hh]
    rcases g3 with g3 | ⟨y, hy, h1, h2, _⟩
    · rw [g3]
    · refine absurd ?_ hh
      have e1 := ((ha _).1 h1).2.1
      have e2 := cont_here h2
      rw [e1, e2]; rfl
theorem qCommon_c (l : List Ev) (a b day : Int) (hacc : Acc l) : Pur Pg 42 [refG l, di a, di b, di day] (di (commonL (onL l day) a b)) := by
  have hi := (hacc.invOn day).1
  rw [← com_eq hi.par hi.fin, ← comP_prg]
  exact common_c _ l a b day (onP_c l day hacc) (acc_onSt hacc day)
end Go.Proofs.YtpndfdfipkadkaaGreatDoor
set_option maxRecDepth 100000
namespace Go.Proofs.YtpndfdfipkadkaaGreatDoor
open Go Go.Wx Go.Ax
def gazAt (v : Nat) (l : List Ev) : AO := .arr 126 1 [[.sl v 0 l.length l.length]]
def refM (l : List Ev) : AO := .arr 128 1 [[rows Ev.enc l]]
def grown (l : List Ev) (e : Ev) : List Ev := if addE l e == 0 then l ++ [e] else l
theorem rel_enc {α : Type} {enc : α → List D} (he : ∀ x, PdL (enc x)) (j : Nat → Nat) (l : List α) : (l.map enc).map (fun x => x.map (rel j)) = l.map enc := by
  rw [List.map_map]
  refine List.map_congr_left fun x _ => ?_
  show (enc x).map (rel j) = enc x
  conv => rhs; rw [← List.map_id (enc x)]
  exact List.map_congr_left fun d hd => rel_pd (he x d hd)
theorem rel_ev (j : Nat → Nat) (e : Ev) : rel j (.agg e.enc) = .agg e.enc := rel_pd (.agg (pdEv e))
theorem addAt_c (l : List Ev) (e : Ev) (ha : Acc l) {H : Heap} {g v : Nat} (hg : H[g]? = some (gazAt v l)) (hv : H[v]? = some (evsM l)) (hgv : g ≠ v) :
    AC Pg 31 [.ptr g 0 0 1, .agg e.enc] H fun d H' ms => d = di (addE l e) ∧ H' = (H.set g (gazAt v (grown l e))).set v (evsM (grown l e)) ∧ ms = [g, v] := by
  have hgl := lt_of_some hg
  have hvl := lt_of_some hv
  have hj0 : ∀ l' : List Ev, ∀ H' : Heap, H'[g]? = some (gazAt v l') → H'[v]? = some (evsM l') → Emb (fun b => if b = 0 then g else v) [gazM l', evsM l'] H' := fun l' H' h1 h2 => by
    refine ⟨fun b hb => ?_, fun b b' hb hb' he => ?_, fun b o ho => ?_⟩
    · by_cases h : b = 0
      · simp only [h, if_true]; exact lt_of_some h1
      · simp only [h, if_false]; exact lt_of_some h2
    · simp at hb hb'
      by_cases h : b = 0 <;> by_cases h' : b' = 0
      · omega
      · simp [h, h'] at he; exact absurd he hgv
      · simp [h, h'] at he; exact absurd he.symm hgv
      · omega
    · match b, ho with
      | 0, ho =>
        cases ho
        have : relO (fun b => if b = 0 then g else v) (gazM l') = gazAt v l' := by simp [relO, gazM, gazAt, rel]
        rw [this]; exact h1
      | 1, ho =>
        cases ho
        have : relO (fun b => if b = 0 then g else v) (evsM l') = evsM l' := congrArg (AO.arr 23 5) (rel_enc pdEv _ l')
        rw [this]; exact h2
      | b + 2, ho => simp at ho
  have hO : ∀ l' : List Ev, ∀ o ∈ [gazM l', evsM l'], BlO 2 o := fun l' o ho => by
    simp at ho
    rcases ho with rfl | rfl
    · intro y hy d hd
      rw [List.mem_singleton] at hy
      subst hy
      rw [List.mem_singleton] at hd
      subst hd
      exact .sl (by simp)
    · exact BlO.enc pdEv
  have hfr := AC.frame (hj0 l H hg hv) (args := [.ptr 0 0 0 1, .agg e.enc]) (fun d hd => by
    simp at hd
    rcases hd with rfl | rfl
    · exact .ptr (by simp)
    · exact .pd (.agg (pdEv e))) (hO l) (R := fun d H' ms => d = di (addE l e) ∧ H' = [gazM (grown l e), evsM (grown l e)] ∧ ms = [0, 1]) (fun d H0 ms ⟨h1, h2, h3⟩ => by
      subst h1; subst h2; subst h3
      exact ⟨rfl, .pd (.v _), hO _, fun b hb => by simp at hb ⊢; omega⟩) (addP_c l e ha)
  refine AC.mono (AC.via hfr (by rw [List.map_cons, List.map_cons, List.map_nil, rel_ev]; simp [rel])) ?_
  rintro d H' ms ⟨d0, H0, ms0, ⟨rfl, rfl, rfl⟩, rfl, rfl, rfl⟩
  refine ⟨rel_pd (.v _), ?_, rfl⟩
  refine backH_eq (hj0 (grown l e) _ ?_ ?_) (by simp) fun c hc => ?_
  · exact (List.getElem?_set_ne hgv.symm).trans (List.getElem?_set_self hgl)
  · exact List.getElem?_set_self (by simpa using hvl)
  · have h0 := hc 0 (by simp)
    have h1 := hc 1 (by simp)
    exact (List.getElem?_set_ne h1).trans (List.getElem?_set_ne h0)
theorem refAddAt_c (l : List Ev) (e : Ev) (hn : e.name.size ≤ maxLen) (ha : Acc l) {H : Heap} {g : Nat} (hg : H[g]? = some (refM l)) :
    AC Pg 32 [.ptr g 0 0 1, .agg e.enc] H fun d H' ms => d = di (addE l e) ∧ H' = H.set g (refM (grown l e)) ∧ ms = [g] := by
  have hgl := lt_of_some hg
  have hrel : ∀ l' : List Ev, relO (fun _ => g) (refM l') = refM l' := fun l' => by
    show AO.arr 128 1 [[rel (fun _ => g) (rows Ev.enc l')]] = _
    rw [rel_pd (pd_rows pdEv l')]; rfl
  have hj0 : ∀ l' : List Ev, ∀ H' : Heap, H'[g]? = some (refM l') → Emb (fun _ => g) [refM l'] H' := fun l' H' h1 => by
    refine ⟨fun b hb => lt_of_some h1, fun b b' hb hb' _ => by simp at hb hb'; omega, fun b o ho => ?_⟩
    match b, ho with
    | 0, ho => cases ho; rw [hrel]; exact h1
    | b + 1, ho => simp at ho
  have hO : ∀ l' : List Ev, ∀ o ∈ [refM l'], BlO 1 o := fun l' o ho => by
    rw [List.mem_singleton.1 ho]
    intro y hy d hd
    rw [List.mem_singleton] at hy
    subst hy
    rw [List.mem_singleton] at hd
    subst hd
    exact .pd (pd_rows pdEv l')
  have hfr := AC.frame (hj0 l H hg) (args := [.ptr 0 0 0 1, .agg e.enc]) (fun d hd => by
    simp at hd
    rcases hd with rfl | rfl
    · exact .ptr (by simp)
    · exact .pd (.agg (pdEv e))) (hO l) (R := fun d H' ms => d = di (addE l e) ∧ H' = [refM (grown l e)] ∧ ms = [0]) (fun d H0 ms ⟨h1, h2, h3⟩ => by
      subst h1; subst h2; subst h3
      exact ⟨rfl, .pd (.v _), hO _, fun b hb => by simp at hb ⊢; omega⟩) (refAdd_c l e hn ha)
  refine AC.mono (AC.via hfr (by rw [List.map_cons, List.map_cons, List.map_nil, rel_ev]; simp [rel])) ?_
  rintro d H' ms ⟨d0, H0, ms0, ⟨rfl, rfl, rfl⟩, rfl, rfl, rfl⟩
  refine ⟨rel_pd (.v _), ?_, rfl⟩
  refine backH_eq (hj0 (grown l e) _ (List.getElem?_set_self hgl)) (by simp) fun c hc => ?_
  exact List.getElem?_set_ne (hc 0 (by simp))
end Go.Proofs.YtpndfdfipkadkaaGreatDoor
