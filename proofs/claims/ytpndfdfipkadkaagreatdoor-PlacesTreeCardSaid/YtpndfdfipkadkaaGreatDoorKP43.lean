/- The law holds: part 43. Conditions: none. -/
import Derived.Test.YtpndfdfipkadkaaGreatDoorKP9
import Derived.Test.YtpndfdfipkadkaaGreatDoorKP37
import Derived.Test.YtpndfdfipkadkaaGreatDoorKP40
import Derived.Test.YtpndfdfipkadkaaGreatDoorKP42
set_option linter.all false
set_option maxRecDepth 100000
namespace Go.Proofs.YtpndfdfipkadkaaGreatDoor
open Go Go.Wx Go.Ax
theorem opened_cases {l : List Ev} {f : FuncId} {args : List D} (g : Pur Pg f args (openedD l)) : Pur Pg f args (.tup [nilP, nilP, db true]) ∨ (l.length ≤ 40 ∧ Acc l ∧ Pur Pg f args (.tup [refG l, refG l, db true])) := by
  unfold openedD at g
  by_cases h : l.length > 40
  · rw [if_pos h] at g; exact .inl g
  · rw [if_neg h] at g
    cases hi : openI l with
    | some i => rw [hi] at g; exact .inl g
    | none =>
      rw [hi] at g
      refine .inr ⟨by omega, ?_, g⟩
      have hb : ∀ j, j < l.length → badAt l j = false := fun j hj => by
        have := List.find?_eq_none.1 hi j (List.mem_range.2 hj)
        simpa using this
      have := acc_upto (l := l) (Nat.le_refl _) hb
      rwa [List.take_length] at this
theorem sameI_c (a : List Int) : Pur Pg 39 [rows ienc a, rows ienc a] (db true) := by
  have := sameInts_c a a
  rwa [decide_eq_true rfl] at this
theorem sameS_c (a : List ByteArray) : Pur Pg 49 [rows senc a, rows senc a] (db true) := by
  have := sameStrings_c a a
  rwa [decide_eq_true rfl] at this
theorem acc_few {l : List Ev} (ha : Acc l) (day : Int) : ∀ x ∈ onL l day, x.uses.length ≤ 16 := (ha.invOn day).1.few
theorem rExists_c (l : List Ev) (p day : Int) (ha : Acc l) : Pur Pg 50 [refG l, di p, di day] (db (hereB (onL l day) p)) := refExists_c l p day (ha.run day)
theorem rParent_c (l : List Ev) (p day : Int) (ha : Acc l) : Pur Pg 52 [refG l, di p, di day] (di (parI (onL l day) p)) := refParent_c l p day (ha.run day)
theorem rPath_c (l : List Ev) (p day : Int) (ha : Acc l) : Pur Pg 56 [refG l, di p, di day] (rows ienc (pth (onL l day) p)) :=
  refPath_c l p day (ha.run day) _ ((ha.invOn day).1.paths (by have := (ha.invOn day).2; omega) p).1 ((ha.invOn day).1.paths (by have := (ha.invOn day).2; omega) p).2
theorem rName_c (l : List Ev) (p day : Int) (ha : Acc l) : Pur Pg 51 [refG l, di p, di day] (ds' (nameL (onL l day) p)) :=
  refName_c' l p day (ha.run day) fun x hx _ => (ha.invOn day).1.tru x (get_mem hx).1
theorem rNames_c (l : List Ev) (p day : Int) (ha : Acc l) : Pur Pg 58 [refG l, di p, di day] (rows senc (namesL (onL l day) p day)) :=
  refNames_c l p day (ha.run day) fun x hx => by have := acc_few ha day x (get_mem hx).1; omega
theorem rAll_c (l : List Ev) (day : Int) (ha : Acc l) : Pur Pg 55 [refG l, di day] (rows ienc (allL (onL l day))) := refAll_c l day (ha.run day) (by have := (ha.invOn day).2; omega)
theorem rInside_c (l : List Ev) (p day : Int) (ha : Acc l) : Pur Pg 57 [refG l, di p, di day] (rows ienc (insideL (onL l day) p)) := refInside_c l p day (ha.run day) (by have := (ha.invOn day).2; omega) ((ha.invOn day).1.paths (by have := (ha.invOn day).2; omega))
theorem rCalled_c (l : List Ev) (name : ByteArray) (day : Int) (ha : Acc l) : Pur Pg 62 [refG l, ds' name, di day] (rows ienc (calledL (onL l day) name day)) := refCalled_c l name day (ha.run day) (ha.invOn day).2 fun x hx => by have := acc_few ha day x hx; omega
theorem rCommon_c (l : List Ev) (a b day : Int) (ha : Acc l) : Pur Pg 53 [refG l, di a, di b, di day] (di (commonL (onL l day) a b)) := refCommon_c l a b day (ha.run day) (by have := (ha.invOn day).2; omega) ((ha.invOn day).1.paths (by have := (ha.invOn day).2; omega))
theorem rGoesOn_c (l : List Ev) (p day : Int) (ha : Acc l) : Pur Pg 54 [refG l, di p, di day] (di (goN (onL l day) ((onL l day).length + 1) p)) := refGoesOn_c l p day (ha.run day) (by have := (ha.invOn day).2; omega)
theorem rHistory_c (l : List Ev) (p : Int) (ha : Acc l) : Pur Pg 61 [refG l, di p] (rows Use.enc (histL (stL l) p)) := by
  have := refHistory_c l p (ha.run 100000)
  rwa [all_days ha.ok.form] at this
theorem frzt {H : Heap} : Frz H (.v (.bool true)) (db true) := .pd (.v _)
theorem lawAnswers_c (l : List Ev) (hs : ∀ e ∈ l, e.name.size ≤ maxLen) (p o d : Int) (name : ByteArray) : Pur Pg 12 [rows Ev.enc l, di p, di o, di d, ds' name] (db true) := by
  refine fn Tryz.func12 [] [] (.cons (pd_rows pdEv l) (.cons (.v _) (.cons (.v _) (.cons (.v _) (.cons (.v _) .nil))))) ?_
  rcases opened_cases (opened_c l hs) with g | ⟨h40, ha, g⟩
  · refine g.call ?_
    conv => whnf
    refine alive_c.call ?_
    exact frzt
  · refine g.call ?_
    conv => whnf
    refine (qExists_c l p d ha).call ?_
    refine (rExists_c l p d ha).call ?_
    refine iff_ (by simp) ?_
    refine (qName_c l p d ha).call ?_
    refine (rName_c l p d ha).call ?_
    refine iff_ (by simp [strEq_refl]) ?_
    refine (qParent_c l p d ha).call ?_
    refine (rParent_c l p d ha).call ?_
    refine iff_ (by simp) ?_
    refine (qCommon_c l p o d ha).call ?_
    refine (rCommon_c l p o d ha).call ?_
    refine iff_ (by simp) ?_
    refine (qGoesOn_c l p d ha).call ?_
    refine (rGoesOn_c l p d ha).call ?_
    refine iff_ (by simp) ?_
    refine (qAll_c l d ha).call ?_
    refine (rAll_c l d ha).call ?_
    refine (sameI_c _).call ?_
    refine (qPath_c l p d ha).call ?_
    refine (rPath_c l p d ha).call ?_
    refine (sameI_c _).call ?_
    refine (qInside_c l p d ha).call ?_
    refine (rInside_c l p d ha).call ?_
    refine (sameI_c _).call ?_
    refine (qNames_c l p d ha).call ?_
    refine (rNames_c l p d ha).call ?_
    refine (sameS_c _).call ?_
    refine (qHistory_c l p ha).call ?_
    refine (rHistory_c l p ha).call ?_
    refine (sameUse_c _).call ?_
    refine alive_c.call ?_
    refine (qCalled_c l name d ha).call ?_
    refine (rCalled_c l name d ha).call ?_
    refine (sameI_c _).call ?_
    exact frzt
end Go.Proofs.YtpndfdfipkadkaaGreatDoor
set_option maxRecDepth 100000
namespace Go.Proofs.YtpndfdfipkadkaaGreatDoor
open Go Go.Wx Go.Ax
theorem open_cases {l : List Ev} {f : FuncId} {args : List D} (g : Pur Pg f args (openD l)) : (∃ i e : Int, e ≠ 0 ∧ Pur Pg f args (.tup [nilP, di i, di e])) ∨ (Acc l ∧ Pur Pg f args (.tup [refG l, di 0, di 0])) := by
  cases hi : openI l with
  | some i =>
    left
    have hlt : i < l.length := List.mem_range.1 (List.mem_of_find?_eq_some hi)
    rw [openD_bad hi (List.getElem?_eq_getElem hlt)] at g
    have hb := List.find?_some hi
    rw [badAt_eq hlt] at hb
    exact ⟨i, _, by simpa using hb, g⟩
  | none =>
    right
    rw [openD_ok hi] at g
    refine ⟨?_, g⟩
    have hb : ∀ j, j < l.length → badAt l j = false := fun j hj => by
      have := List.find?_eq_none.1 hi j (List.mem_range.2 hj)
      simpa using this
    have := acc_upto (l := l) (Nat.le_refl _) hb
    rwa [List.take_length] at this
theorem any_eqT {l : List Int} {p : Int} {i : Nat} (h : i < l.length) : ((l.take (i + 1)).any (· == p)) = ((l.take i).any (· == p) || l[i] == p) := by
  rw [List.take_succ_eq_append_getElem h, List.any_append]
  simp
theorem rise_nodup {l : List Int} (h : l.Pairwise (· < ·)) : l.Nodup := h.imp fun h => by omega
theorem all_len {s : List Pl} (hn : (s.map (·.id)).Nodup) : (allL s).length ≤ s.length := by
  have := nodup_len (rise_nodup (all_rise s)) (m := s.map (·.id)) fun x hx => here_mem ((all_mem hn).1 hx)
  simpa using this
theorem ed (b : Bool) : D.v (.bool b) = db b := rfl
def pl10 : Plan := [(43, [.p 0, .p 1, .p 2, .e 3, .p 4, .p 5, .p 6, .p 7, .p 8, .p 10, .p 11, .p 12, .p 13, .e 9, .e 14, .p 15, .p 16])]
def lpC : Code → Code
  | .loop c => c
  | .block _ c => c
  | c => c
def fstC : Code → Code
  | .seq a _ => a
  | c => c
noncomputable def c10 : Code := Tryz.f10.body.getD .skip
noncomputable def b10 : Code := lpC (fstC (restC 2 (lpC (lpC (restC 1 (fstC (restC 5 c10)))))))
structure Asks (l : List Ev) (day : Int) (s : List Pl) : Prop where
  inv : InvS s
  few : s.length ≤ 400
  ex : ∀ p, Pur Pg 26 [refG l, di p, di day] (db (hereB s p))
  go : ∀ p, Pur Pg 25 [refG l, di p, di day] (di (endN s p))
  com : ∀ p q, Pur Pg 42 [refG l, di p, di q, di day] (di (commonL s p q))
  path : ∀ p, Pur Pg 43 [refG l, di p, di day] (rows ienc (pth s p))
  par : ∀ p, Pur Pg 44 [refG l, di p, di day] (di (parI s p))
  ins : ∀ p, Pur Pg 45 [refG l, di p, di day] (rows ienc (insideL s p))
  names : ∀ p, Pur Pg 27 [refG l, di p, di day] (rows senc (namesL s p day))
  name : ∀ p, Pur Pg 36 [refG l, di p, di day] (ds' (nameL s p))
  called : ∀ n, Pur Pg 46 [refG l, ds' n, di day] (rows ienc (calledL s n day))
  all : Pur Pg 41 [refG l, di day] (rows ienc (allL s))
theorem asks {l : List Ev} (ha : Acc l) (day : Int) : Asks l day (onL l day) where
  inv := (ha.invOn day).1
  few := (ha.invOn day).2
  ex := fun p => qExists_c l p day ha
  go := fun p => qGoesOn_c l p day ha
  com := fun p q => qCommon_c l p q day ha
  path := fun p => qPath_c l p day ha
  par := fun p => qParent_c l p day ha
  ins := fun p => qInside_c l p day ha
  names := fun p => qNames_c l p day ha
  name := fun p => qName_c l p day ha
  called := fun n => qCalled_c l n day ha
  all := qAll_c l day ha
section
variable {l : List Ev} {day : Int} {s : List Pl} {o1 o2 o3 : D}
abbrev KL (L : List (Nat × D)) : APost := fun ex st => ex = .normal ∧ Has L [] st
theorem tree2 (h : Asks l day s) (p : Int) (path : D) (hp : hereB s p = true) (e0 : Nat → D) (hN : (insideL s p).length ≤ maxLen) :
    AW Pg 215 (fun _ => true) 0 (restC 1 (fstC (restC 6 b10))) (KL [(1, di day), (5, refG l), (8, o1), (44, o1), (45, o2), (46, o3), (10, di p), (11, path), (13, db ((insideL s p).any (· == p)))])
      ⟨dupds e0 [(1, di day), (5, refG l), (8, o1), (44, o1), (45, o2), (46, o3), (10, di p), (11, path), (13, db false), (120, rows ienc (insideL s p)), (121, di (insideL s p).length), (122, di 0)], []⟩ := by
  refine AW_block ?_
  refine AW_idx (insideL s p).length (fun i st => Has [(1, di day), (5, refG l), (8, o1), (44, o1), (45, o2), (46, o3), (10, di p), (11, path), (13, db (((insideL s p).take i).any (· == p))), (120, rows ienc (insideL s p)), (121, di (insideL s p).length), (122, di i)] [] st) ⟨_, rfl⟩ ?_
  rintro i _ hi ⟨e0, rfl⟩
  refine go [] pl10 (if_ (fun hlt => ?_) (fun hlt => ?_))
  · simp at hlt
    refine row_at hlt ?_
    have hq := (mem_inside h.inv.ids).1 (List.getElem_mem hlt)
    have hcom := com_top h.inv.par h.inv.fin hq.2
    have hex : ((insideL s p).take (i + 1)).any (· == p) = (((insideL s p).take i).any (· == p) || (insideL s p)[i] == p) := any_eqT hlt
    refine if_ (fun h1 => ?_) fun h1 => ?_
    all_goals
      refine if_ (fun h2 => ?_) fun h2 => ?_
      · refine (h.com p _).call ?_
        refine iff_ (by rw [hcom]; simp) ?_
        exact ⟨hlt, has ⟨rfl, rfl, rfl, rfl, rfl, rfl, rfl, rfl, by first | exact congrArg db (show true = _ by rw [hex, h1]; rfl) | exact congrArg db (show ((insideL s p)[i] == p) = _ by rw [hex, h1]; rfl), rfl, rfl, inc hlt hN, trivial⟩ rfl⟩
      · exact ⟨hlt, has ⟨rfl, rfl, rfl, rfl, rfl, rfl, rfl, rfl, by first | exact congrArg db (show true = _ by rw [hex, h1]; rfl) | exact congrArg db (show ((insideL s p)[i] == p) = _ by rw [hex, h1]; rfl), rfl, rfl, inc hlt hN, trivial⟩ rfl⟩
  · simp at hlt
    have : i = (insideL s p).length := by omega
    subst this
    rw [List.take_length]
    exact ⟨rfl, has ⟨rfl, rfl, rfl, rfl, rfl, rfl, rfl, rfl, rfl, trivial⟩ rfl⟩
theorem any_hit {l : List Int} {p : Int} (h : p ∈ l) : l.any (· == p) = true := List.any_eq_true.2 ⟨p, h, by simp⟩
theorem tree6 (q : Int) (n : ByteArray) (other : List (Nat × D)) (C : List Int) (hN : C.length ≤ maxLen) (e0 : Nat → D) (dn d13 d16 d11 : D) (N : List ByteArray) (i : Nat) :
    AW Pg 215 (fun _ => true) 0 (restC 1 (fstC (restC 3 (lpC (fstC (restC 2 (lpC (lpC (restC 1 (fstC (restC 8 b10)))))))))))
      (KL [(1, di day), (5, refG l), (8, o1), (44, o1), (45, o2), (46, o3), (10, di q), (11, d11), (13, d13), (16, d16), (148, rows senc N), (149, di N.length), (150, di i), (19, db (C.any (· == q)))])
      ⟨dupds e0 [(1, di day), (5, refG l), (8, o1), (44, o1), (45, o2), (46, o3), (10, di q), (11, d11), (13, d13), (16, d16), (148, rows senc N), (149, di N.length), (150, di i), (19, db false), (166, rows ienc C), (167, di C.length), (168, di 0)], []⟩ := by
  refine AW_block ?_
  refine AW_idx C.length (fun k st => Has [(1, di day), (5, refG l), (8, o1), (44, o1), (45, o2), (46, o3), (10, di q), (11, d11), (13, d13), (16, d16), (148, rows senc N), (149, di N.length), (150, di i), (19, db ((C.take k).any (· == q))), (166, rows ienc C), (167, di C.length), (168, di k)] [] st) ⟨_, rfl⟩ ?_
  rintro k _ hk ⟨e0, rfl⟩
  refine go [] pl10 (if_ (fun hlt => ?_) (fun hlt => ?_))
  · simp at hlt
    refine row_at hlt ?_
    have hex : (C.take (k + 1)).any (· == q) = ((C.take k).any (· == q) || C[k] == q) := any_eqT hlt
    refine if_ (fun h1 => ?_) fun h1 => ?_
    · exact ⟨hlt, has ⟨rfl, rfl, rfl, rfl, rfl, rfl, rfl, rfl, rfl, rfl, rfl, rfl, rfl, congrArg db (show true = _ by rw [hex, h1]; rfl), rfl, rfl, inc hlt hN, trivial⟩ rfl⟩
    · exact ⟨hlt, has ⟨rfl, rfl, rfl, rfl, rfl, rfl, rfl, rfl, rfl, rfl, rfl, rfl, rfl, congrArg db (show (C[k] == q) = _ by rw [hex, h1]; rfl), rfl, rfl, inc hlt hN, trivial⟩ rfl⟩
  · simp at hlt
    have : k = C.length := by omega
    subst this
    rw [List.take_length]
    exact ⟨rfl, has ⟨rfl, rfl, rfl, rfl, rfl, rfl, rfl, rfl, rfl, rfl, rfl, rfl, rfl, rfl, trivial⟩ rfl⟩
theorem tree4 (h : Asks l day s) (p : Int) (d11 d13 : D) (hp : hereB s p = true) (e0 : Nat → D) (N : List ByteArray) (hNs : N = namesL s p day) (hN : N.length ≤ maxLen) (hC : ∀ n, (calledL s n day).length ≤ maxLen) :
    AW Pg 215 (fun _ => true) 0 (restC 1 (fstC (restC 8 b10))) (KL [(1, di day), (5, refG l), (8, o1), (44, o1), (45, o2), (46, o3), (10, di p), (11, d11), (13, d13), (16, db (N.any (strEq · (nameL s p))))])
      ⟨dupds e0 [(1, di day), (5, refG l), (8, o1), (44, o1), (45, o2), (46, o3), (10, di p), (11, d11), (13, d13), (16, db false), (148, rows senc N), (149, di N.length), (150, di 0)], []⟩ := by
  refine AW_block ?_
  refine AW_idx N.length (fun i st => Has [(1, di day), (5, refG l), (8, o1), (44, o1), (45, o2), (46, o3), (10, di p), (11, d11), (13, d13), (16, db ((N.take i).any (strEq · (nameL s p)))), (148, rows senc N), (149, di N.length), (150, di i)] [] st) ⟨_, rfl⟩ ?_
  rintro i _ hi ⟨e0, rfl⟩
  refine goC 2 [] pl10 (if_ (fun hlt => ?_) (fun hlt => ?_))
  · simp at hlt
    have hex : (N.take (i + 1)).any (strEq · (nameL s p)) = ((N.take i).any (strEq · (nameL s p)) || strEq N[i] (nameL s p)) := by
      rw [List.take_succ_eq_append_getElem hlt, List.any_append]
      simp
    have hin : p ∈ calledL s N[i] day := mem_called h.inv.ids (by rw [← hNs]; exact List.getElem_mem hlt)
    refine AW_seq (AW_block (AW_mono (K := KL [(1, di day), (5, refG l), (8, o1), (44, o1), (45, o2), (46, o3), (10, di p), (11, d11), (13, d13), (16, db ((N.take (i + 1)).any (strEq · (nameL s p)))), (148, rows senc N), (149, di N.length), (150, di i)]) ?_ ?_))
    · refine goC 3 [] pl10 ?_
      refine row_at hlt ?_
      have fin : ∀ b e0, b = (N.take (i + 1)).any (strEq · (nameL s p)) → AW Pg 215 (fun _ => true) 0 (restC 3 (lpC (fstC (restC 2 (lpC (lpC (restC 1 (fstC (restC 8 b10)))))))))
          (KL [(1, di day), (5, refG l), (8, o1), (44, o1), (45, o2), (46, o3), (10, di p), (11, d11), (13, d13), (16, db ((N.take (i + 1)).any (strEq · (nameL s p)))), (148, rows senc N), (149, di N.length), (150, di i)])
          ⟨dupds e0 [(1, di day), (5, refG l), (8, o1), (44, o1), (45, o2), (46, o3), (10, di p), (11, d11), (13, d13), (16, db b), (18, ds' N[i]), (19, db false), (148, rows senc N), (149, di N.length), (150, di i)], []⟩ := by
        rintro _ e0 rfl
        refine AW_seq ?_
        refine goC 1 [] pl10 ?_
        refine (h.called _).call ?_
        conv => whnf
        refine AW_mono (AW_rest (c' := restC 1 (fstC (restC 3 (lpC (fstC (restC 2 (lpC (lpC (restC 1 (fstC (restC 8 b10))))))))))) (AW_has (fun e0 => tree6 (l := l) (day := day) (o1 := o1) (o2 := o2) (o3 := o3) p N[i] [] (calledL s N[i] day) (hC _) e0 (.v undef) d13 (db ((N.take (i + 1)).any (strEq · (nameL s p)))) d11 N i) (by exact ⟨rfl, rfl, rfl, rfl, rfl, rfl, rfl, rfl, rfl, rfl, rfl, rfl, rfl, rfl, rfl, congrArg (fun n : Nat => di n) (List.length_map ..), rfl, trivial⟩))) ?_
        rintro ex st ⟨rfl, e0, rfl⟩
        refine go [] pl10 ?_
        refine iff_ (by rw [any_hit hin]; rfl) ?_
        exact ⟨rfl, has ⟨rfl, rfl, rfl, rfl, rfl, rfl, rfl, rfl, rfl, rfl, rfl, rfl, rfl, trivial⟩ rfl⟩
      refine if_ (fun h1 => ?_) fun h1 => ?_
      · exact AW_rest (c' := restC 3 (lpC (fstC (restC 2 (lpC (lpC (restC 1 (fstC (restC 8 b10))))))))) (AW_has (fun e0 => fin true e0 (by rw [hex, h1]; rfl)) (by exact ⟨rfl, rfl, rfl, rfl, rfl, rfl, rfl, rfl, rfl, rfl, rfl, rfl, rfl, rfl, rfl, trivial⟩))
      · refine (h.name p).call ?_
        exact AW_rest (c' := restC 3 (lpC (fstC (restC 2 (lpC (lpC (restC 1 (fstC (restC 8 b10))))))))) (AW_has (fun e0 => fin (strEq N[i] (nameL s p)) e0 (by rw [hex, h1]; rfl)) (by exact ⟨rfl, rfl, rfl, rfl, rfl, rfl, rfl, rfl, rfl, rfl, rfl, rfl, rfl, rfl, rfl, trivial⟩))
    · rintro ex st ⟨rfl, e0, rfl⟩
      refine go [] pl10 ?_
      exact ⟨hlt, has ⟨rfl, rfl, rfl, rfl, rfl, rfl, rfl, rfl, rfl, rfl, rfl, rfl, inc hlt hN, trivial⟩ rfl⟩
  · simp at hlt
    have : i = N.length := by omega
    subst this
    rw [List.take_length]
    exact ⟨rfl, has ⟨rfl, rfl, rfl, rfl, rfl, rfl, rfl, rfl, rfl, rfl, trivial⟩ rfl⟩
end
end Go.Proofs.YtpndfdfipkadkaaGreatDoor
