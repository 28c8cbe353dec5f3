/- The law holds: part 46. Conditions: none. -/
import Derived.Test.YtpndfdfipkadkaaGreatDoorKP44
set_option linter.all false
set_option maxRecDepth 100000
namespace Go.Proofs.YtpndfdfipkadkaaGreatDoor
open Go Go.Wx Go.Ax
theorem sameDay_c {l m : List Ev} {day : Int} {s : List Pl} (h : Asks l day s) (k : Asks m day s) (p : Int) : Pur Pg 40 [refG l, refG m, di p, di day] (db true) := by
  refine fn Tryz.func40 [] [] (.cons (pd_refG l) (.cons (pd_refG m) (.cons (.v _) (.cons (.v _) .nil)))) ?_
  refine (h.ex p).call ?_
  refine (k.ex p).call ?_
  refine iff_ (by simp) ?_
  refine (h.name p).call ?_
  refine (k.name p).call ?_
  refine iff_ (by simp [strEq_refl]) ?_
  refine (h.par p).call ?_
  refine (k.par p).call ?_
  refine iff_ (by simp) ?_
  refine (h.go p).call ?_
  refine (k.go p).call ?_
  refine iff_ (by simp) ?_
  refine h.all.call ?_
  refine k.all.call ?_
  refine (sameI_c _).call ?_
  refine (h.path p).call ?_
  refine (k.path p).call ?_
  refine (sameI_c _).call ?_
  refine (h.ins p).call ?_
  refine (k.ins p).call ?_
  refine (sameI_c _).call ?_
  refine (h.names p).call ?_
  refine (k.names p).call ?_
  refine (sameS_c _).call ?_
  exact frzt
abbrev hpG (l : List Ev) : Heap := [gazAt 1 l, evsM l]
theorem blo_gaz (l : List Ev) : ∀ o ∈ hpG l, BlO (hpG l).length o := fun o ho => by
  simp [hpG] at ho
  rcases ho with rfl | rfl
  · intro y hy d hd
    rw [List.mem_singleton] at hy
    subst hy
    rw [List.mem_singleton] at hd
    subst hd
    exact .sl (by simp)
  · exact BlO.enc pdEv
theorem openM_c (l : List Ev) (ha : Acc l) (hl : l.length ≤ maxLen) : AC Pg 24 [rows Ev.enc l] [] fun d H' ms => d = .tup [.ptr 0 0 0 1, di 0, di 0] ∧ H' = hpG l ∧ ms = [] := by
  refine AC.drop (AC.mono (openP_c l hl) ?_)
  rintro d H' ms ⟨rfl, ⟨i, hi, e, he, rfl⟩ | ⟨hn, _, rfl, h0, h1⟩⟩
  · have hlt : i < l.length := List.mem_range.1 (List.mem_of_find?_eq_some hi)
    have hb := List.find?_some hi
    have hf : badAt l i = false := by rw [badAt_eq hlt, ha.at hlt]; rfl
    exact absurd (hf.symm.trans hb) Bool.false_ne_true
  · match H', h0, h1 with
    | a :: b :: G, h0, h1 =>
      cases h0; cases h1
      refine ⟨hpG l, G, rfl, Nat.zero_le _, .tup fun d hd => ?_, blo_gaz l, rfl, rfl, rfl⟩
      simp at hd
      rcases hd with rfl | rfl
      · exact .ptr (by simp)
      · exact .pd (.v _)
    | [a], h0, h1 => simp at h1
    | [], h0, h1 => simp at h0
noncomputable def c9 : Code := Tryz.f9.body.getD .skip
theorem acc_grown {l : List Ev} (ha : Acc l) (e : Ev) : Acc (grown l e) := by
  unfold grown
  by_cases h : addE l e = 0
  · rw [h]; exact .snoc ha h
  · rw [if_neg (by simpa using h)]; exact ha
theorem on_grown {l : List Ev} {e : Ev} {d : Int} (h : d < e.day) : onL (grown l e) d = onL l d := by
  unfold grown
  split
  · exact on_snoc h
  · rfl
theorem lawDays_c (l more : List Ev) (p d : Int) : Pur Pg 9 [rows Ev.enc l, rows Ev.enc more, di p, di d] (db true) := by
  refine Pur_len 0 rfl fun hlen => Pur_len 1 rfl fun hlen2 => Pur_of (PdL.cons (pd_rows pdEv l) (.cons (pd_rows pdEv more) (.cons (.v _) (PdL.one (.v _))))) (AC_fn Tryz.func9 rfl rfl rfl [] (fun _ => true) (fun b h => nomatch h) (AW_rest (c' := restC 0 c9) ?_))
  rw [List.length_map] at hlen hlen2
  refine goC 6 [] [] ?_
  refine if_ (fun _ => ?_) (fun h40 => ?_)
  · refine alive_c.call ?_
    exact frzt
  rcases open_cases (openF_c l) with ⟨i, er, he, g⟩ | ⟨ha, g⟩
  · refine g.call ?_
    refine g.call ?_
    conv => whnf
    refine iff_ (by simp) ?_
    refine iff_ (by simp [he]) ?_
    refine iff_ (by simp [he]) ?_
    conv => whnf
    refine alive_c.call ?_
    exact frzt
  refine g.call ?_
  conv => whnf
  refine AC.mono (openM_c l ha hlen) ?_
  rintro _ _ _ ⟨rfl, rfl, rfl⟩
  conv => whnf
  have tail : ∀ e0, AW Pg Tryz.f9.ntmps (fun _ => true) 0 (restC 6 c9) (fun ex s' => dret Pg Tryz.f9.results.toList (fun d H' _ => Frz H' d (db true)) [] ex s'.e s'.H) ⟨dupds e0 [(1, rows Ev.enc more), (2, di p), (3, di d), (9, refG l), (12, .ptr 0 0 0 1)], hpG l⟩ := by
    intro e0
    refine AW_seq (AW_seq ?_)
    refine goC 1 [] [] ?_
    conv => whnf
    refine AW_block ?_
    refine AW_idx more.length (fun i st => ∃ m, Acc m ∧ onL m d = onL l d ∧ m.length ≤ l.length + i ∧ HasG [(2, di p), (3, di d), (9, refG l), (12, .ptr 0 0 0 1), (61, rows Ev.enc more), (62, di more.length), (63, di i)] (hpG m) st) ⟨l, ha, rfl, by omega, hasG (G := []) (by exact ⟨rfl, rfl, rfl, rfl, rfl, congrArg (fun n : Nat => di n) (List.length_map ..), rfl, trivial⟩) (by simp)⟩ ?_
    rintro i _ hi ⟨m, hm, hon, hml, e1, G, rfl⟩
    refine AW_drop (BlL.v (BlL.v (BlL.cons (.pd (pd_refG l)) (BlL.cons (.ptr (by simp)) (BlL.cons (.pd (pd_rows pdEv more)) (BlL.v (BlL.v BlL.nil))))))) (blo_gaz m) (Nat.zero_le _) fun e1 => ?_
    have hm9 : m.length ≤ 900000 := by have := hm.ok.len; omega
    refine go [] [] (if_ (fun hlt => ?_) (fun hlt => ?_))
    · simp at hlt
      refine row_at hlt ?_
      refine if_ (fun h2 => ?_) fun h2 => ?_
      · exact ⟨hlt, m, hm, hon, by omega, hasG (G := [.arr 23 5 [more[i].enc]]) (by exact ⟨rfl, rfl, rfl, rfl, rfl, rfl, inc hlt hlen2, trivial⟩) rfl⟩
      · have hday : d < more[i].day := by simpa using h2
        have hO : ∀ m' : List Ev, ∀ o ∈ hpG m' ++ [.arr 23 5 [more[i].enc]], BlO (hpG m' ++ [AO.arr 23 5 [more[i].enc]]).length o := fun m' o ho => by
          rcases List.mem_append.1 ho with ho | ho
          · simp [hpG] at ho
            rcases ho with rfl | rfl
            · intro y hy d hd
              rw [List.mem_singleton] at hy
              subst hy
              rw [List.mem_singleton] at hd
              subst hd
              exact .sl (by simp)
            · exact BlO.enc pdEv
          · rw [List.mem_singleton.1 ho]
            exact BlO.enc (l := [more[i]]) pdEv
        refine (eventsM_c m hm9 (H := hpG m ++ [AO.arr 23 5 [more[i].enc]]) (g := 0) (v := 1) rfl rfl (hO m)).call ?_
        conv => whnf
        refine AC.mono (addAt_c m more[i] hm (H := hpG m ++ [AO.arr 23 5 [more[i].enc]]) (g := 0) (v := 1) rfl rfl (by decide)) ?_
        rintro _ _ _ ⟨rfl, rfl, rfl⟩
        have nx : ∀ st : St, (∃ e2, st = ⟨dupds e2 [(2, di p), (3, di d), (9, refG l), (12, .ptr 0 0 0 1), (61, rows Ev.enc more), (62, di more.length), (63, di ((i + 1 : Nat) : Int))], hpG (grown m more[i]) ++ [.arr 23 5 [more[i].enc]]⟩) → i < more.length ∧ ∃ m, Acc m ∧ onL m d = onL l d ∧ m.length ≤ l.length + (i + 1) ∧ HasG [(2, di p), (3, di d), (9, refG l), (12, .ptr 0 0 0 1), (61, rows Ev.enc more), (62, di more.length), (63, di ((i + 1 : Nat) : Int))] (hpG m) st := by
          rintro st ⟨e2, rfl⟩
          refine ⟨hlt, grown m more[i], acc_grown hm _, (on_grown hday).trans hon, ?_, e2, _, rfl⟩
          unfold grown
          split
          · rw [List.length_append, List.length_singleton]; omega
          · omega
        refine if_ (fun h3 => ?_) fun h3 => ?_
        · have hg : grown m more[i] = m := by
            unfold grown
            rw [if_neg (by simpa using h3)]
          rw [hg] at nx
          rw [hg]
          conv => whnf
          refine (eventsM_c m hm9 (H := hpG m ++ [AO.arr 23 5 [more[i].enc]]) (g := 0) (v := 1) rfl rfl (hO m)).call ?_
          refine ((sameEv_c m).ex).call ?_
          conv => whnf
          exact nx _ (has (by exact ⟨rfl, rfl, rfl, rfl, rfl, rfl, inc hlt hlen2, trivial⟩) rfl)
        · exact nx _ (has (by exact ⟨rfl, rfl, rfl, rfl, rfl, rfl, inc hlt hlen2, trivial⟩) rfl)
    · refine AW_rest (c' := restC 7 c9) ?_
      refine AW_has (l := [(2, di p), (3, di d), (9, refG l), (12, .ptr 0 0 0 1)]) (fun e2 => ?_) (by exact ⟨rfl, rfl, rfl, rfl, trivial⟩)
      refine AW_frz (H1 := []) (G := hpG m) (l := [(2, di p), (3, di d), (9, refG l), (12, .ptr 0 0 0 1)]) (r := [(2, di p), (3, di d), (9, refG l), (12, refG m)]) (Nat.zero_le _) (fun _ h => nomatch h) ⟨rfl, FoB.v, rfl, FoB.v, rfl, FoB.pd (pd_refG l), rfl, FoB.fz (frz_gaz rfl rfl), trivial⟩ fun e3 => ?_
      refine go [] [] ?_
      refine alive_c.call ?_
      refine (sameDay_c (asks ha d) (hon ▸ asks hm d) p).call ?_
      exact frzt
  exact AW_rest (c' := restC 6 c9) (AW_has tail (by exact ⟨rfl, rfl, rfl, rfl, rfl, trivial⟩))
end Go.Proofs.YtpndfdfipkadkaaGreatDoor
set_option maxRecDepth 100000
namespace Go.Proofs.YtpndfdfipkadkaaGreatDoor
open Go Go.Wx Go.Ax
def pl6 : Plan := [(11, [.p 0, .l 1, .p 3, .l 4, .e 2, .e 5, .p 6]), (16, [.p 0, .l 1, .p 3, .l 4, .e 2, .e 5, .p 6])]
noncomputable def c6 : Code := Tryz.f6.body.getD .skip
abbrev hpO (more : Ev) (x : List Ev) : Heap := [AO.arr 23 5 [more.enc], gazAt 3 x, refM x, evsM x]
theorem blo_gazAt {k b : Nat} (h : b < k) (l : List Ev) : BlO k (gazAt b l) := by
  intro y hy d hd
  rw [List.mem_singleton] at hy
  subst hy
  rw [List.mem_singleton] at hd
  subst hd
  exact .sl h
theorem blo_refM {k : Nat} (l : List Ev) : BlO k (refM l) := by
  intro y hy d hd
  rw [List.mem_singleton] at hy
  subst hy
  rw [List.mem_singleton] at hd
  subst hd
  exact .pd (pd_rows pdEv l)
theorem blo_hpO (more : Ev) (x : List Ev) (G : Heap) (hG : ∀ o ∈ G, ∃ e : Ev, o = AO.arr 23 5 [e.enc]) : ∀ o ∈ hpO more x ++ G, BlO (hpO more x ++ G).length o := fun o ho => by
  rcases List.mem_append.1 ho with ho | ho
  · simp [hpO] at ho
    rcases ho with rfl | rfl | rfl | rfl
    · exact BlO.enc (l := [more]) pdEv
    · exact blo_gazAt (by simp) x
    · exact blo_refM x
    · exact BlO.enc pdEv
  · obtain ⟨e, rfl⟩ := hG o ho
    exact BlO.enc (l := [e]) pdEv
theorem lawOpens_c (l : List Ev) (more : Ev) (hs : ∀ e ∈ l, e.name.size ≤ maxLen) (hm : more.name.size ≤ maxLen) : Pur Pg 6 [rows Ev.enc l, .agg more.enc] (db true) := by
  refine Pur_len 0 rfl fun hlen => Pur_of (PdL.cons (pd_rows pdEv l) (PdL.one (.agg (pdEv more)))) (AC_fn Tryz.func6 rfl rfl rfl [] (fun _ => true) (fun b h => nomatch h) (AW_rest (c' := restC 0 c6) ?_))
  rw [List.length_map] at hlen
  have tail : ∀ e0 (a b : D), Pd a → Pd b → (a = nilP ∨ (a = refG l ∧ b = refG l ∧ Acc l)) → AW Pg Tryz.f6.ntmps (fun _ => true) 0 (restC 3 c6) (fun (ex : Exit) s' => dret Pg Tryz.f6.results.toList (fun d H' _ => Frz H' d (db true)) [] ex s'.e s'.H) ⟨dupds e0 [(0, rows Ev.enc l), (3, .ptr 0 0 0 1), (5, a), (6, b)], [AO.arr 23 5 [more.enc]]⟩ := by
    intro e0 a b pa pb hab
    refine goC 3 [] [] ?_
    refine AC.mono (newP_c _) ?_
    rintro _ _ _ ⟨rfl, rfl, rfl⟩
    refine AC.mono (newR_c _) ?_
    rintro _ _ _ ⟨rfl, rfl, rfl⟩
    conv => whnf
    refine AW_gcell 1 0 0 126 1 23 5 (xs := [[.v (.slice none 0 0)]]) (ds := [.v (.slice none 0 0)]) rfl rfl rfl (.inl (Nat.zero_le _)) (Nat.zero_le _) ?_
    refine AW_ncell 2 0 0 128 1 (xs := [[.v (.slice none 0 0)]]) (ds := [.v (.slice none 0 0)]) rfl rfl rfl (.inl (Nat.zero_le _)) ?_
    have tail2 : ∀ (x : List Ev) e0, Acc x → AW Pg Tryz.f6.ntmps (fun _ => true) 0 (restC 7 c6) (fun (ex : Exit) s' => dret Pg Tryz.f6.results.toList (fun d H' _ => Frz H' d (db true)) [] ex s'.e s'.H) ⟨dupds e0 [(3, .ptr 0 0 0 1), (5, a), (6, b), (8, .ptr 1 0 0 1), (9, .ptr 2 0 0 1)], hpO more x⟩ := by
      intro x e0 hx
      have tail3 : ∀ (x : List Ev) e0, Acc x → AW Pg Tryz.f6.ntmps (fun _ => true) 0 (restC 8 c6) (fun (ex : Exit) s' => dret Pg Tryz.f6.results.toList (fun d H' _ => Frz H' d (db true)) [] ex s'.e s'.H) ⟨dupds e0 [(5, a), (6, b), (8, .ptr 1 0 0 1), (9, .ptr 2 0 0 1)], hpO more x⟩ := by
        intro x e0 hx
        have hx9 : x.length ≤ 900000 := by have := hx.ok.len; omega
        have hO : ∀ o ∈ hpO more x, BlO (hpO more x).length o := by have := blo_hpO more x [] (fun _ h => nomatch h); rwa [List.append_nil] at this
        have fin : ∀ e0, AW Pg Tryz.f6.ntmps (fun _ => true) 0 (restC 9 c6) (fun (ex : Exit) s' => dret Pg Tryz.f6.results.toList (fun d H' _ => Frz H' d (db true)) [] ex s'.e s'.H) ⟨dupds e0 [(8, .ptr 1 0 0 1), (9, .ptr 2 0 0 1)], hpO more x⟩ := by
          intro e0
          refine go [] pl6 ?_
          refine alive_c.call ?_
          conv => whnf
          refine (eventsM_c x hx9 (H := hpO more x) (g := 1) (v := 3) rfl rfl hO).call ?_
          conv => whnf
          refine (eventsRM_c x hx9 (H := hpO more x) (g := 2) rfl).call ?_
          refine ((sameEv_c x).ex).call ?_
          conv => whnf
          exact frzt
        rcases hab with rfl | ⟨rfl, rfl, ha⟩
        · refine goC 1 [] pl6 ?_
          exact AW_rest (c' := restC 9 c6) (AW_has fin (by exact ⟨rfl, rfl, trivial⟩))
        · have hl9 : l.length ≤ 900000 := by have := ha.ok.len; omega
          refine goC 1 [] pl6 ?_
          refine (eventsF_c l hl9).call ?_
          refine ((eventsR_c l hl9).pur (PdL.one (pd_refG l))).call ?_
          refine (sameEv_c l).call ?_
          conv => whnf
          exact AW_rest (c' := restC 9 c6) (AW_has fin (by exact ⟨rfl, rfl, trivial⟩))
      refine AW_seq (AW_seq ?_)
      refine goC 1 [] pl6 ?_
      conv => whnf
      refine AW_block ?_
      refine AW_idx 3 (fun i st => ∃ x, Acc x ∧ HasG [(3, .ptr 0 0 0 1), (5, a), (6, b), (8, .ptr 1 0 0 1), (9, .ptr 2 0 0 1), (47, di i)] (hpO more x) st) ⟨x, hx, hasG (G := []) (by exact ⟨rfl, rfl, rfl, rfl, rfl, rfl, trivial⟩) rfl⟩ ?_
      rintro i _ hi ⟨x, hx, e1, G, rfl⟩
      refine AW_drop (BlL.cons (.ptr (by simp)) (BlL.cons (.pd pa) (BlL.cons (.pd pb) (BlL.cons (.ptr (by simp)) (BlL.cons (.ptr (by simp)) (BlL.v BlL.nil)))))) (by have := blo_hpO more x [] (fun _ h => nomatch h); rwa [List.append_nil] at this) (Nat.zero_le _) fun e1 => ?_
      refine go [] pl6 (if_ (fun hlt => ?_) (fun hlt => ?_))
      · have hlt : i < 3 := by simp at hlt; omega
        conv => whnf
        refine AC.mono (addAt_c x more hx (H := hpO more x) (g := 1) (v := 3) rfl rfl (by decide)) ?_
        rintro _ _ _ ⟨rfl, rfl, rfl⟩
        conv => whnf
        refine AC.mono (refAddAt_c x more hm hx (H := [AO.arr 23 5 [more.enc], gazAt 3 (grown x more), refM x, evsM (grown x more)]) (g := 2) rfl) ?_
        rintro _ _ _ ⟨rfl, rfl, rfl⟩
        conv => whnf
        refine iff_ (by simp) ?_
        exact ⟨hlt, grown x more, acc_grown hx _, hasG (G := []) (by exact ⟨rfl, rfl, rfl, rfl, rfl, inc hlt (by decide), trivial⟩) rfl⟩
      · exact AW_rest (c' := restC 8 c6) (AW_has (fun e0 => tail3 x e0 hx) (by exact ⟨rfl, rfl, rfl, rfl, trivial⟩))
    refine AW_rest (c' := restC 6 c6) ?_
    refine AW_seq (AW_seq ?_)
    refine goC 1 [] pl6 ?_
    conv => whnf
    refine AW_block ?_
    refine AW_idx l.length (fun i st => ∃ x, Acc x ∧ HasG [(3, .ptr 0 0 0 1), (5, a), (6, b), (8, .ptr 1 0 0 1), (9, .ptr 2 0 0 1), (33, rows Ev.enc l), (34, di l.length), (35, di i)] (hpO more x) st) ⟨[], .nil, hasG (G := []) (by exact ⟨rfl, rfl, rfl, rfl, rfl, rfl, congrArg (fun n : Nat => di n) (List.length_map ..), rfl, trivial⟩) rfl⟩ ?_
    rintro i _ hi ⟨x, hx, e1, G, rfl⟩
    refine AW_drop (BlL.cons (.ptr (by simp)) (BlL.cons (.pd pa) (BlL.cons (.pd pb) (BlL.cons (.ptr (by simp)) (BlL.cons (.ptr (by simp)) (BlL.cons (.pd (pd_rows pdEv l)) (BlL.v (BlL.v BlL.nil)))))))) (by have := blo_hpO more x [] (fun _ h => nomatch h); rwa [List.append_nil] at this) (Nat.zero_le _) fun e1 => ?_
    refine go [] pl6 (if_ (fun hlt => ?_) (fun hlt => ?_))
    · simp at hlt
      refine row_at hlt ?_
      conv => whnf
      refine AC.mono (addAt_c x l[i] hx (H := hpO more x ++ [AO.arr 23 5 [l[i].enc]]) (g := 1) (v := 3) rfl rfl (by decide)) ?_
      rintro _ _ _ ⟨rfl, rfl, rfl⟩
      conv => whnf
      refine AC.mono (refAddAt_c x l[i] (hs _ (List.getElem_mem hlt)) hx (H := [AO.arr 23 5 [more.enc], gazAt 3 (grown x l[i]), refM x, evsM (grown x l[i]), AO.arr 23 5 [l[i].enc]]) (g := 2) rfl) ?_
      rintro _ _ _ ⟨rfl, rfl, rfl⟩
      conv => whnf
      refine iff_ (by simp) ?_
      exact ⟨hlt, grown x l[i], acc_grown hx _, hasG (G := [AO.arr 23 5 [l[i].enc]]) (by exact ⟨rfl, rfl, rfl, rfl, rfl, rfl, rfl, inc hlt hlen, trivial⟩) rfl⟩
    · exact AW_rest (c' := restC 7 c6) (AW_has (fun e0 => tail2 x e0 hx) (by exact ⟨rfl, rfl, rfl, rfl, rfl, trivial⟩))
  refine goC 3 [] pl6 ?_
  rcases opened_cases (opened_c l hs) with g | ⟨h40, ha, g⟩
  · refine g.call ?_
    conv => whnf
    refine if_ (fun _ => ?_) (fun _ => ?_)
    · refine alive_c.call ?_
      conv => whnf
      exact frzt
    · exact AW_rest (c' := restC 3 c6) (AW_has (fun e0 => tail e0 nilP nilP (.v _) (.v _) (.inl rfl)) (by exact ⟨rfl, rfl, rfl, rfl, trivial⟩))
  · refine g.call ?_
    conv => whnf
    refine if_ (fun _ => ?_) (fun _ => ?_)
    · refine alive_c.call ?_
      conv => whnf
      exact frzt
    · exact AW_rest (c' := restC 3 c6) (AW_has (fun e0 => tail e0 (refG l) (refG l) (pd_refG l) (pd_refG l) (.inr ⟨rfl, rfl, ha⟩)) (by exact ⟨rfl, rfl, rfl, rfl, trivial⟩))
end Go.Proofs.YtpndfdfipkadkaaGreatDoor
