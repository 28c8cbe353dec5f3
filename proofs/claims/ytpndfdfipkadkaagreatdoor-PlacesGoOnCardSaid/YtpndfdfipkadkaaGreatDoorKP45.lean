/- The law holds: part 45. Conditions: none. -/
import Derived.Test.YtpndfdfipkadkaaGreatDoorKP44
set_option linter.all false
set_option maxRecDepth 100000
namespace Go.Proofs.YtpndfdfipkadkaaGreatDoor
open Go Go.Wx Go.Ax
noncomputable def c5 : Code := Tryz.f5.body.getD .skip
noncomputable def b5 : Code := lpC (fstC (restC 2 (lpC (lpC (restC 1 (fstC (restC 7 c5)))))))
noncomputable def n5 : Code := lpC (fstC (restC 2 (lpC (lpC (restC 7 b5)))))
section
variable {l : List Ev} {e : Int} {i : Nat} {H : Heap}
abbrev KH (L : List (Nat × D)) (H : Heap) : APost := fun ex st => ex = .normal ∧ Has L H st
theorem any_s {N : List ByteArray} {n : ByteArray} {i : Nat} (hlt : i < N.length) : (N.take (i + 1)).any (strEq n) = ((N.take i).any (strEq n) || strEq n N[i]) := by
  rw [List.take_succ_eq_append_getElem hlt, List.any_append]
  simp
theorem go4 (n : ByteArray) (M N : List ByteArray) (j : Nat) (hM : M.length ≤ maxLen) (e0 : Nat → D) :
    AW Pg 158 (fun _ => true) 0 (restC 1 (fstC (restC 2 n5))) (KH [(0, rows Ev.enc l), (3, di e), (9, refG l), (90, rows Ev.enc l), (91, di l.length), (92, di i), (20, rows senc M), (23, db (M.any (strEq n))), (134, rows senc N), (135, di N.length), (136, di j)] H)
      ⟨dupds e0 [(0, rows Ev.enc l), (3, di e), (9, refG l), (90, rows Ev.enc l), (91, di l.length), (92, di i), (20, rows senc M), (22, ds' n), (23, db false), (134, rows senc N), (135, di N.length), (136, di j), (140, rows senc M), (141, di M.length), (142, di 0)], H⟩ := by
  refine AW_block ?_
  refine AW_idx M.length (fun k st => Has [(0, rows Ev.enc l), (3, di e), (9, refG l), (90, rows Ev.enc l), (91, di l.length), (92, di i), (20, rows senc M), (22, ds' n), (23, db ((M.take k).any (strEq n))), (134, rows senc N), (135, di N.length), (136, di j), (140, rows senc M), (141, di M.length), (142, di k)] H st) ⟨_, rfl⟩ ?_
  rintro k _ hk ⟨e0, rfl⟩
  refine go [] [] (if_ (fun hlt => ?_) (fun hlt => ?_))
  · simp at hlt
    refine row_at hlt ?_
    have hex := any_s (n := n) hlt
    refine if_ (fun h1 => ?_) fun h1 => ?_
    · exact ⟨hlt, has ⟨rfl, rfl, rfl, rfl, rfl, rfl, rfl, rfl, congrArg db (show true = _ by rw [hex, h1]; rfl), rfl, rfl, rfl, rfl, rfl, inc hlt hM, trivial⟩ rfl⟩
    · exact ⟨hlt, has ⟨rfl, rfl, rfl, rfl, rfl, rfl, rfl, rfl, congrArg db (show strEq n M[k] = _ by rw [hex, h1]; rfl), rfl, rfl, rfl, rfl, rfl, inc hlt hM, trivial⟩ rfl⟩
  · simp at hlt
    have : k = M.length := by omega
    subst this
    rw [List.take_length]
    exact ⟨rfl, has ⟨rfl, rfl, rfl, rfl, rfl, rfl, rfl, rfl, rfl, rfl, rfl, trivial⟩ rfl⟩
theorem go2 (M N : List ByteArray) (hM : M.length ≤ maxLen) (hN : N.length ≤ maxLen) (hsub : ∀ n ∈ N, n ∈ M) (e0 : Nat → D) :
    AW Pg 158 (fun _ => true) 0 (restC 7 b5) (KH [(0, rows Ev.enc l), (3, di e), (9, refG l), (90, rows Ev.enc l), (91, di l.length), (92, di i)] H)
      ⟨dupds e0 [(0, rows Ev.enc l), (3, di e), (9, refG l), (90, rows Ev.enc l), (91, di l.length), (92, di i), (20, rows senc M), (134, rows senc N), (135, di N.length), (136, di 0)], H⟩ := by
  refine AW_block ?_
  refine AW_idx N.length (fun j st => Has [(0, rows Ev.enc l), (3, di e), (9, refG l), (90, rows Ev.enc l), (91, di l.length), (92, di i), (20, rows senc M), (134, rows senc N), (135, di N.length), (136, di j)] H st) ⟨_, rfl⟩ ?_
  rintro j _ hj ⟨e0, rfl⟩
  refine goC 2 [] [] (if_ (fun hlt => ?_) (fun hlt => ?_))
  · simp at hlt
    refine AW_seq (AW_block (AW_mono (K := KH [(0, rows Ev.enc l), (3, di e), (9, refG l), (90, rows Ev.enc l), (91, di l.length), (92, di i), (20, rows senc M), (134, rows senc N), (135, di N.length), (136, di j)] H) ?_ ?_))
    · refine goC 2 [] [] ?_
      refine row_at hlt ?_
      conv => whnf
      refine AW_seq (AW_seq ?_)
      refine goC 1 [] [] ?_
      conv => whnf
      refine AW_mono (AW_rest (c' := restC 1 (fstC (restC 2 n5))) (AW_has (fun e0 => go4 N[j] M N j hM e0) (by exact ⟨rfl, rfl, rfl, rfl, rfl, rfl, rfl, rfl, rfl, rfl, rfl, rfl, rfl, congrArg (fun n : Nat => di n) (List.length_map ..), rfl, trivial⟩))) ?_
      rintro ex st ⟨rfl, e1, rfl⟩
      refine go [] [] ?_
      refine iff_ (by rw [show M.any (strEq N[j]) = true from List.any_eq_true.2 ⟨N[j], hsub _ (List.getElem_mem hlt), strEq_refl _⟩]; rfl) ?_
      exact ⟨rfl, has ⟨rfl, rfl, rfl, rfl, rfl, rfl, rfl, rfl, rfl, rfl, trivial⟩ rfl⟩
    · rintro ex st ⟨rfl, e1, rfl⟩
      refine go [] [] ?_
      exact ⟨hlt, has ⟨rfl, rfl, rfl, rfl, rfl, rfl, rfl, rfl, rfl, inc hlt hN, trivial⟩ rfl⟩
  · exact ⟨rfl, has ⟨rfl, rfl, rfl, rfl, rfl, rfl, trivial⟩ rfl⟩
end
theorem acc_open {l : List Ev} (ha : Acc l) : openD l = .tup [refG l, di 0, di 0] := openD_ok (openI_none fun j hj => by rw [badAt_eq hj, ha.at hj]; rfl)
def KB (L : List (Nat × D)) : APost := fun ex st => (ex = .normal ∨ ex = .exit 1) ∧ HasG L [] st
theorem go1 {l : List Ev} {e : Int} (ha : Acc l) (h0 : 0 ≤ e) (h1 : e ≤ 100000) (i : Nat) (hlt : i < l.length) (e0 : Nat → D) :
    AW Pg 158 (fun _ => true) 0 b5 (KB [(0, rows Ev.enc l), (3, di e), (9, refG l), (90, rows Ev.enc l), (91, di l.length), (92, di i)]) ⟨dupds e0 [(0, rows Ev.enc l), (3, di e), (9, refG l), (90, rows Ev.enc l), (91, di l.length), (92, di i)], []⟩ := by
  have hG : ∀ {st : St}, (∃ e1, st = ⟨dupds e1 [(0, rows Ev.enc l), (3, di e), (9, refG l), (90, rows Ev.enc l), (91, di l.length), (92, di i)], [.arr 23 5 [l[i].enc]]⟩) → HasG [(0, rows Ev.enc l), (3, di e), (9, refG l), (90, rows Ev.enc l), (91, di l.length), (92, di i)] [] st := fun ⟨e1, h⟩ => ⟨e1, _, h⟩
  refine goC 2 [] [] ?_
  refine row_at hlt ?_
  have hcont : ∀ e0, l[i].kind = 4 → l[i].day ≤ e → AW Pg 158 (fun _ => true) 0 (restC 2 b5) (KB [(0, rows Ev.enc l), (3, di e), (9, refG l), (90, rows Ev.enc l), (91, di l.length), (92, di i)]) ⟨dupds e0 [(0, rows Ev.enc l), (3, di e), (9, refG l), (90, rows Ev.enc l), (91, di l.length), (92, di i), (14, di i), (15, .ptr 0 0 0 1)], [.arr 23 5 [l[i].enc]]⟩ := by
    intro e0 hk hd
    have hp := ha.pre i
    have hopen := openF_c (l.take i)
    rw [acc_open hp] at hopen
    refine goC 5 [] [] ?_
    refine ck (and_t (upto (by rw [List.length_map]; omega)) (enc_all fun _ => rfl)) ?_
    conv => whnf
    refine AC.via (Pur.call hopen ?_) ?_
    · conv => whnf
      refine (qGoesOn_c l l[i].place e ha).call ?_
      refine (qNames_c l _ e ha).call ?_
      refine (qNames_c (l.take i) l[i].place l[i].day hp).call ?_
      conv => whnf
      refine AW_mono (AW_rest (c' := restC 7 b5) (AW_has (fun e0 => go2 (namesL (onL l e) (endN (onL l e) l[i].place) e) (namesL (onL (l.take i) l[i].day) l[i].place l[i].day) (Nat.le_trans (names_len (ha.invOn e).1.few _ _) (by decide)) (Nat.le_trans (names_len (hp.invOn _).1.few _ _) (by decide)) (fun n hn => keeps_law ha hlt hk hd h1 hn) e0) (by exact ⟨rfl, rfl, rfl, rfl, rfl, rfl, rfl, rfl, congrArg (fun n : Nat => di n) (List.length_map ..), rfl, trivial⟩))) ?_
      rintro ex st ⟨rfl, e1, rfl⟩
      exact ⟨.inl rfl, hG ⟨_, rfl⟩⟩
    · refine congrArg (fun x => [x]) ?_
      conv => lhs; whnf
      simp [cutL, rows, List.map_take]
  conv => whnf
  refine if_ (fun h2 => ?_) fun h2 => ?_
  · exact ⟨.inr rfl, hasG0 (by exact ⟨rfl, rfl, rfl, rfl, rfl, rfl, trivial⟩)⟩
  · refine if_ (fun h3 => ?_) fun h3 => ?_
    · exact ⟨.inr rfl, hasG0 (by exact ⟨rfl, rfl, rfl, rfl, rfl, rfl, trivial⟩)⟩
    · exact AW_rest (c' := restC 2 b5) (AW_has (fun e0 => hcont e0 (by simpa using h2) (by simpa using h3)) (by exact ⟨rfl, rfl, rfl, rfl, rfl, rfl, rfl, rfl, trivial⟩))
end Go.Proofs.YtpndfdfipkadkaaGreatDoor
set_option maxRecDepth 100000
namespace Go.Proofs.YtpndfdfipkadkaaGreatDoor
open Go Go.Wx Go.Ax
theorem lawGoOn_c (l : List Ev) (p d e : Int) : Pur Pg 5 [rows Ev.enc l, di p, di d, di e] (db true) := by
  refine Pur_len 0 rfl fun hlen => Pur_of (PdL.cons (pd_rows pdEv l) (.cons (.v _) (.cons (.v _) (PdL.one (.v _))))) (AC_fn Tryz.func5 rfl rfl rfl [] (fun _ => true) (fun b h => nomatch h) (AW_rest (c' := restC 0 c5) ?_))
  rw [List.length_map] at hlen
  refine goC 3 [] [] ?_
  rcases open_cases (openF_c l) with ⟨i, er, he, g⟩ | ⟨ha, g⟩
  · refine g.call ?_
    conv => whnf
    refine alive_c.call ?_
    conv => whnf
    refine if_ (fun _ => ?_) (fun _ => ?_)
    · exact frzt
    · exact frzb (by simp [he])
  refine g.call ?_
  conv => whnf
  refine if_ (fun h40 => ?_) (fun _ => ?_)
  · refine alive_c.call ?_
    conv => whnf
    refine ift h40 ?_
    exact frzt
  refine AW_rest (c' := restC 3 c5) ?_
  have tail : ∀ e0, 0 ≤ e → e ≤ 100000 → AW Pg Tryz.f5.ntmps (fun _ => true) 0 (restC 7 c5) (fun ex s' => dret Pg Tryz.f5.results.toList (fun d H' _ => Frz H' d (db true)) [] ex s'.e s'.H) ⟨dupds e0 [(0, rows Ev.enc l), (3, di e), (9, refG l)], []⟩ := by
    intro e0 h0 h1
    refine AW_seq (AW_seq ?_)
    refine goC 1 [] [] ?_
    conv => whnf
    refine AW_block ?_
    refine AW_idx l.length (fun i st => HasG [(0, rows Ev.enc l), (3, di e), (9, refG l), (90, rows Ev.enc l), (91, di l.length), (92, di i)] [] st) (hasG0 (by exact ⟨rfl, rfl, rfl, rfl, congrArg (fun n : Nat => di n) (List.length_map ..), rfl, trivial⟩)) ?_
    rintro i _ hi ⟨e1, G, rfl⟩
    refine AW_drop (BlL.cons (.pd (pd_rows pdEv l)) (BlL.v (BlL.cons (.pd (pd_refG l)) (BlL.cons (.pd (pd_rows pdEv l)) (BlL.v (BlL.v BlL.nil)))))) (fun _ h => nomatch h) (Nat.zero_le _) fun e1 => ?_
    refine goC 2 [] [] (if_ (fun hlt => ?_) (fun hlt => ?_))
    · simp at hlt
      refine AW_seq (AW_block (AW_mono (AW_rest (c' := b5) (AW_has (fun e0 => go1 ha h0 h1 i hlt e0) (by exact ⟨rfl, rfl, rfl, rfl, rfl, rfl, trivial⟩))) ?_))
      have nxt : ∀ st : St, HasG [(0, rows Ev.enc l), (3, di e), (9, refG l), (90, rows Ev.enc l), (91, di l.length), (92, di i)] [] st → AW Pg Tryz.f5.ntmps (fun _ => true) 0 (restC 3 (lpC (lpC (restC 1 (fstC (restC 7 c5)))))) (fun ex st => ex = .normal ∧ HasG [(0, rows Ev.enc l), (3, di e), (9, refG l), (90, rows Ev.enc l), (91, di l.length), (92, di ((i + 1 : Nat) : Int))] [] st) st := by
        rintro st ⟨e2, G2, rfl⟩
        refine go [] [] ?_
        exact ⟨rfl, hasG0 (by exact ⟨rfl, rfl, rfl, rfl, rfl, inc hlt hlen, trivial⟩)⟩
      rintro ex st ⟨hex, hst⟩
      rcases hex with rfl | rfl
      all_goals
        refine AW_mono (AW_rest (c' := restC 3 (lpC (lpC (restC 1 (fstC (restC 7 c5)))))) (nxt st hst)) ?_
        rintro ex st ⟨rfl, hst⟩
        exact ⟨hlt, hst⟩
    · refine go [] [] ?_
      refine alive_c.call ?_
      exact frzt
  refine goC 1 [] [] ?_
  refine if_ (fun _ => ?_) (fun hd => ?_)
  · refine alive_c.call ?_
    exact frzt
  refine if_ (fun _ => ?_) (fun hde => ?_)
  · refine alive_c.call ?_
    exact frzt
  refine if_ (fun _ => ?_) (fun h1 => ?_)
  · refine alive_c.call ?_
    exact frzt
  have h0 : 0 ≤ d := by simpa using hd
  have h2 : d ≤ e := by simpa using hde
  have h3 : e ≤ 100000 := by simpa using h1
  have hg := goes_law ha h0 h2 h3 p
  simp only [endN] at hg
  refine AW_rest (c' := restC 4 c5) ?_
  refine goC 3 [] [] ?_
  refine (qGoesOn_c l p d ha).call ?_
  refine (qGoesOn_c l p e ha).call ?_
  refine if_ (fun hp => ?_) fun hp => ?_
  · obtain ⟨k1, k2, k3⟩ := hg (by simpa using hp)
    refine (qExists_c l _ d ha).call ?_
    refine iff_ (by rw [k1]; rfl) ?_
    refine (qGoesOn_c l _ e ha).call ?_
    refine iff_ (by simpa using k2) ?_
    refine iff_ (by simpa using k3) ?_
    exact AW_rest (c' := restC 7 c5) (AW_has (fun e0 => tail e0 (by omega) h3) (by exact ⟨rfl, rfl, rfl, trivial⟩))
  · exact AW_rest (c' := restC 7 c5) (AW_has (fun e0 => tail e0 (by omega) h3) (by exact ⟨rfl, rfl, rfl, trivial⟩))
end Go.Proofs.YtpndfdfipkadkaaGreatDoor
