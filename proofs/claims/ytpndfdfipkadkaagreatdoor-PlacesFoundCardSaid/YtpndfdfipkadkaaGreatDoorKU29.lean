/- The law holds: part 361. Conditions: none. -/
import Derived.Test.YtpndfdfipkadkaaGreatDoorKU4
import Derived.Test.YtpndfdfipkadkaaGreatDoorKU28
set_option linter.all false
set_option maxRecDepth 100000
namespace Go.Proofs.YtpndfdfipkadkaaGreatDoor
open Go Go.Wx Go.Ax
def cmpM(x y:Mt):Int:=orI [cmpI x.at_ y.at_,cmpI x.rule y.rule]
def cmpU:List Mt→List Mt→Int
 |[],[]=>0
 |[],_::_=> -1
 | _::_,[]=>1
 | x::xs,y::ys=>if cmpM x y≠0 then cmpM x y else cmpU xs ys
structure Way where
 cost:Int
 uses:List Mt
 ok:Bool
def Way.enc(w:Way):List D:=[di w.cost,rows Mt.enc w.uses,db w.ok]
theorem pdWay(w:Way):PdL w.enc:= .cons (.v _) (.cons (pd_rows pdMt _) (.one (.v _)))
def firstW(a b:Way):Int:=orI [cmpI a.cost b.cost,cmpU a.uses b.uses]
def pl207:Plan:=[(1,[.p 0,.l 1,.p 2,.l 3,.p 5,.l 6,.p 7,.l 8,.e 4,.e 9,.e 10,.e 11,.p 12])]
theorem cmpM_c(x y:Mt):Pur Pg 207 [.agg x.enc,.agg y.enc] (di (cmpM x y)):=by
 refine fn Tryz.func207 [] pl207 (.cons (.agg (pdMt x)) (.one (.agg (pdMt y)))) ?_
 refine(cmp_c _ _).call ?_
 refine(cmp_c _ _).call ?_
 refine(or_row [cmpI x.at_ y.at_,cmpI x.rule y.rule]).call ?_
 exact frzi rfl
theorem cmpU_at{u v:List Mt}{i:Nat}{x y:Mt}(hx:u[i]? =some x)(hy:v[i]? =some y):cmpU (u.drop i) (v.drop i)=if cmpM x y≠0 then cmpM x y else cmpU (u.drop (i+1)) (v.drop (i+1)):=by
 obtain⟨h1,rfl⟩:=List.getElem?_eq_some_iff.1 hx
 obtain⟨h2,rfl⟩:=List.getElem?_eq_some_iff.1 hy
 rw[List.drop_eq_getElem_cons h1,List.drop_eq_getElem_cons h2]
 rfl
theorem cmpU_c(u v:List Mt):Pur Pg 206 [rows Mt.enc u,rows Mt.enc v,.v (.func (.func 207) #[] #[])] (di (cmpU u v)):=by
 refine Pur_len 0 rfl fun hn=>Pur_len 1 rfl fun hm=>fn Tryz.func206 [] [] (.cons (pd_rows pdMt u) (.cons (pd_rows pdMt v) (.one (.v _)))) ?_
 rw[List.length_map]at hn hm
 refine AW_idx u.length (fun i st=>i≤v.length∧cmpU u v=cmpU (u.drop i) (v.drop i)∧HasG [(0,rows Mt.enc u),(1,rows Mt.enc v),(2,.v (.func (.func 207) #[] #[])),(11,rows Mt.enc u),(12,di u.length),(13,di i)] [] st) ⟨Nat.zero_le _,rfl,hasG (G:=[]) ⟨rfl,rfl,rfl,rfl,by simp[rows,dlen];rfl,rfl,trivial⟩ rfl⟩ ?_
 rintro i _ hi ⟨hiv,hc,e,G,rfl⟩
 refine AW_drop (BlL.cons (.pd (pd_rows pdMt u)) (.cons (.pd (pd_rows pdMt v)) (.v (.cons (.pd (pd_rows pdMt u)) (.v (.v .nil)))))) BlH.nil (Nat.zero_le _) fun e=>?_
 refine go [] [] (if_ (fun hlt=>?_) (fun hlt=>?_))
 ·simp at hlt
  refine row_at hlt ?_
  have hxo:u[i]? =some u[i]:=List.getElem?_eq_getElem hlt
  generalize u[i]=x at hxo
  conv=>whnf
  refine if_ (fun hge=>?_) fun hge=>?_
  ·refine frzi ?_
   simp at hge
   have:v.drop i=[]:=List.drop_eq_nil_of_le (by omega)
   rw[hc,this]
   obtain⟨h1,rfl⟩:=List.getElem?_eq_some_iff.1 hxo
   rw[List.drop_eq_getElem_cons h1]
   rfl
  simp at hge
  refine row_at hge ?_
  have hyo:v[i]? =some v[i]:=List.getElem?_eq_getElem hge
  generalize v[i]=y at hyo
  have hca:=cmpU_at hxo hyo
  refine(cmpM_c x y).call ?_
  refine if_ (fun hne=>?_) fun hne=>?_
  ·refine frzi ?_
   rw[hc,hca,if_pos (by simpa using hne)]
  ·refine⟨hlt,hge,by rw[hc,hca,if_neg (by simpa using hne)],hasG (G:=[.arr 184 2 [x.enc],.arr 184 2 [y.enc]]) ⟨rfl,rfl,rfl,rfl,rfl,inc hlt hn,trivial⟩ rfl⟩
 ·simp at hlt
  have hil:i=u.length:=by omega
  subst hil
  rw[List.drop_of_length_le (Nat.le_refl u.length)]at hc
  refine if_ (fun hl=>?_) fun hl=>?_
  ·refine frzi ?_
   rw[hc]
   simp[rows]at hl
   rw[List.drop_eq_getElem_cons hl]
   rfl
  ·refine frzi ?_
   rw[hc]
   simp[rows]at hl
   rw[List.drop_eq_nil_of_le hl]
   rfl
def pl155:Plan:=[(1,[.p 0,.l 1,.p 2,.l 3,.p 5,.l 6,.p 7,.l 8,.e 4,.e 9,.e 10,.e 11,.p 12])]
theorem first_c(a b:Way):Pur Pg 155 [.agg a.enc,.agg b.enc] (di (firstW a b)):=by
 refine fn Tryz.func155 [] pl155 (.cons (.agg (pdWay a)) (.one (.agg (pdWay b)))) ?_
 refine(cmp_c _ _).call ?_
 refine(cmpU_c _ _).call ?_
 refine(or_row [cmpI a.cost b.cost,cmpU a.uses b.uses]).call ?_
 exact frzi rfl
end Go.Proofs.YtpndfdfipkadkaaGreatDoor
set_option maxRecDepth 100000
namespace Go.Proofs.YtpndfdfipkadkaaGreatDoor
open Go Go.Wx Go.Ax
def addW(t:Way)(c:Int)(u:List Mt):Way:=⟨t.cost+c,u++t.uses,t.ok⟩
def takeW(f w:Way):Way:=if w.ok&&(!f.ok||decide (firstW w f<0))then w else f
def useD:Option Mt→D
 | none=> .v (.slice none 0 0)
 | some m=> .row true [m.enc]
theorem pdUseD(u:Option Mt):Pd (useD u):=by
 cases u with
 | none=>exact .v _
 | some m=>exact .row fun l hl d hd=>by rw[List.mem_singleton.1 hl]at hd;exact pdMt m d hd
noncomputable def c153:Code:=Tryz.f153.body.getD .skip
def pt153_1:Tre:=(.p 0 (.l 1 (.p 2 (.p 3 (.p 4 (.p 6 (.l 7 (.p 9 (.l 10 (.fork (.e 5 (.fork (.e 8 (.p 11 (.e 12 (.e 13 .done)))) (.e 12 (.e 8 (.p 11 (.e 13 .done)))))) (.e 12 (.e 5 (.e 8 (.p 11 (.e 13 .done)))))))))))))))
theorem clip_c(u:Option Mt):Pur Pg 154 [useD u] (useD u):=by
 refine fn Tryz.func154 [] [] (.one (pdUseD u)) ?_
 cases u with
 | none=>exact .pd (.v _)
 | some m=>exact .pd (pdUseD (some m))
abbrev takeR (g : Way) : OpK := fun d H' ms => ∃ H2 d2, List.length H2 = 1 ∧ (∀ (b : Nat) (o' : AO), H2[b]? = some o' → ∃ o, H'[b]? = some o ∧ FrzO 1 H' o o') ∧ (∀ (b : Nat), b < 1 → ¬b ∈ ms → H2[b]? = H'[b]?) ∧
    (FrzK 1 H' d d2 ∨ d2 = d ∧ Bl 1 d) ∧ ∃ o', (d2 = .tup [] ∧ o' = AO.arr 179 3 [g.enc]) ∧ Pd d2 ∧ PdO o' ∧ H2 = [o'] ∧ ms = [0]
theorem pdoWay(w:Way):PdO (.arr 179 3 [w.enc]):=fun l hl d hd=>by rw[List.mem_singleton.1 hl]at hd;exact pdWay w d hd
theorem takeR_of{g:Way}{d:D}{H:Heap}{r:D}(hd:d= .tup [])(h0:H[0]? =some (.arr 179 3 [[di g.cost,r,db g.ok]]))(hr:FrzK 1 H r (rows Mt.enc g.uses)):takeR g d H [0]:=by
 refine⟨[.arr 179 3 [g.enc]],d,rfl,fun b o' hb=>?_,fun b hb hn=>absurd (by simp;omega) hn,.inl (.pd (by rw[hd];exact Pd.tup fun _ h=>nomatch h)),_,⟨hd,rfl⟩,(by rw[hd];exact Pd.tup fun _ h=>nomatch h),pdoWay g,rfl,rfl⟩
 match b,hb with
 | 0,hb=>
  cases hb
  refine⟨_,h0,rfl,rfl,rfl,fun l hl=>by rw[List.mem_singleton.1 hl];rfl,fun i j d' hd'=>?_⟩
  obtain⟨l,h1,h2⟩:=at2_some.1 hd'
  match i,h1 with
  | 0,h1=>
   cases h1
   match j,h2 with
   | 0,h2=>cases h2;exact⟨_,rfl,.inl (.pd (.v _))⟩
   | 1,h2=>cases h2;exact⟨_,rfl,.inl hr⟩
   | 2,h2=>cases h2;exact⟨_,rfl,.inl (.pd (.v _))⟩
set_option maxHeartbeats 4000000 in
theorem take_c (f t : Way) (c : Int) (u : Option Mt) (h0 : 0 ≤ t.cost ∧ t.cost ≤ 1000000) (hc : 0 ≤ c ∧ c ≤ 1000000) (hu : t.uses.length ≤ 10000) : AC Pg 153 [.agg t.enc, di c, useD u, .ptr 0 0 0 1] [.arr 179 3 [f.enc]] fun d H' ms => ∃ o', (d = .tup [] ∧ o' = .arr 179 3 [(takeW f (addW t c u.toList)).enc]) ∧ Pd d ∧ PdO o' ∧ H' = [o'] ∧ ms = [0] := by
  refine AC.frz (AC_fn Tryz.func153 rfl rfl rfl [0] (fun _ => true) (fun b h _ => by simp at h; simp; omega) (AW_rest (c' := restC 0 c153) ?_))
  have tail : ∀ (w : Way) e0 (H : Heap) (b7 : Nat) (r : D), ((∃ b n, r = .sl b 0 n n) ∨ ∃ xs, r = .row true xs) → w = addW t c u.toList → 2 ≤ b7 → H[0]? = some (.arr 179 3 [f.enc]) → H[1]? = some (.arr 179 3 [t.enc]) → H[b7]? = some (.arr 179 3 [[di w.cost, r, db w.ok]]) → (∀ H' : Heap, (∀ c, 1 ≤ c → H'[c]? = H[c]?) → FrzK 1 H' r (rows Mt.enc w.uses)) →
      AW Pg Tryz.f153.ntmps (fun _ => true) 1 (restC 2 c153) (fun ex s => dret Pg Tryz.f153.results.toList (takeR (takeW f (addW t c u.toList))) [0] ex s.e s.H) ⟨dupds e0 [(3, .ptr 0 0 0 1), (4, .ptr 1 0 0 1), (7, .ptr b7 0 0 1)], H⟩ := by
    intro w e0 H b7 r hrr hw hb g0 g1 g7 hr
    rw [← hw]
    refine go [] [] ?_
    have ex : Ex Pg 155 [.agg [di w.cost, r, db w.ok], .agg f.enc] H (di (firstW w f)) := (first_c w f).borrow (lfi _) (.cons (.agg rfl fun j d d' h1 h2 => by
      match j, h1, h2 with
      | 0, h1, h2 => cases h1; cases h2; exact .pd (.v _)
      | 1, h1, h2 => cases h1; cases h2; exact (hr H fun _ _ => rfl).weak (Nat.zero_le _)
      | 2, h1, h2 => cases h1; cases h2; exact .pd (.v _)) (.cons (.pd (.agg (pdWay f))) .nil))
    repeat ((conv => whnf); (first | refine datarr_at g0 ?_ | refine datarr_at g1 ?_ | refine datarr_at g7 ?_))
    conv => whnf
    have hok : w.ok = t.ok := by rw [hw]; rfl
    have h7 : ∀ {o : AO}, (H.set 0 o)[b7]? = some (.arr 179 3 [[di w.cost, r, db w.ok]]) := fun {o} => (List.getElem?_set_ne (by omega)).trans g7
    have h0s : ∀ {o : AO}, (H.set 0 o)[0]? = some o := fun {o} => List.getElem?_set_self (lt_of_some g0)
    have yes : ∀ d, d = .tup [] → takeW f w = w → takeR (takeW f w) d (H.set 0 (.arr 179 3 [[di w.cost, r, db w.ok]])) [0] := fun d hd h => by
      rw [h]
      exact takeR_of hd h0s (hr _ fun c hc => List.getElem?_set_ne (by omega))
    have no : ∀ d, d = .tup [] → takeW f w = f → takeR (takeW f w) d H [0] := fun d hd h => by
      rw [h]
      exact takeR_of hd g0 (.pd (pd_rows pdMt _))
    clear hr
    refine if_ (fun ho => ?_) fun ho => ?_
    · repeat ((conv => whnf); (first | refine datarr_at g0 ?_ | refine datarr_at g1 ?_ | refine datarr_at g7 ?_))
      conv => whnf
      refine if_ (fun hf => ?_) fun hf => ?_
      · have hy : takeW f w = w := by unfold takeW; rw [hok, ho, hf]; rfl
        rcases hrr with ⟨br, nr, rfl⟩ | ⟨xr, rfl⟩
        all_goals
          repeat ((conv => whnf); (first | refine datarr_at g0 ?_ | refine datarr_at g7 ?_ | refine datarr_at h7 ?_ | refine datarr_at h0s ?_))
          exact yes _ rfl hy
      · repeat ((conv => whnf); (first | refine datarr_at g0 ?_ | refine datarr_at g1 ?_ | refine datarr_at g7 ?_ | refine ex.call ?_ | refine datarr_at h7 ?_ | refine datarr_at h0s ?_))
        conv => whnf
        refine if_ (fun hl => ?_) fun hl => ?_
        · have hy : takeW f w = w := by unfold takeW; rw [hok, ho, hl]; simp
          rcases hrr with ⟨br, nr, rfl⟩ | ⟨xr, rfl⟩
          all_goals
            repeat ((conv => whnf); (first | refine datarr_at g0 ?_ | refine datarr_at g7 ?_ | refine datarr_at h7 ?_ | refine datarr_at h0s ?_))
            exact yes _ rfl hy
        · have hn : takeW f w = f := by unfold takeW; rw [hok, ho, hl, hf]; rfl
          conv => whnf
          exact no _ rfl hn
    · repeat ((conv => whnf); (first | refine datarr_at g0 ?_ | refine datarr_at g1 ?_ | refine datarr_at g7 ?_))
      exact no _ rfl (by unfold takeW; rw [hok, ho]; rfl)
  refine goC 1 [] [] ?_
  conv => whnf
  refine AW_rest (c' := restC 1 c153) ?_
  refine AW_seq ?_
  refine AW_fork [] pt153_1 ?_
  have hwr : IntKind.wrap .i64 (t.cost + c) = t.cost + c := wadd (by omega) (by omega)
  have hul : (t.uses.map Mt.enc).length = t.uses.length := List.length_map _
  cases u with
  | none =>
    repeat' (first | refine ck (and_t (enc_all fun _ => rfl) rfl) ?_ | refine ck (bnd_ok (by rw [hul]; omega) (Nat.le_of_ble_eq_true rfl)) ?_ | refine ck (by kernel_rfl) ?_ | ((conv => whnf); (first | refine And.intro ?_ ?_ | refine (clip_c none).call ?_)))
    all_goals conv => whnf
    · refine AW_rest (c' := restC 2 c153) (AW_has (l := [(3, .ptr 0 0 0 1), (4, .ptr 1 0 0 1), (7, .ptr 3 0 0 1)]) (fun e0 => tail (addW t c []) e0 _ 3 (.sl 2 0 (t.uses.map Mt.enc).length (t.uses.map Mt.enc).length) (.inl ⟨_, _, rfl⟩) rfl (by omega) rfl rfl ?_ fun H' h => ?_) ⟨rfl, rfl, rfl, trivial⟩)
      · exact congrArg (fun z => some (AO.arr 179 3 [[di z, .sl 2 0 (t.uses.map Mt.enc).length (t.uses.map Mt.enc).length, db t.ok]])) hwr
      · exact frzK_rows (enc := Mt.enc) (xs := t.uses) (T := 184) (sz := 2) ((h 2 (by omega)).trans rfl) hul.symm hul.symm pdMt (fun _ => rfl) (by omega)
    all_goals
      refine AW_rest (c' := restC 2 c153) (AW_has (l := [(3, .ptr 0 0 0 1), (4, .ptr 1 0 0 1), (7, .ptr 2 0 0 1)]) (fun e0 => tail (addW t c []) e0 _ 2 (.sl 3 0 (t.uses.map Mt.enc).length (t.uses.map Mt.enc).length) (.inl ⟨_, _, rfl⟩) rfl (by omega) rfl rfl ?_ fun H' h => ?_) ⟨rfl, rfl, rfl, trivial⟩)
      · exact congrArg (fun z => some (AO.arr 179 3 [[di z, .sl 3 0 (t.uses.map Mt.enc).length (t.uses.map Mt.enc).length, db t.ok]])) hwr
      · exact frzK_rows (enc := Mt.enc) (xs := t.uses) (T := 184) (sz := 2) ((h 3 (by omega)).trans rfl) hul.symm hul.symm pdMt (fun _ => rfl) (by omega)
  | some m =>
    rcases Nat.eq_zero_or_pos t.uses.length with hz | hz
    · have hz0 : t.uses = [] := List.eq_nil_of_length_eq_zero hz
      obtain ⟨tc, tu, tok⟩ := t
      simp only at hz0
      subst hz0
      repeat' (first | refine ck (by kernel_rfl) ?_ | ((conv => whnf); (first | refine And.intro ?_ ?_ | refine (clip_c (some m)).call ?_)))
      all_goals conv => whnf
      all_goals
        refine AW_rest (c' := restC 2 c153) (AW_has (l := [(3, .ptr 0 0 0 1), (4, .ptr 1 0 0 1), (7, .ptr 2 0 0 1)]) (fun e0 => tail (addW ⟨tc, [], tok⟩ c [m]) e0 _ 2 (.row true [m.enc]) (.inr ⟨_, rfl⟩) rfl (by omega) rfl rfl ?_ fun H' h => ?_) ⟨rfl, rfl, rfl, trivial⟩)
        · exact congrArg (fun z => some (AO.arr 179 3 [[di z, .row true [m.enc], db tok]])) hwr
        · exact .row fun l hl d hd => by rw [List.mem_singleton.1 hl] at hd; exact pdMt m d hd
    · have hz0 : Nat.beq (t.uses.map Mt.enc).length 0 = true → False := fun h => by have := Nat.eq_of_beq_eq_true h; omega
      have hul1 : ([m.enc].length + (t.uses.map Mt.enc).length) = ((m :: t.uses).map Mt.enc).length := by simp; omega
      repeat' (first | refine if_ (fun h => (hz0 h).elim) fun _ => ?_ | refine ck (and_t (enc_all fun _ => rfl) rfl) ?_ | refine ck (and_t rfl (bnd_ok (by rw [hul1, List.length_map, List.length_cons]; omega) (Nat.le_of_ble_eq_true rfl))) ?_ | refine ck (by kernel_rfl) ?_ | ((conv => whnf); (first | refine And.intro ?_ ?_ | refine (clip_c (some m)).call ?_)))
      all_goals conv => whnf
      · refine AW_rest (c' := restC 2 c153) (AW_has (l := [(3, .ptr 0 0 0 1), (4, .ptr 1 0 0 1), (7, .ptr 3 0 0 1)]) (fun e0 => tail (addW t c [m]) e0 _ 3 (.sl 2 0 ([m.enc].length + (t.uses.map Mt.enc).length) ([m.enc].length + (t.uses.map Mt.enc).length)) (.inl ⟨_, _, rfl⟩) rfl (by omega) rfl rfl ?_ fun H' h => ?_) ⟨rfl, rfl, rfl, trivial⟩)
        · exact congrArg (fun z => some (AO.arr 179 3 [[di z, .sl 2 0 ([m.enc].length + (t.uses.map Mt.enc).length) ([m.enc].length + (t.uses.map Mt.enc).length), db t.ok]])) hwr
        · exact frzK_rows (enc := Mt.enc) (xs := m :: t.uses) (T := 184) (sz := 2) ((h 2 (by omega)).trans rfl) (by rw [hul1, List.length_map]) (by rw [hul1, List.length_map]) pdMt (fun _ => rfl) (by omega)
      all_goals
        refine AW_rest (c' := restC 2 c153) (AW_has (l := [(3, .ptr 0 0 0 1), (4, .ptr 1 0 0 1), (7, .ptr 2 0 0 1)]) (fun e0 => tail (addW t c [m]) e0 _ 2 (.sl 3 0 ([m.enc].length + (t.uses.map Mt.enc).length) ([m.enc].length + (t.uses.map Mt.enc).length)) (.inl ⟨_, _, rfl⟩) rfl (by omega) rfl rfl ?_ fun H' h => ?_) ⟨rfl, rfl, rfl, trivial⟩)
        · exact congrArg (fun z => some (AO.arr 179 3 [[di z, .sl 3 0 ([m.enc].length + (t.uses.map Mt.enc).length) ([m.enc].length + (t.uses.map Mt.enc).length), db t.ok]])) hwr
        · exact frzK_rows (enc := Mt.enc) (xs := m :: t.uses) (T := 184) (sz := 2) ((h 3 (by omega)).trans rfl) (by rw [hul1, List.length_map]) (by rw [hul1, List.length_map]) pdMt (fun _ => rfl) (by omega)
end Go.Proofs.YtpndfdfipkadkaaGreatDoor
