/- The law holds: part 363. Conditions: none. -/
import Derived.Test.YtpndfdfipkadkaaGreatDoorKU17
set_option linter.all false
set_option maxRecDepth 100000
namespace Go.Proofs.YtpndfdfipkadkaaGreatDoor
open Go Go.Wx Go.Ax
def gazM(l:List Ev):AO:= .arr 126 1 [[.sl 1 0 l.length l.length]]
def evsM(l:List Ev):AO:= .arr 23 5 (l.map Ev.enc)
theorem replayM_c (l : List Ev) (H : Heap) (ha : Acc l) (h0 : H[0]? = some (gazM l)) (h1 : H[1]? = some (evsM l)) :
    AC Pg 160 [.ptr 0 0 0 1, .v (.func (.func 163) ⟨[]⟩ ⟨[]⟩)] H fun d H' ms => (∃ ps, d = .map H.length ∧ Lay H' H.length H.length ps (prg (stL l))) ∧ (∀ b, b < H.length → H'[b]? = H[b]?) ∧ H.length ≤ H'.length ∧ ms = [] := by
  have hl := ha.ok.len
  have taken : ∀ {c : Nat} (hc : c < l.length), Takes (stL (l.take c)) l[c] := fun {c} hc => by
    have h1 := Takes.of (addE_zero (ha.at hc))
    rw [all_days (ha.pre c).ok.form] at h1
    exact h1
  have h02 : (H ++ [AO.map [] []])[0]? = some (gazM l) := (List.getElem?_append_left (lt_of_some h0)).trans h0
  refine AC_fn Tryz.func160 rfl rfl rfl [] (Nat.ble H.length) (fun b h h2 => absurd (Nat.le_of_ble_eq_true h2) (Nat.not_le_of_lt h)) (go [] [] ?_)
  repeat ((conv => whnf); (first | refine datarr_at h02 ?_))
  conv => whnf
  have h1l := lt_of_some h1
  obtain ⟨k, hk⟩ : ∃ k, k = H.length := ⟨_, rfl⟩
  refine AW_idx l.length (fun c st => ∃ H' ps, Lay H' H.length H.length ps (prg (stL (l.take c))) ∧ (∀ b, b < H.length → H'[b]? = H[b]?) ∧ H.length ≤ H'.length ∧ Has [(1, .v (.func (.func 163) ⟨[]⟩ ⟨[]⟩)), (5, .map H.length), (12, .sl 1 0 l.length l.length), (13, di l.length), (14, di c)] H' st)
    ⟨H ++ [.map [] []], [], ⟨rfl, List.getElem?_concat_length, fun i p x h => (by simp at h), fun i p x h => (by simp at h), by simp [layB], fun b hb => by simp [layB] at hb; omega⟩, fun b hb => List.getElem?_append_left hb, by simp, has ⟨rfl, rfl, rfl, rfl, rfl, trivial⟩ rfl⟩ ?_
  rintro c _ hc ⟨H', ps, hL, hold, hlen, e0, rfl⟩
  have hev : H'[1]? = some (.arr 23 5 (l.map Ev.enc)) := (hold 1 h1l).trans h1
  refine go [] [] (if_ (fun hlt => ?_) (fun hlt => ?_))
  · simp at hlt
    refine datarr_at hev ?_
    refine ck (and_t (by simp) rfl) ?_
    refine ixl_any (by simpa using hlt) hlt ?_
    have hN : ∀ {o : AO}, (H' ++ [o])[H'.length]? = some o := List.getElem?_concat_length
    have hN2 : ∀ {o o' : AO}, ((H' ++ [o]).set H'.length o')[H'.length]? = some o' := fun {o o'} => List.getElem?_set_self (by simp)
    repeat ((conv => whnf); (first | refine datarr_at hN2 ?_ | refine datarr_at hN ?_ | refine datarr_at hev ?_ | refine nth_at hlt ?_ | refine ck (beq_len (by simp)) ?_ | refine ck (all1 hlen) ?_))
    refine (all1_c _ _).call ?_
    have hM : ∀ {o o' : AO}, Lay ((H' ++ [o]).set H'.length o') H.length H.length ps (prg (stL (l.take c))) := fun {o o'} => (hL.app _).ext fun b hb => List.getElem?_set_ne (by have := hL.lt b hb; omega)
    repeat ((conv => whnf); (first | refine datarr_at hN2 ?_))
    refine AC.mono (applyL_c (ha.pre c) (taken hlt) hM (by simp; omega)) ?_
    rintro d H2 ms ⟨⟨ps2, g1⟩, g2, g3, rfl⟩
    refine ck (own_all (Nat.le_refl _)) ?_
    refine force_to ?_
    refine ⟨hlt, H2, ps2, by rw [List.take_succ_eq_append_getElem hlt, stL_snoc]; exact g1, fun b hb => (g2 b hb).trans ((List.getElem?_set_ne (by omega)).trans ((List.getElem?_append_left (by omega)).trans (hold b hb))), by simp at g3; omega, has ⟨rfl, rfl, rfl, rfl, inc hlt (by simp only [maxLen]; omega), trivial⟩ rfl⟩
  · simp at hlt
    have hcl : c = l.length := by omega
    subst hcl
    rw [List.take_length] at hL
    exact ⟨⟨ps, rfl, hL⟩, hold, hlen, rfl⟩
theorem allM_c (l : List Ev) (H : Heap) (ha : Acc l) (h0 : H[0]? = some (gazM l)) (h1 : H[1]? = some (evsM l)) :
    AC Pg 95 [.ptr 0 0 0 1] H fun d H' ms => (∃ ps, d = .map H.length ∧ Lay H' H.length H.length ps (prg (stL l))) ∧ (∀ b, b < H.length → H'[b]? = H[b]?) ∧ H.length ≤ H'.length ∧ ms = [] := by
  refine AC_fn Tryz.func95 rfl rfl rfl [] (Nat.ble H.length) (fun b h h2 => absurd (Nat.le_of_ble_eq_true h2) (Nat.not_le_of_lt h)) (go [] [] ?_)
  refine AC.mono (replayM_c l H ha h0 h1) ?_
  rintro d H' ms ⟨⟨ps, rfl, hL⟩, h2, h3, rfl⟩
  exact ⟨⟨ps, rfl, hL⟩, h2, h3, rfl⟩
noncomputable def c31:Code:=Tryz.f31.body.getD .skip
def pl31:Plan:=[(9,[.p 0,.p 1,.p 2,.p 3,.l 4,.p 5,.p 6,.p 7,.l 8,.p 9,.p 10,.p 11,.p 12,.l 13,.p 14,.p 15,.p 16]),(29,[.p 0,.p 1,.p 2,.p 3,.l 4,.l 5,.e 6,.e 7,.p 8,.p 9,.e 10])]
def addQ(l:List Ev)(e:Ev):OpK:=fun d H' ms=>d=di (addE l e)∧(H'[0]? =some (gazM (if addE l e==0 then l++[e]else l))∧H'[1]? =some (evsM (if addE l e==0 then l++[e]else l)))∧ms=[0,1]
abbrev K31(l:List Ev)(e:Ev):APost:=fun ex s=>dret Pg Tryz.f31.results.toList (addQ l e) [0,1] ex s.e s.H
structure AM(l:List Ev)(e:Ev)(H:Heap):Prop where
 g:H[0]? =some (gazM l)
 v:H[1]? =some (evsM l)
 x:H[2]? =some (.arr 23 5 [e.enc])
theorem AM.lt{l:List Ev}{e:Ev}{H:Heap}(h:AM l e H):2<H.length:=lt_of_some h.x
theorem AM.old{l:List Ev}{e:Ev}{H H':Heap}(h:AM l e H)(ho:∀b,b<3→H'[b]? =H[b]?):AM l e H':=⟨(ho 0 (by omega)).trans h.g,(ho 1 (by omega)).trans h.v,(ho 2 (by omega)).trans h.x⟩
theorem add_err{l:List Ev}{e:Ev}{H:Heap}(r:Int)(h:AM l e H)(h1:addE l e=r)(h2:r≠0):addQ l e (.v (.int .i64 r)) H [0,1]:=by
 refine⟨by rw[h1];rfl,?_,rfl⟩
 rw[h1,if_neg (by simpa using h2)]
 exact⟨h.g,h.v⟩
theorem add_c12{l:List Ev}{e:Ev}{H:Heap}(h:AM l e H)(h0:addE l e=0)(hl:l.length≤500000):∀e0,AW Pg 106 (fun _=>true) 2 (restC 12 c31) (K31 l e) ⟨dupds e0 [(0,.ptr 0 0 0 1),(3,.ptr 2 0 0 1)],H⟩:=by
 intro e0
 have h1l:=h.lt
 have hG:H[0]? =some (.arr 126 1 [[.sl 1 0 l.length l.length]]):=h.g
 have hV:H[1]? =some (.arr 23 5 (l.map Ev.enc)):=h.v
 have hX:=h.x
 have hG2:∀{o:AO},(H.set 1 o)[0]? =some (.arr 126 1 [[.sl 1 0 l.length l.length]]):=fun{o}=>(List.getElem?_set_ne (by decide)).trans hG
 refine go [] pl31 ?_
 repeat ((conv=>whnf);(first | refine datarr_at hG ?_ | refine datarr_at hV ?_ | refine datarr_at hX ?_))
 refine push (by simp) (by omega) ?_
 repeat ((conv=>whnf);(first | refine datarr_at hG2 ?_))
 conv=>whnf
 have hgo:(if addE l e==0 then l++[e]else l)=l++[e]:=by rw[h0];rfl
 refine⟨by rw[h0];rfl,?_,rfl⟩
 rw[hgo]
 exact⟨(List.getElem?_set_self (by simp;omega)).trans (by rw[gazM,List.length_append];rfl),(List.getElem?_set_ne (by decide)).trans ((List.getElem?_set_self (by omega)).trans (by rw[evsM,List.map_append];rfl))⟩
def deepS(t:List Pl)(l:List Nat):Bool:=l.any fun j=>match t[j]? with | some x=>x.ex&&decide (((pth t x.id).length:Int)≥8) | none=>false
def longS(t:List Pl)(l:List Nat):Bool:=l.any fun j=>match t[j]? with | some x=>decide ((x.uses.length:Int)>16) | none=>false
theorem any_seen{t:List Pl}{l:List Nat}{p:Pl→Bool}(hs:∀j∈l,j<t.length)(ha:∀j,j<t.length→j∈l):(l.any fun j=>match t[j]? with | some x=>p x | none=>false)=t.any p:=by
 rw[Bool.eq_iff_iff,List.any_eq_true,List.any_eq_true]
 constructor
 ·rintro⟨j,hj,h⟩
  have:=hs j hj
  rw[List.getElem?_eq_getElem this]at h
  exact⟨t[j],List.getElem_mem this,h⟩
 ·rintro⟨x,hx,h⟩
  obtain⟨j,hj⟩:=List.getElem?_of_mem hx
  exact⟨j,ha j (List.getElem?_eq_some_iff.1 hj).1,by rw[hj];exact h⟩
theorem deepS_all{t:List Pl}{l:List Nat}(hs:∀j∈l,j<t.length)(ha:∀j,j<t.length→j∈l):deepS t l=deepB t:=any_seen hs ha
theorem longS_all{t:List Pl}{l:List Nat}(hs:∀j∈l,j<t.length)(ha:∀j,j<t.length→j∈l):longS t l=longB t:=any_seen hs ha
theorem deepS_snoc{t:List Pl}{l:List Nat}{j:Nat}{x:Pl}(h:t[j]? =some x):deepS t (l++[j])=(deepS t l||(x.ex&&decide (((pth t x.id).length:Int)≥8))):=by simp[deepS,h]
theorem longS_snoc{t:List Pl}{l:List Nat}{j:Nat}{x:Pl}(h:t[j]? =some x):longS t (l++[j])=(longS t l||decide ((x.uses.length:Int)>16)):=by simp[longS,h]
theorem add_c11 {l : List Ev} {e : Ev} {H : Heap} {d tw lg : Bool} (h : AM l e H) (hl : l.length ≤ 500000) (h6 : addE l e = if d then 21 else if tw then 6 else if lg then 2 else 0) :
    ∀ e0, AW Pg 106 (fun _ => true) 2 (restC 11 c31) (K31 l e) ⟨dupds e0 [(0, .ptr 0 0 0 1), (3, .ptr 2 0 0 1), (9, db tw), (10, db d), (11, db lg)], H⟩ := by
  intro e0
  refine goC 1 [] pl31 ?_
  refine if_ (fun h1 => ?_) fun h1 => if_ (fun h2 => ?_) fun h2 => if_ (fun h3 => ?_) fun h3 => ?_
  · exact add_err 21 h (by rw [h6, h1]; rfl) (by decide)
  · exact add_err 6 h (by rw [h6, h1, h2]; rfl) (by decide)
  · exact add_err 2 h (by rw [h6, h1, h2, h3]; rfl) (by decide)
  · refine AW_rest (c' := restC 12 c31) ?_
    refine AW_has (add_c12 h (by rw [h6, h1, h2, h3]; rfl) hl) ?_
    exact ⟨rfl, rfl, trivial⟩
theorem pathN_c(s:List Pl)(n:Int)(l:List Int)(hp:ParOk s)(h0:hereB s 0=false)(h:IsPath s n l)(hl:l.length≤s.length)(hs:s.length≤100000):PurN Pg 99 [stD s,di n] (rows ienc l):=by
 refine PurN_of (PdL.cons (pd_st s) (.cons (.v _) .nil)) (pd_rows pdI _) ?_
 refine AC_fn Tryz.func99 rfl rfl rfl [] (fun _=>true) (fun b h=>nomatch h) (go [] [] ?_)
 refine(exists_c s n).call ?_
 refine if_ (fun hx=>?_) fun hx=>?_
 ·have hx:hereB s n=false:=by simpa using hx
  cases l with
  | nil=>exact .nil
  | cons q l=>exact absurd (parI_not hx) (by rw[h.1];exact h.2.1)
 have hx:hereB s n=true:=by simpa using hx
 obtain⟨p,hg,hex⟩:=hereB_iff.1 hx
 refine st_at hg ?_
 have hpar:p.parent=parI s n:=by rw[parI_get hg,if_pos hex]
 refine AW_ghost 5 3 1 (Nat.zero_le _) ?_
 refine AW_idx l.length (fun i st=>∃pre rest q xs,l=pre++rest∧pre.length=i∧IsPath s q rest∧xs=pre.map ienc∧Has [(0,stD s),(5,.sl 0 0 i i),(6,di (parI s q))] [.arr 3 1 xs] st) ⟨[],l,n,[],rfl,rfl,h,rfl,has ⟨rfl,rfl,congrArg di hpar,trivial⟩ rfl⟩ ?_
 rintro i _ _ ⟨pre,rest,q,xs,h1,h2,h3,h4,e,rfl⟩
 subst h4
 have hil:i≤l.length:=by rw[h1];simp;omega
 refine go [] [] ?_
 refine(exists_c s _).call ?_
 cases rest with
 | nil=>
  rw[show hereB s (parI s q)=false by rw[show parI s q=0 from h3,h0]]
  simp at h1;subst h1;subst h2
  exact frzN_rows (T:=3) (sz:=1) rfl rfl (by simp) (fun x d hd=>⟨_,List.mem_singleton.1 hd⟩) fun _=>rfl
 | cons r rest=>
  obtain⟨h4,h5,h6⟩:=h3
  have hr:hereB s r=true:=by rw[←h4];exact hp q (by rw[h4];exact h5)
  rw[h4,hr]
  obtain⟨pr,hgr,hexr⟩:=hereB_iff.1 hr
  have hparr:pr.parent=parI s r:=by rw[parI_get hgr,if_pos hexr]
  refine ift (by simp[stK];omega) ?_
  refine push (by simp[h2]) (by omega) ?_
  refine st_at hgr ?_
  exact⟨by rw[h1];simp;omega,pre++[r],rest,r,pre.map ienc++[ienc r],by simp[h1],by simp[h2],h6,by simp,has ⟨rfl,rfl,congrArg di hparr,trivial⟩ rfl⟩
theorem add_c10 {l : List Ev} {e : Ev} {H : Heap} {m : Nat} {ps : List (Nat × Nat)} {t : List Pl} {tw : Bool} (h : AM l e H) (hL : Lay H 3 m ps t) (hst : StOk t) (hl : l.length ≤ 500000) (h6 : addE l e = if deepB t then 21 else if tw then 6 else if longB t then 2 else 0) :
    ∀ e0, AW Pg 106 (fun _ => true) 2 (restC 10 c31) (K31 l e) ⟨dupds e0 [(0, .ptr 0 0 0 1), (3, .ptr 2 0 0 1), (7, .map m), (9, db tw), (10, db false), (11, db false)], H⟩ := by
  intro e0
  refine goC 1 [] pl31 ?_
  repeat ((conv => whnf); (first | refine map_at hL.map ?_))
  conv => whnf
  have hib : H.length ∉ layB m ps := fun hb => absurd (hL.lt _ hb) (by omega)
  have hil : 3 ≤ H.length := h.lt
  obtain ⟨ib, hibl⟩ : ∃ ib, ib = H.length := ⟨_, rfl⟩
  rw [← hibl] at hib hil
  have hsl : (stK t).length = t.length := by simp [stK]
  refine AW_idx t.length (fun i st => ∃ s H, Seen t.length i s ∧ AM l e H ∧ Lay H 3 m ps t ∧ H[ib]? = some (AO.iter (.map m) t.length s) ∧ Has [(0, .ptr 0 0 0 1), (3, .ptr 2 0 0 1), (7, .map m), (9, db tw), (10, db (deepS t s)), (11, db (longS t s)), (61, .it ib)] H st)
    ⟨[], H ++ [AO.iter (.map m) t.length []], ⟨rfl, .nil, fun _ hj => nomatch hj⟩, h.old fun b hb => List.getElem?_append_left (by omega), hL.app _, by rw [hibl]; exact List.getElem?_concat_length, has ⟨rfl, rfl, rfl, rfl, rfl, rfl, by rw [hibl]; rfl, trivial⟩ (by rw [← hsl]; rfl)⟩ ?_
  rintro c _ hc ⟨s, H, hs, hA, hL, hI, e0, rfl⟩
  refine go [] pl31 ?_
  conv => whnf
  refine it_at hI ?_
  conv => whnf
  refine map_at hL.map ?_
  conv => whnf
  refine ck (by rw [hsl]; exact Nat.beq_refl _) ?_
  refine ⟨fun j kk d hkj hdj hjl => ?_, fun hall => ?_⟩
  · have hj : j < t.length := by rw [← hsl]; exact (List.getElem?_eq_some_iff.1 hkj).1
    obtain ⟨hct, hs2⟩ := hs.step hj hjl
    obtain ⟨q, hq⟩ : ∃ q, ps[j]? = some q := ⟨ps[j]'(by rw [hL.len]; exact hj), List.getElem?_eq_getElem _⟩
    obtain ⟨y, hy⟩ : ∃ y, t[j]? = some y := ⟨t[j], List.getElem?_eq_getElem _⟩
    have hd : d = .ptr q.2 0 0 1 := by
      rw [layP, List.getElem?_map, hq] at hdj
      exact (Option.some.inj hdj).symm
    have hkk : kk = .int .i64 y.id := by
      rw [stK, List.getElem?_map, hy] at hkj
      exact (Option.some.inj hkj).symm
    subst hd
    subst hkk
    have hL2 : Lay (H.set ib (AO.iter (.map m) t.length (s ++ [j]))) 3 m ps t := hL.ext fun b hb => List.getElem?_set_ne fun he => hib (by rw [he]; exact hb)
    have hA2 : AM l e (H.set ib (AO.iter (.map m) t.length (s ++ [j]))) := hA.old fun b hb => List.getElem?_set_ne (by omega)
    have hI2 : (H.set ib (AO.iter (.map m) t.length (s ++ [j])))[ib]? = some (AO.iter (.map m) t.length (s ++ [j])) := List.getElem?_set_self (lt_of_some hI)
    have hP := hL2.plc j q y hq hy
    have hU := hL2.uses j q y hq hy
    generalize H.set ib (AO.iter (.map m) t.length (s ++ [j])) = H at hL2 hA2 hI2 hP hU ⊢
    have hpath : Ex Pg 99 [.map m, di y.id] H (rows ienc (pth t y.id)) := (pathN_c t y.id _ hst.par hst.zero (hst.fin.pth hst.par y.id).1 (hst.fin.pth hst.par y.id).2 hst.len).use (.cons (lay_frz hL2 (Nat.zero_le _)) (.cons (.pd (.v _)) .nil))
    refine ck rfl ?_
    conv => whnf
    refine it_at hI2 ?_
    conv => whnf
    refine map_at hL2.map ?_
    conv => whnf
    refine ck (by rw [hsl]; exact Nat.beq_refl _) ?_
    conv => whnf
    refine gl_at List.getLast?_concat ?_
    conv => whnf
    refine ky_at hkj ?_
    conv => whnf
    refine ptrq hdj ?_
    repeat ((conv => whnf); (first | refine datarr_at hP ?_))
    refine if_ (fun h1 => ?_) fun h1 => ?_
    · refine if_ (fun g1 => ?_) fun g1 => ?_
      · exact ⟨hct, s ++ [j], H, hs2, hA2, hL2, hI2, has ⟨rfl, rfl, rfl, rfl, by rw [deepS_snoc hy, h1]; rfl, by rw [longS_snoc hy, g1]; rfl, rfl, trivial⟩ rfl⟩
      · repeat ((conv => whnf); (first | refine datarr_at hP ?_))
        exact ⟨hct, s ++ [j], H, hs2, hA2, hL2, hI2, has ⟨rfl, rfl, rfl, rfl, by rw [deepS_snoc hy, h1]; rfl, by rw [longS_snoc hy, g1]; rfl, rfl, trivial⟩ rfl⟩
    · repeat ((conv => whnf); (first | refine datarr_at hP ?_))
      refine if_ (fun hx => ?_) fun hx => ?_
      · refine hpath.call ?_
        refine if_ (fun g1 => ?_) fun g1 => ?_
        · exact ⟨hct, s ++ [j], H, hs2, hA2, hL2, hI2, has ⟨rfl, rfl, rfl, rfl, by rw [deepS_snoc hy, h1, hx]; simp [rows]; rfl, by rw [longS_snoc hy, g1]; rfl, rfl, trivial⟩ rfl⟩
        · repeat ((conv => whnf); (first | refine datarr_at hP ?_))
          exact ⟨hct, s ++ [j], H, hs2, hA2, hL2, hI2, has ⟨rfl, rfl, rfl, rfl, by rw [deepS_snoc hy, h1, hx]; simp [rows]; rfl, by rw [longS_snoc hy, g1]; rfl, rfl, trivial⟩ rfl⟩
      · refine if_ (fun g1 => ?_) fun g1 => ?_
        · exact ⟨hct, s ++ [j], H, hs2, hA2, hL2, hI2, has ⟨rfl, rfl, rfl, rfl, by rw [deepS_snoc hy, h1, hx]; rfl, by rw [longS_snoc hy, g1]; rfl, rfl, trivial⟩ rfl⟩
        · repeat ((conv => whnf); (first | refine datarr_at hP ?_))
          exact ⟨hct, s ++ [j], H, hs2, hA2, hL2, hI2, has ⟨rfl, rfl, rfl, rfl, by rw [deepS_snoc hy, h1, hx]; rfl, by rw [longS_snoc hy, g1]; rfl, rfl, trivial⟩ rfl⟩
  · rw [deepS_all hs.lt hall, longS_all hs.lt hall]
    refine AW_rest (c' := restC 11 c31) ?_
    refine AW_has (add_c11 hA hl h6) ?_
    exact ⟨rfl, rfl, rfl, rfl, rfl, trivial⟩
theorem two_if(f X:Int)(c:Bool):(if f !=0 then f else if c then 20 else X)=if(if f !=0 then f else if c then 20 else 0) !=0 then(if f !=0 then f else if c then 20 else 0)else X:=by
 by_cases hf:f=0
 ·subst hf
  cases c<;>simp
 ·simp[hf]
theorem addP_c(l:List Ev)(e:Ev)(ha:Acc l):AC Pg 31 [.ptr 0 0 0 1,.agg e.enc] [gazM l,evsM l] fun d H' ms=>d=di (addE l e)∧H'=[gazM (if addE l e==0 then l++[e]else l),evsM (if addE l e==0 then l++[e]else l)]∧ms=[0,1]:=by
 have hlen:=ha.ok.len
 have hinv:=ha.ok.inv
 have hst:upToL l 100000=stL l:=all_days ha.ok.form
 have hsz:(stL l).length≤400:=Nat.le_trans ha.ok.size hlen
 have hbox:AM l e [gazM l,evsM l,.arr 23 5 [e.enc]]:=⟨rfl,rfl,rfl⟩
 refine AC.drop (AC.mono (R:=addQ l e) ?_ fun d H' ms ⟨h1,⟨h2,h3⟩,h4⟩=>?_)
 ·refine AC_fn Tryz.func31 rfl rfl rfl [0,1] (fun _=>true) (fun b h _=>by simp at h ⊢;omega) (AW_rest (c':=restC 0 c31) ?_)
  have tail1:wrongL e=0→l.length<400→lateB l e=false→∀e0,AW Pg 106 (fun _=>true) 2 (restC 5 c31) (K31 l e) ⟨dupds e0 [(0,.ptr 0 0 0 1),(3,.ptr 2 0 0 1)],[gazM l,evsM l,.arr 23 5 [e.enc]]⟩:=by
   intro h1 h2 h3 e0
   have form:=wrong_form h1
   have e1:addE l e=if refL (stL l) e !=0 then refL (stL l) e else if deepB (afterL (stL l) e)then 21 else if twiceB (stL l) e then 6 else if longB (afterL (stL l) e)then 2 else 0:=by
    rw[addE,if_neg (by simpa using h1),if_neg (by simp;omega),if_neg (by simp[h3]),hst]
    exact two_if _ _ _
   refine goC 5 [] pl31 ?_
   refine AC.mono (allM_c l _ ha rfl rfl) ?_
   rintro d H' ms ⟨⟨ps,rfl,hL⟩,hold,hlen,rfl⟩
   have hA:AM l e H':=hbox.old hold
   have hX:=hA.x
   refine ck rfl ?_
   refine force_to ?_
   repeat ((conv=>whnf);(first | refine datarr_at hX ?_))
   have hso:StOk (prg (stL l)):=hinv.toInv0.st (by omega)
   have hR:Ex Pg 96 [.map 3,.agg e.enc] H' (di (refL (stL l) e)):=by
    rw[←refL_prg]
    exact(refuses_c _ e hso).borrow (.v _) (.cons (lay_frz hL (Nat.zero_le _)) (.cons (.pd (.agg (pdEv e))) .nil))
   refine hR.call ?_
   refine if_ (fun h5=>?_) fun h5=>?_
   ·exact add_err _ hA (by rw[e1,if_pos h5]) (by simpa using h5)
   have hr0:refL (stL l) e=0:=by simpa using h5
   have htk:Takes (stL l) e:=by
    unfold refL at hr0
    by_cases hf:foundedL (stL l) e=0
    ·refine⟨form,founded_fits hf,?_⟩
     cases hc:((e.kind==3||e.kind==4)&&cont (stL l) e.place e.other)with
     | false=>rfl
     | true=>rw[hf,hc]at hr0;simp at hr0
    ·rw[if_pos (by simpa using hf)]at hr0
     exact absurd hr0 hf
   have hti:=hinv.toInv0.after htk
   have htl:=afterL_len (s:=stL l) (e:=e)
   have hN:Ex Pg 97 [.map 3,.agg e.enc] H' (db (twiceB (stL l) e)):=by
    rw[←twice_prg]
    refine(named_c _ e fun hk=>?_).borrow (.v _) (.cons (lay_frz hL (Nat.zero_le _)) (.cons (.pd (.agg (pdEv e))) .nil))
    obtain⟨x,hx,_⟩:=hereB_iff.1 (htk.fits.old (by omega))
    exact⟨nrm x,by rw[get_prg,hx];rfl,by rw[nrm_uses];exact hinv.tru x (get_mem hx).1⟩
   repeat ((conv=>whnf);(first | refine datarr_at hX ?_))
   refine hN.call ?_
   repeat ((conv=>whnf);(first | refine datarr_at hX ?_))
   refine AC.mono (applyL_c ha htk hL hlen) ?_
   rintro d H2 ms ⟨⟨ps2,g1⟩,g2,g3,rfl⟩
   refine ck (List.all_eq_true.2 fun _ _=>rfl) ?_
   refine force_to ?_
   conv=>whnf
   refine AW_rest (c':=restC 10 c31) ?_
   have h10:=add_c10 (tw:=twiceB (stL l) e) (hA.old g2) g1 (hti.st (by omega)) (by omega) (by rw[e1,hr0,deep_prg,long_prg];rfl)
   refine AW_has h10 ?_
   exact⟨rfl,rfl,rfl,rfl,rfl,rfl,trivial⟩
  refine goC 5 [] pl31 ?_
  refine(wrong_c e).call ?_
  refine if_ (fun h1=>?_) fun h1=>?_
  ·exact add_err _ hbox (by rw[addE,if_pos h1]) (by simpa using h1)
  have hw0:wrongL e=0:=by simpa using h1
  refine if_ (fun h2=>?_) fun h2=>?_
  ·refine add_err 2 hbox ?_ (by decide)
   rw[addE,if_neg (by simpa using h1),if_pos (by simpa using h2)]
  have hl4:l.length<400:=by simp at h2;omega
  have late:lateB l e=true→addE l e=7:=fun h=>by rw[addE,if_neg (by simpa using h1),if_neg (by simp;omega),if_pos h]
  refine if_ (fun h3=>?_) fun h3=>?_
  ·have hpos:0<l.length:=by simpa using h3
   have hll:(l.map Ev.enc).length=l.length:=List.length_map _
   have hw:IntKind.wrap .i64 ((l.length:Int)-1)=((l.length-1:Nat):Int):=by
    rw[wrap_id (by omega) (by omega)];omega
   have hi:l.length-1<l.length:=by omega
   have hlast:lateB l e=decide (e.day<l[l.length-1].day):=by rw[lateB,List.getLast?_eq_getElem?,List.getElem?_eq_getElem hi]
   have hix:ixl (l.map Ev.enc) 0 l.length (IntKind.wrap .i64 ((l.length:Int)-1))=some l[l.length-1].enc:=by
    rw[hw]
    exact ixl_some.2 ⟨by omega,by omega,by simp[hi]⟩
   refine ck (and_t (by simp) rfl) ?_
   refine lst_at (ds:=l[l.length-1].enc) hix ?_
   repeat ((conv=>whnf);(first | refine nth_at hi (hj:=by rw[hw];simp) ?_ | refine ck (beq_len (by simp)) ?_))
   refine if_ (fun h4=>?_) fun h4=>?_
   ·exact add_err 7 hbox (late (hlast.trans h4)) (by decide)
   ·refine AW_rest (c':=restC 5 c31) ?_
    refine AW_has (tail1 hw0 hl4 (hlast.trans h4)) ?_
    exact⟨rfl,rfl,trivial⟩
  ·have hlate:lateB l e=false:=by
    have:l=[]:=by simpa using h3
    subst this;rfl
   refine AW_rest (c':=restC 5 c31) ?_
   refine AW_has (tail1 hw0 hl4 hlate) ?_
   exact⟨rfl,rfl,trivial⟩
 ·obtain⟨a,b,G,rfl⟩:∃a b G,H'=a::b::G:=by
   match H',h2,h3 with
   |[],h2,_=>cases h2
   |[a],_,h3=>cases h3
   | a::b::G,_,_=>exact⟨a,b,G,rfl⟩
  cases h2
  cases h3
  refine⟨[_,_],G,rfl,Nat.le_refl _,by rw[h1];exact .pd (.v _),fun o ho=>?_,h1,rfl,h4⟩
  simp at ho
  rcases ho with rfl | rfl
  ·intro y hy d hd
   rw[List.mem_singleton]at hy
   subst hy
   rw[List.mem_singleton]at hd
   subst hd
   exact .sl (by simp)
  ·exact BlO.enc pdEv
end Go.Proofs.YtpndfdfipkadkaaGreatDoor
