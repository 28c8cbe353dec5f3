/- The law holds: part 221. Conditions: none. -/
import Derived.Test.YtpndfdfipkadkaaGreatDoorKS4
import Derived.Test.YtpndfdfipkadkaaGreatDoorKS10
set_option linter.all false
set_option maxRecDepth 100000
namespace Go.Proofs.YtpndfdfipkadkaaGreatDoor
open Go Go.Wx Go.Ax
theorem frzK_rows{k0:Nat}{H:Heap}{α:Type}{enc:α→List D}{xs:List α}{b n h T sz:Nat}(hb:H[b]? =some (.arr T sz (xs.map enc)))(hn:xs.length=n)(hh:xs.length=h)(he:∀x,PdL (enc x))(hz:∀x,(enc x).length=sz)(hk:k0≤b):FrzK k0 H (.sl b 0 n h) (rows enc xs):=by
 refine .sl hb (by simpa using hh) (by simp;omega) (by simpa using hn) (fun l hl=>?_) (fun j k=>(at2 (xs.map enc) j k).getD .any) (fun j k d hd=>?_) (fun j k d hd=>?_) hk
 ·obtain⟨x,_,rfl⟩:=List.mem_map.1 hl
  exact hz x
 ·rw[Nat.zero_add,hd];rfl
 ·rw[hd]
  obtain⟨l,h1,h2⟩:=at2_some.1 hd
  rw[List.getElem?_map,Option.map_eq_some_iff]at h1
  obtain⟨x,_,rfl⟩:=h1
  exact .pd (he x d (List.mem_of_getElem? h2))
def gazH(l:List Ev):Heap:=[.arr 128 1 [[rows Ev.enc l]]]
def pl32:Plan:=[(7,[.p 0,.p 1,.p 2,.p 3,.l 4,.p 5,.p 6,.p 7,.l 8,.p 9,.p 10,.p 11,.p 12,.l 13,.p 14,.p 15]),(24,[.p 0,.l 1,.p 2,.p 3,.p 4,.p 5,.p 6,.p 7,.l 8,.p 9,.p 10,.p 11,.p 12,.l 13,.p 18,.l 19,.e 14,.p 15,.p 16,.l 17,.p 20,.p 21]),(27,[.p 0,.p 1,.p 2,.p 3,.l 4,.p 5,.l 6,.e 7,.p 8])]
def pt32_35:Tre:=(.p 0 (.p 2 (.p 3 (.p 4 (.l 5 (.l 7 (.fork (.e 1 (.fork (.e 6 (.e 8 (.e 9 (.p 10 (.p 11 (.e 12 .done)))))) (.e 8 (.e 6 (.e 9 (.p 10 (.p 11 (.e 12 .done)))))))) (.e 8 (.e 1 (.e 6 (.e 9 (.p 10 (.p 11 (.e 12 .done))))))))))))))
theorem any_take{α:Type}{s:List α}{p:α→Bool}{i:Nat}(hi:i<s.length)(h:p s[i]=true):s.any p=true:=List.any_eq_true.2 ⟨s[i],List.getElem_mem hi,h⟩
theorem any_all{α:Type}{s:List α}{p:α→Bool}{i:Nat}(hi:s.length≤i)(h:∀x∈s.take i,p x=false):s.any p=false:=List.any_eq_false.2 fun x hx=>by rw[List.take_of_length_le hi]at h;rw[h x hx];simp
noncomputable def c32:Code:=Tryz.f32.body.getD .skip
def addR (l : List Ev) (e : Ev) : OpK := fun d H' ms => ∃ H2 d2, H2.length = (gazH l).length ∧ (∀ (b : Nat) o', H2[b]? = some o' → ∃ o, H'[b]? = some o ∧ FrzO (gazH l).length H' o o') ∧ (∀ b, b < (gazH l).length → b ∉ ms → H2[b]? = H'[b]?) ∧
    (FrzK (gazH l).length H' d d2 ∨ d2 = d ∧ Bl (gazH l).length d) ∧ (d2 = di (addE l e) ∧ H2 = gazH (if addE l e == 0 then l ++ [e] else l) ∧ ms = [0])
theorem refAdd_err{l:List Ev}{e:Ev}(r:Int)(G:Heap)(h1:addE l e=r)(h2:r≠0):addR l e (.v (.int .i64 r)) (gazH l++G) [0]:=by
 refine⟨gazH l,D.v (.int .i64 r),rfl,fun b o' hb=>?_,fun b _ hb=>?_,.inr ⟨rfl,.pd (.v _)⟩,by rw[h1];rfl,by rw[h1,if_neg (by simpa using h2)],rfl⟩
 ·cases b with
  | zero=>
   cases hb
   refine⟨_,rfl,rfl,rfl,rfl,fun x hx=>by rw[List.mem_singleton]at hx;subst hx;rfl,fun i j d' hd=>⟨d',hd,.inr ⟨rfl,?_⟩⟩⟩
   obtain⟨x,h3,h4⟩:=at2_some.1 hd
   have hx:=List.mem_of_getElem? h3
   rw[List.mem_singleton]at hx;subst hx
   have hd':=List.mem_of_getElem? h4
   rw[List.mem_singleton]at hd';subst hd'
   exact .pd (pd_rows pdEv l)
  | succ b=>cases hb
 ·simp[gazH]at*;omega
abbrev K32(l:List Ev)(e:Ev):APost:=fun ex s=>dret Pg Tryz.f32.results.toList (addR l e) [0] ex s.e s.H
theorem refAdd_c3 {l : List Ev} {e : Ev} {s t : List Pl} (hs : upToL l 100000 = s) (ht : afterL s e = t) (hti : Inv0 t) (hsi : Inv0 s) (hsl : s.length ≤ 400) (hll : l.length ≤ 400) (fits : EvFits s e)
    (h6 : addE l e = if twiceB s e then 6 else if longB t then 2 else 0) :
    ∀ e0, AW Pg 160 (fun _ => true) 1 (restC 13 c32) (K32 l e) ⟨dupds e0 [(0, .ptr 0 0 0 1), (3, .ptr 1 0 0 1), (7, rows Pl.enc s), (9, rows Pl.enc t)], gazH l ++ [.arr 23 5 [e.enc]]⟩ := by
  intro e0
  have six : twiceB s e = true → addE l e = 6 := fun h => by rw [h6, if_pos h]
  have hsl2 : l.length ≤ 1000000 := by omega
  have tail : twiceB s e = false → ∀ e0, AW Pg 160 (fun _ => true) 1 (restC 16 c32) (K32 l e) ⟨dupds e0 [(0, .ptr 0 0 0 1), (3, .ptr 1 0 0 1), (9, rows Pl.enc t)], gazH l ++ [.arr 23 5 [e.enc]]⟩ := by
    intro htw e0
    rw [htw] at h6
    refine go [] pl32 ?_
    refine AW_idx t.length (fun i st => (∀ x ∈ t.take i, decide ((x.uses.length : Int) > 16) = false) ∧ Has [(0, .ptr 0 0 0 1), (3, .ptr 1 0 0 1), (9, rows Pl.enc t), (14, di i)] (gazH l ++ [.arr 23 5 [e.enc]]) st) ⟨by simp, has ⟨rfl, rfl, rfl, rfl, trivial⟩ rfl⟩ ?_
    rintro i _ _ ⟨hd, e0, rfl⟩
    have htl : t.length ≤ 401 := by rw [← ht]; have := afterL_len (s := s) (e := e); omega
    refine go [] pl32 (if_ (fun hlt => ?_) (fun hlt => ?_))
    · simp at hlt
      refine row_at hlt ?_
      have hlen : (t[i].uses.map Use.enc).length = t[i].uses.length := by simp
      refine if_ (fun hx => ?_) fun hx => ?_
      · rw [hlen] at hx
        have : longB t = true := any_take hlt hx
        exact refAdd_err 2 _ (by rw [h6, if_pos this]; rfl) (by decide)
      · rw [hlen] at hx
        exact ⟨hlt, take_succ hlt hd hx, has ⟨rfl, rfl, rfl, inc hlt (by simp only [maxLen]; omega), trivial⟩ rfl⟩
    · simp at hlt
      have hlg : longB t = false := any_all hlt hd
      have h0 : addE l e = 0 := by rw [h6, hlg]; rfl
      have fin : ∀ (n : Nat) (H : Heap), n = l.length + 1 → (∃ b, 1 ≤ b ∧ H[0]? = some (.arr 128 1 [[.sl b 0 n n]]) ∧ H[b]? = some (.arr 23 5 ((l ++ [e]).map Ev.enc))) → addR l e (.v (.int .i64 0)) H [0] := by
        rintro n H rfl ⟨b, hb, hH0, hHb⟩
        refine ⟨gazH (l ++ [e]), di 0, rfl, fun c o' hc => ?_, fun c hc hn => ?_, .inr ⟨rfl, .pd (.v _)⟩, by rw [h0], by rw [h0]; rfl, rfl⟩
        · cases c with
          | zero =>
            cases hc
            refine ⟨_, hH0, rfl, rfl, rfl, fun x hx => by rw [List.mem_singleton] at hx; subst hx; rfl, fun i j d' hd => ?_⟩
            obtain ⟨x, h3, h4⟩ := at2_some.1 hd
            cases i with
            | succ i => simp at h3
            | zero =>
              simp at h3
              subst h3
              cases j with
              | succ j => simp at h4
              | zero =>
                simp at h4
                subst h4
                exact ⟨_, rfl, .inl (frzK_rows (T := 23) (sz := 5) hHb (by simp) (by simp) pdEv (fun _ => rfl) hb)⟩
          | succ c => cases hc
        · simp [gazH] at hc; subst hc; exact absurd (List.mem_singleton.2 rfl) hn
      refine AW_fork [] pt32_35 ?_
      refine And.intro (And.intro ?_ ?_) ?_
      all_goals
        refine push0 (l := l) (fun _ => rfl) (by omega) ?_
        refine push (by simp) (by simp; omega) ?_
        refine ck rfl ?_
        exact fin ((l.map Ev.enc).length + 1) _ (by simp) ⟨2, by decide, rfl, by rw [List.map_append]; rfl⟩
  refine goC 3 [] pl32 ?_
  refine (at_c s e.place).call ?_
  refine if_ (fun k2 => ?_) fun k2 => ?_
  · have hk2 : e.kind = 2 := by simpa using k2
    obtain ⟨i, hi1, hi, hi2⟩ := (get_idx (s := s) (p := e.place)).resolve_left fun h => here_get (fits.old (by omega)) h.2
    rw [hi1]
    have hu : usesOf s e.place = s[i].uses := by rw [usesOf, hi2]; rfl
    have ht0 := hsi.tru _ (List.getElem_mem hi)
    have hlt := lastT_lt s[i].uses
    obtain ⟨j, hj⟩ := Int.eq_ofNat_of_zero_le ht0
    have hj2 : j < s[i].uses.length := by omega
    have htw : twiceB s e = strEq s[i].uses[j].name e.name := by
      rw [twiceB, k2, hu, lastName, hj]
      simp [hj2, hk2]
    refine row_at hi ?_
    refine row_at hi ?_
    refine (last_c s[i].uses).call ?_
    rw [hj]
    refine ck rfl ?_
    refine row_at hj2 ?_
    refine if_ (fun h => refAdd_err 6 _ (six (htw.trans h)) (by decide)) fun h => ?_
    refine iff_ (by rw [hk2]; rfl) ?_
    refine AW_has (tail (htw.trans h)) ?_
    exact ⟨rfl, rfl, rfl, trivial⟩
  · refine if_ (fun k5 => ?_) fun k5 => ?_
    · have hk5 : e.kind = 5 := by simpa using k5
      obtain ⟨i, hi1, hi, hi2⟩ := (get_idx (s := s) (p := e.place)).resolve_left fun h => here_get (fits.old (by omega)) h.2
      rw [hi1]
      have hu : usesOf s e.place = s[i].uses := by rw [usesOf, hi2]; rfl
      have htw : twiceB s e = openB s[i].uses e.name 0 := by rw [twiceB, k2, k5, hu]; simp
      refine row_at hi ?_
      refine (open_c s[i].uses e.name 0).call ?_
      refine if_ (fun h => refAdd_err 6 _ (six (htw.trans h)) (by decide)) fun h => ?_
      refine AW_has (tail (htw.trans h)) ?_
      exact ⟨rfl, rfl, rfl, trivial⟩
    · refine AW_has (tail (by rw [twiceB, k2, k5]; rfl)) ?_
      exact ⟨rfl, rfl, rfl, trivial⟩
theorem refAdd_c (l : List Ev) (e : Ev) (hn : e.name.size ≤ maxLen) (ha : Acc l) :
    AC Pg 32 [.ptr 0 0 0 1, .agg e.enc] (gazH l) fun d H' ms => d = di (addE l e) ∧ H' = gazH (if addE l e == 0 then l ++ [e] else l) ∧ ms = [0] := by
  have hk := ha.ok
  have hr := ha.run 100000
  have hll := hk.len
  have hsz := hk.size
  have hinv := hk.inv
  have hst := all_days hk.form
  refine AC.frz (AC_fn (R := addR l e) Tryz.func32 rfl rfl rfl [0] (fun _ => true) (fun b h _ => by simp [gazH] at h; simp [h]) (goC 6 [] pl32 ?_))
  have err := @refAdd_err l e
  refine (formed_c e hn).call ?_
  refine if_ (fun h1 => ?_) fun h1 => ?_
  · exact err _ _ (by rw [addE, if_pos h1]) (by simpa using h1)
  refine if_ (fun h2 => ?_) fun h2 => ?_
  · refine err 2 _ ?_ (by decide)
    rw [addE, if_neg (by simpa using h1), if_pos (by simpa using h2)]
  have hl4 : l.length < 400 := by simp at h2; omega
  have e1 : ∀ {A B : Int}, (if wrongL e != 0 then wrongL e else if decide ((l.length : Int) ≥ 400) then A else B) = B := by
    intro A B
    rw [if_neg (by simpa using h1), if_neg (by simp; omega)]
  have late : lateB l e = true → addE l e = 7 := fun h => by rw [addE, e1, if_pos h]
  have hw0 : wrongL e = 0 := by simpa using h1
  have form := wrong_form hw0
  generalize hs : upToL l 100000 = s at *
  have hsl : s.length ≤ 400 := by rw [hst]; omega
  have hpO : PathsOk s := by rw [hst]; exact hinv.paths (by omega)
  have hi0 : Inv0 s := by rw [hst]; exact hinv.toInv0
  have tail2 : lateB l e = false → foundedL s e = 0 → ((e.kind == 3 || e.kind == 4) && cont s e.place e.other) = false → ∀ e0, AW Pg 160 (fun _ => true) 1 (restC 11 c32) (K32 l e) ⟨dupds e0 [(0, .ptr 0 0 0 1), (3, .ptr 1 0 0 1), (7, rows Pl.enc s)], gazH l ++ [.arr 23 5 [e.enc]]⟩ := by
    intro hlate hf hloop e0
    have fits := founded_fits hf
    have htk : Takes s e := ⟨form, fits, hloop⟩
    have hev : evOk s e := by subst hst; exact htk.evOk hinv (by omega)
    have hti := hi0.after htk
    have htl := afterL_len (s := s) (e := e)
    have e7 : addE l e = if deepB (afterL s e) then 21 else if twiceB s e then 6 else if longB (afterL s e) then 2 else 0 := by
      rw [addE, e1]
      simp only [hs]
      rw [if_neg (by simp [hlate]), if_neg (by simp [hf]), if_neg (by simp only [hloop]; simp)]
    refine goC 2 [] pl32 ?_
    refine (after_c s e hev).call ?_
    generalize hteq : afterL s e = t at hti htl e7
    have htp : PathsOk t := hti.paths (by omega)
    refine AW_idx t.length (fun i st => (∀ x ∈ t.take i, (x.ex && decide (((pth t x.id).length : Int) ≥ 8)) = false) ∧ Has [(0, .ptr 0 0 0 1), (3, .ptr 1 0 0 1), (7, rows Pl.enc s), (9, rows Pl.enc t), (10, di i)] (gazH l ++ [.arr 23 5 [e.enc]]) st) ⟨by simp, has ⟨rfl, rfl, rfl, rfl, rfl, trivial⟩ rfl⟩ ?_
    rintro i _ _ ⟨hd, e0, rfl⟩
    refine go [] pl32 (if_ (fun hlt => ?_) (fun hlt => ?_))
    · simp at hlt
      refine row_at hlt ?_
      refine (path_c t t[i].id _ (htp _).1 (htp _).2).call ?_
      have hlen : ((pth t t[i].id).map ienc).length = (pth t t[i].id).length := by simp
      have next : (t[i].ex && decide (((pth t t[i].id).length : Int) ≥ 8)) = false → ∀ x ∈ t.take (i + 1), (x.ex && decide (((pth t x.id).length : Int) ≥ 8)) = false := fun h => take_succ hlt hd h
      refine row_at hlt (if_ (fun hex => if_ (fun hl8 => ?_) fun hl8 => ?_) fun hex => ?_)
      · refine refAdd_err 21 _ ?_ (by decide)
        have : deepB t = true := any_take hlt (by rw [hex, Bool.true_and, ← hlen]; exact hl8)
        rw [e7, if_pos this]
      · exact ⟨hlt, next (by rw [← hlen]; rw [hl8]; simp), has ⟨rfl, rfl, rfl, rfl, inc hlt (by simp only [maxLen]; omega), trivial⟩ rfl⟩
      · exact ⟨hlt, next (by rw [hex]; rfl), has ⟨rfl, rfl, rfl, rfl, inc hlt (by simp only [maxLen]; omega), trivial⟩ rfl⟩
    · simp at hlt
      have hdp : deepB t = false := any_all hlt hd
      have h3 := refAdd_c3 hs hteq hti hi0 hsl hll fits (by rw [e7, if_neg (by simp [hdp])])
      refine AW_has h3 ?_
      exact ⟨rfl, rfl, rfl, rfl, trivial⟩
  have tail1 : lateB l e = false → ∀ e0, AW Pg 160 (fun _ => true) 1 (restC 6 c32) (K32 l e) ⟨dupds e0 [(0, .ptr 0 0 0 1), (3, .ptr 1 0 0 1)], gazH l ++ [.arr 23 5 [e.enc]]⟩ := by
    intro hlate e0
    have e2 : ∀ {A B : Int}, (if lateB l e then A else B) = B := by intro A B; rw [hlate]; rfl
    refine goC 5 [] pl32 ?_
    refine (upTo_c l 100000 hr).call ?_
    rw [hs]
    refine (founded_c s e).call ?_
    refine if_ (fun h5 => err _ _ (by rw [addE, e1, e2]; simp only [hs]; rw [if_pos h5]) (by simpa using h5)) fun h5 => ?_
    have e3 : ∀ {A B : Int}, (if foundedL s e != 0 then A else B) = B := by intro A B; rw [if_neg (by simpa using h5)]
    have e4 : ((e.kind == 3 || e.kind == 4) && cont s e.place e.other) = true → addE l e = 20 := fun h => by rw [addE, e1, e2]; simp only [hs]; rw [e3, if_pos h]
    have go2 := tail2 hlate (by simpa using h5)
    refine (cont_c s e.place e.other hpO).call ?_
    refine if_ (fun k3 => if_ (fun hc => ?_) fun hc => ?_) fun k3 => if_ (fun k4 => if_ (fun hc => ?_) fun hc => ?_) fun k4 => ?_
    · exact err 20 _ (e4 (by rw [k3, hc]; rfl)) (by decide)
    · refine AW_has (go2 (by rw [hc]; simp)) ?_
      exact ⟨rfl, rfl, rfl, trivial⟩
    · exact err 20 _ (e4 (by rw [k4, hc]; simp)) (by decide)
    · refine AW_has (go2 (by rw [hc]; simp)) ?_
      exact ⟨rfl, rfl, rfl, trivial⟩
    · refine AW_has (go2 (by rw [k3, k4]; rfl)) ?_
      exact ⟨rfl, rfl, rfl, trivial⟩
  refine if_ (fun h3 => ?_) fun h3 => ?_
  · have hpos : 0 < l.length := by simp at h3; omega
    have hw : IntKind.wrap .i64 (((l.map Ev.enc).length : Int) - 1) = ((l.length - 1 : Nat) : Int) := by
      rw [List.length_map, wrap_id (by omega) (by omega)]; omega
    refine lst_at (ds := (l[l.length - 1]'(by omega)).enc) (by rw [hw]; exact ixl_at (by rw [List.getElem?_map, List.getElem?_eq_getElem (by omega)]; rfl)) ?_
    have hlast : lateB l e = decide (e.day < (l[l.length - 1]'(by omega)).day) := by rw [lateB, List.getLast?_eq_getElem?, List.getElem?_eq_getElem (by omega)]
    refine if_ (fun h4 => err 7 _ (late (hlast.trans h4)) (by decide)) fun h4 => ?_
    refine AW_has (tail1 (hlast.trans h4)) ?_
    exact ⟨rfl, rfl, trivial⟩
  · have hlate : lateB l e = false := by
      have : l = [] := by simpa using h3
      subst this; rfl
    refine AW_has (tail1 hlate) ?_
    exact ⟨rfl, rfl, trivial⟩
end Go.Proofs.YtpndfdfipkadkaaGreatDoor
set_option maxRecDepth 100000
namespace Go.Proofs.YtpndfdfipkadkaaGreatDoor
open Go Go.Wx Go.Ax
def stK(s:List Pl):List Value:=s.map fun p=> .int .i64 p.id
def plC(p:Pl):List D:=[db p.ex,di p.parent,di p.into,rows Use.enc p.uses]
def stV(s:List Pl):List D:=s.map fun p=> .fp (plC p)
def stD(s:List Pl):D:= .fmap (stK s) (stV s)
theorem pdPlC(p:Pl):PdL (plC p):= .cons (.v _) (.cons (.v _) (.cons (.v _) (.cons (pd_rows pdUse _) .nil)))
theorem pd_st(s:List Pl):Pd (stD s):= .fmap fun d hd=>by
 obtain⟨p,_,rfl⟩:=List.mem_map.1 hd
 exact .fp (pdPlC p)
theorem keyI(a b:Int):keyP Pg 3 (.int .i64 a) (.int .i64 b)=true:=by kernel_rfl
theorem keys_st(s:List Pl)(n:Int):KeysOk Pg 3 (.int .i64 n) (stK s):=⟨keyI n n,fun k hk=>by
 obtain⟨p,_,rfl⟩:=List.mem_map.1 hk
 exact keyI n p.id⟩
theorem mget_st(s:List Pl)(n:Int):mget (.int .i64 n) (stK s) (stV s)=(get s n).map fun p=> .fp (plC p):=by
 induction s with
 | nil=>rfl
 | cons p s ih=>
  show cond (n==p.id) (some (D.fp (plC p))) (mget (.int .i64 n) (stK s) (stV s))=_
  rw[ih]
  unfold get
  rw[List.find?_cons]
  by_cases h:p.id=n
  ·subst h;simp
  ·rw[beq_eq_false_iff_ne.2 h,beq_eq_false_iff_ne.2 (Ne.symm h)];rfl
theorem st_at{s:List Pl}{n:Int}{p:Pl}{Kt:D→Prop}{Kf:Prop}(h:get s n=some p)(k:Kt (.fp (plC p))):KeysOk Pg 3 (.int .i64 n) (stK s)∧mlk (mget (.int .i64 n) (stK s) (stV s)) Kt Kf:=
 ⟨keys_st s n,mlk_some (by rw[mget_st,h];rfl) k⟩
theorem st_no{s:List Pl}{n:Int}{Kt:D→Prop}{Kf:Prop}(h:get s n=none)(k:Kf):KeysOk Pg 3 (.int .i64 n) (stK s)∧mlk (mget (.int .i64 n) (stK s) (stV s)) Kt Kf:=
 ⟨keys_st s n,mlk_none (by rw[mget_st,h];rfl) k⟩
theorem exists_c(s:List Pl)(n:Int):Pur Pg 92 [stD s,di n] (db (hereB s n)):=by
 refine fn Tryz.func92 [] [] (.cons (pd_st s) (.cons (.v _) .nil)) ?_
 cases h:get s n with
 | none=>
  refine st_no h ?_
  exact frzb (by rw[hereB_none h])
 | some p=>
  refine st_at h ?_
  refine st_at h ?_
  exact frzb (by rw[hereB_get h])
theorem missing_c(s:List Pl)(n:Int):Pur Pg 164 [stD s,di n] (di (if(get s n).isNone then 5 else if !hereB s n then 22 else 0)):=by
 refine fn Tryz.func164 [] [] (.cons (pd_st s) (.cons (.v _) .nil)) ?_
 cases h:get s n with
 | none=>
  refine st_no h ?_
  exact frzi rfl
 | some p=>
  refine st_at h ?_
  refine st_at h ?_
  refine if_ (fun hx=>?_) fun hx=>?_
  ·exact frzi (by rw[hereB_get h];simp at hx;simp[hx])
  ·exact frzi (by rw[hereB_get h];simp at hx;simp[hx])
theorem idx_c(l:List Int)(n:Int):∃r:Int,(decide (r≥0)=l.any (· ==n))∧Pur Pg 219 [rows ienc l,di n] (di r):=by
 by_cases hex:∃i:Nat,∃hi:i<l.length,(l[i]==n)=true∧∀x∈l.take i,(x==n)=false
 ·obtain⟨i0,h0,h1,h2⟩:=hex
  refine⟨i0,by rw[any_take (p:=(· ==n)) h0 h1];simp,?_⟩
  refine Pur_len 0 rfl fun hl=>fn Tryz.func219 [] [] (.cons (pd_rows pdI l) (.cons (.v _) .nil)) ?_
  rw[List.length_map]at hl
  refine AW_idx l.length (fun i st=>i≤i0∧Has [(0,rows ienc l),(1,di n),(7,di (l.map ienc).length),(8,di i)] [] st) ⟨by omega,has ⟨rfl,rfl,rfl,rfl,trivial⟩ rfl⟩ ?_
  rintro i _ _ ⟨h3,e,rfl⟩
  refine go [] [] (if_ (fun hlt=>?_) (fun hlt=>?_))
  ·simp at hlt
   refine row_at hlt (if_ (fun he=>?_) (fun he=>?_))
   ·refine frzi ?_
    rcases Nat.lt_or_eq_of_le h3 with h | h
    ·have:=h2 l[i] (by rw[List.mem_take_iff_getElem];exact⟨i,by omega,rfl⟩)
     have he':(n==l[i])=true:=he
     rw[beq_iff_eq]at he';rw[he']at this;simp at this
    ·rw[h]
   ·refine⟨hlt,?_,has ⟨rfl,rfl,rfl,inc hlt hl,trivial⟩ rfl⟩
    rcases Nat.lt_or_eq_of_le h3 with h | h
    ·omega
    ·have he':(n==l[i])=false:=he
     subst h
     rw[beq_iff_eq]at h1;rw[h1]at he';simp at he'
  ·simp at hlt;omega
 ·have hall:∀i,(hi:i<l.length)→(l[i]==n)=false:=by
   intro i
   induction i using Nat.strongRecOn with
   | _ i ih=>
    intro hi
    cases hb:l[i]==n with
    | false=>rfl
    | true=>
     refine absurd ⟨i,hi,hb,fun x hx=>?_⟩ hex
     rw[List.mem_take_iff_getElem]at hx
     obtain⟨k,hk,rfl⟩:=hx
     exact ih k (by omega) (by omega)
  refine⟨-1,?_,?_⟩
  ·have:l.any (· ==n)=false:=List.any_eq_false.2 fun x hx=>by
    obtain⟨k,hk,rfl⟩:=List.getElem_of_mem hx
    rw[hall k hk];simp
   rw[this];rfl
  ·refine Pur_len 0 rfl fun hl=>fn Tryz.func219 [] [] (.cons (pd_rows pdI l) (.cons (.v _) .nil)) ?_
   rw[List.length_map]at hl
   refine AW_idx l.length (fun i st=>Has [(0,rows ienc l),(1,di n),(7,di (l.map ienc).length),(8,di i)] [] st) (has ⟨rfl,rfl,rfl,rfl,trivial⟩ rfl) ?_
   rintro i _ _ ⟨e,rfl⟩
   refine go [] [] (if_ (fun hlt=>?_) (fun hlt=>?_))
   ·simp at hlt
    refine row_at hlt (if_ (fun he=>?_) (fun he=>?_))
    ·have he':(n==l[i])=true:=he
     have:=hall i hlt
     rw[beq_iff_eq]at he';rw[he']at this;simp at this
    ·exact⟨hlt,has ⟨rfl,rfl,rfl,inc hlt hl,trivial⟩ rfl⟩
   ·exact frzi rfl
theorem containsI_c(l:List Int)(n:Int):Pur Pg 176 [rows ienc l,di n] (db (l.any (· ==n))):=by
 obtain⟨r,h1,h2⟩:=idx_c l n
 refine fn Tryz.func176 [] [] (.cons (pd_rows pdI l) (.cons (.v _) .nil)) ?_
 refine h2.call ?_
 exact frzb h1
theorem pathP_c(s:List Pl)(n:Int)(l:List Int)(hp:ParOk s)(h0:hereB s 0=false)(h:IsPath s n l)(hl:l.length≤s.length)(hs:s.length≤100000):Pur Pg 99 [stD s,di n] (rows ienc l):=by
 refine fn Tryz.func99 [] [] (.cons (pd_st s) (.cons (.v _) .nil)) ?_
 refine(exists_c s n).call ?_
 refine if_ (fun hx=>?_) fun hx=>?_
 ·have hx:hereB s n=false:=by simpa using hx
  cases l with
  | nil=>exact .nil
  | cons q l=>exact absurd (parI_not hx) (by rw[h.1];exact h.2.1)
 have hx:hereB s n=true:=by simpa using hx
 obtain⟨p,hg,hex⟩:=hereB_iff.1 hx
 refine st_at hg ?_
 have hpar:p.parent=parI s n:=by rw[parI_get hg,if_pos hex]
 refine AW_ghost 5 3 1 (Nat.zero_le _) ?_
 refine AW_idx l.length (fun i st=>∃pre rest q xs,l=pre++rest∧pre.length=i∧IsPath s q rest∧xs=pre.map ienc∧Has [(0,stD s),(5,.sl 0 0 i i),(6,di (parI s q))] [.arr 3 1 xs] st) ⟨[],l,n,[],rfl,rfl,h,rfl,has ⟨rfl,rfl,congrArg di hpar,trivial⟩ rfl⟩ ?_
 rintro i _ _ ⟨pre,rest,q,xs,h1,h2,h3,h4,e,rfl⟩
 subst h4
 have hil:i≤l.length:=by rw[h1];simp;omega
 refine go [] [] ?_
 refine(exists_c s _).call ?_
 cases rest with
 | nil=>
  rw[show hereB s (parI s q)=false by rw[show parI s q=0 from h3,h0]]
  simp at h1;subst h1;subst h2
  exact frz_rows rfl rfl (by simp) pdI fun _=>rfl
 | cons r rest=>
  obtain⟨h4,h5,h6⟩:=h3
  have hr:hereB s r=true:=by rw[←h4];exact hp q (by rw[h4];exact h5)
  rw[h4,hr]
  obtain⟨pr,hgr,hexr⟩:=hereB_iff.1 hr
  have hparr:pr.parent=parI s r:=by rw[parI_get hgr,if_pos hexr]
  refine ift (by simp[stK];omega) ?_
  refine push (by simp[h2]) (by omega) ?_
  refine st_at hgr ?_
  exact⟨by rw[h1];simp;omega,pre++[r],rest,r,pre.map ienc++[ienc r],by simp[h1],by simp[h2],h6,by simp,has ⟨rfl,rfl,congrArg di hparr,trivial⟩ rfl⟩
theorem containsP_c(s:List Pl)(a b:Int)(l:List Int)(hp:ParOk s)(h0:hereB s 0=false)(h:IsPath s b l)(hl:l.length≤s.length)(hs:s.length≤100000):Pur Pg 116 [stD s,di a,di b] (db (contB s a b l)):=by
 refine fn Tryz.func116 [] [] (.cons (pd_st s) (.cons (.v _) (.cons (.v _) .nil))) ?_
 refine(exists_c s a).call ?_
 refine if_ (fun ha=>?_) fun ha=>?_
 ·refine(exists_c s b).call ?_
  refine if_ (fun hb=>?_) fun hb=>?_
  ·refine if_ (fun he=>?_) fun he=>?_
   ·exact frzb (by simp[contB,ha,hb,he])
   ·refine(pathP_c s b l hp h0 h hl hs).call ?_
    refine(containsI_c l a).call ?_
    exact frzb (by simp[contB,ha,hb,he])
  ·exact frzb (by simp[contB,hb])
 ·exact frzb (by simp[contB,ha])
end Go.Proofs.YtpndfdfipkadkaaGreatDoor
