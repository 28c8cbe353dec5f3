/- The law holds: part 42. Conditions: none. -/
import Derived.Test.YtpndfdfipkadkaaGreatDoorKP17
import Derived.Test.YtpndfdfipkadkaaGreatDoorKP37
set_option linter.all false
set_option maxRecDepth 100000
namespace Go.Proofs.YtpndfdfipkadkaaGreatDoor
open Go Go.Wx Go.Ax
theorem mem_using {l : List Use} {d : Int} {n : ByteArray} : n ∈ usingL l d ↔ ∃ u ∈ l, inUse d u = true ∧ u.name = n := by
  rw [using_uniq, uniqS_mem, List.mem_map]
  constructor
  · rintro ⟨u, hu, rfl⟩
    exact ⟨u, (List.mem_filter.1 hu).1, (List.mem_filter.1 hu).2, rfl⟩
  · rintro ⟨u, h1, h2, rfl⟩
    exact ⟨u, List.mem_filter.2 ⟨h1, h2⟩, rfl⟩
theorem merged_eq (l : List Use) (d : Int) : ∀ (ns : List ByteArray) (out : List Use), ns.foldl (fun out n => if openB l n 2 then out else out ++ [newA n d]) out = out ++ (ns.filter fun n => !openB l n 2).map (newA · d)
  | [], out => by simp
  | n :: ns, out => by
    rw [List.foldl_cons, merged_eq l d ns]
    by_cases h : openB l n 2 = true
    · rw [if_pos h, List.filter_cons_of_neg (by simp [h])]
    · rw [if_neg h, List.filter_cons_of_pos (by simpa using h)]
      simp
theorem merged_app (l o : List Use) (d : Int) : mergedL l o d = l ++ ((usingL o d).filter fun n => !openB l n 2).map (newA · d) := merged_eq l d _ l
theorem mem_setAt {k t : Int} {l : List Use} {u : Use} (h : u ∈ setAt k t l) : ∃ v ∈ l, u = v ∨ u = { v with til := t } := by
  obtain ⟨i, hi, e⟩ := List.mem_mapIdx.1 h
  refine ⟨l[i], List.getElem_mem hi, ?_⟩
  rw [← e]
  split
  · exact .inr rfl
  · exact .inl rfl
theorem setAt_mem {k t : Int} {l : List Use} {i : Nat} {u : Use} (h : l[i]? = some u) (hk : (i : Int) ≠ k) : u ∈ setAt k t l := by
  obtain ⟨hi, e⟩ := List.getElem?_eq_some_iff.1 h
  refine List.mem_mapIdx.2 ⟨i, hi, ?_⟩
  rw [if_neg (by simpa using hk), e]
theorem setAt_len (k t : Int) (l : List Use) : (setAt k t l).length = l.length := by simp [setAt]
theorem lastT_kind : ∀ {l : List Use} {i : Nat} {u : Use}, lastT l = i → l[i]? = some u → u.kind = 1
  | v :: r, i, u, h, hu => by
    rw [lastT] at h
    by_cases h1 : lastT r ≥ 0
    · rw [if_pos h1] at h
      obtain ⟨j, rfl⟩ : ∃ j, i = j + 1 := ⟨i - 1, by omega⟩
      exact lastT_kind (l := r) (i := j) (by omega) (by simpa using hu)
    · rw [if_neg h1] at h
      by_cases h2 : (v.kind == 1) = true
      · rw [if_pos h2] at h
        obtain rfl : i = 0 := by omega
        simp at hu
        rw [← hu]
        simpa using h2
      · rw [if_neg h2] at h
        omega
inductive UAft (s : List Pl) (e : Ev) (q : Int) (y : Pl) : Prop
  | same (x : Pl) (h : get s q = some x) (hu : y.uses = x.uses) (hx : y.ex = x.ex)
  | new (h : get s q = none) (hk : e.kind = 1) (hq : q = e.place) (hy : y = foundP e)
  | ren (x : Pl) (h : get s q = some x) (hk : e.kind = 2) (hq : q = e.place) (hu : y.uses = renL x.uses e.name e.day) (hx : x.ex = true) (hy : y.ex = true)
  | ali (x : Pl) (h : get s q = some x) (hk : e.kind = 5) (hq : q = e.place) (hu : y.uses = x.uses ++ [newA e.name e.day]) (hx : x.ex = true) (hy : y.ex = true)
  | mrg (x z : Pl) (h : get s q = some x) (hz : get s e.place = some z) (hk : e.kind = 4) (hq : q = e.other) (hu : y.uses = mergedL x.uses z.uses e.day) (hx : x.ex = true) (hy : y.ex = true)
  | cap (x : Pl) (h : get s q = some x) (hk : e.kind = 4) (hq : q = e.place) (hu : y.uses = capT e.day x.uses) (hx : x.ex = true) (hy : y.ex = false)
theorem here_ex {s : List Pl} {p : Int} {x : Pl} (h : hereB s p = true) (hg : get s p = some x) : x.ex = true := by rw [hereB_get hg] at h; exact h
theorem reP_ex (e : Ev) (x : Pl) : (reParent e x).ex = x.ex := by unfold reParent; split <;> rfl
theorem reP_uses (e : Ev) (x : Pl) : (reParent e x).uses = x.uses := by unfold reParent; split <;> rfl
theorem uaft {s : List Pl} {e : Ev} {q : Int} {y : Pl} (ht : Takes s e) (hg : get (afterL s e) q = some y) : UAft s e q y := by
  have hk := ht.form.kind
  rcases hk with k | k | k | k | k
  · rw [get_after1 k] at hg
    cases h : get s q with
    | some x => rw [h] at hg; simp only [Option.some.injEq] at hg; subst hg; exact .same _ h rfl rfl
    | none =>
      rw [h] at hg
      simp only at hg
      by_cases hp : e.place = q
      · rw [if_pos hp] at hg; exact .new h k hp.symm (Option.some.inj hg).symm
      · rw [if_neg hp] at hg; cases hg
  · rw [get_after2 k] at hg
    by_cases hp : q = e.place
    · rw [if_pos hp] at hg
      cases h : get s q with
      | none => rw [h] at hg; cases hg
      | some x =>
        rw [h] at hg
        cases hg
        have := here_ex (ht.fits.old (by omega)) (hp ▸ h)
        exact .ren x h k hp rfl this this
    · rw [if_neg hp] at hg
      exact .same y hg rfl rfl
  · rw [get_after3 k] at hg
    by_cases hp : q = e.place
    · rw [if_pos hp] at hg
      cases h : get s q with
      | none => rw [h] at hg; cases hg
      | some x => rw [h] at hg; cases hg; exact .same x h rfl rfl
    · rw [if_neg hp] at hg
      exact .same y hg rfl rfl
  · have hne := (ht.form.o4 k).2
    have ho := (ht.form.o4 k).1
    rw [get_after4 k hne] at hg
    by_cases hp : q = e.place
    · rw [if_pos hp] at hg
      cases h : get s q with
      | none => rw [h] at hg; cases hg
      | some x =>
        rw [h] at hg
        cases hg
        exact .cap x h k hp (by rw [reP_uses]; rfl) (here_ex (ht.fits.old (by omega)) (hp ▸ h)) (by rw [reP_ex]; rfl)
    · rw [if_neg hp] at hg
      by_cases hq : q = e.other
      · rw [if_pos hq] at hg
        cases h : get s q with
        | none => rw [h] at hg; cases hg
        | some x =>
          rw [h] at hg
          cases hg
          have hx := here_ex (ht.fits.oth (by omega)) (hq ▸ h)
          obtain ⟨z, hz, _⟩ := hereB_iff.1 (ht.fits.old (by omega))
          exact .mrg x z h hz k hq (by rw [reP_uses, hz]; rfl) hx (by rw [reP_ex]; exact hx)
      · rw [if_neg hq] at hg
        cases h : get s q with
        | none => rw [h] at hg; cases hg
        | some x => rw [h] at hg; cases hg; exact .same x h (reP_uses e x) (reP_ex e x)
  · rw [get_after5 k] at hg
    by_cases hp : q = e.place
    · rw [if_pos hp] at hg
      cases h : get s q with
      | none => rw [h] at hg; cases hg
      | some x =>
        rw [h] at hg
        cases hg
        have := here_ex (ht.fits.old (by omega)) (hp ▸ h)
        exact .ali x h k hp rfl this this
    · rw [if_neg hp] at hg
      exact .same y hg rfl rfl
theorem get_aft {s : List Pl} {e : Ev} {q : Int} {x : Pl} (hi : Inv0 s) (ht : Takes s e) (hg : get s q = some x) : ∃ y, get (afterL s e) q = some y := by
  have := (aft hi ht.form ht.fits).known q
  rw [hg] at this
  exact Option.isSome_iff_exists.1 (by rw [this]; rfl)
theorem Acc.step {l : List Ev} {e : Ev} (h : Acc l) (he : addE l e = 0) : Takes (stL l) e ∧ InvS (stL l) ∧ (∀ x ∈ l, x.day ≤ e.day) ∧ stL (l ++ [e]) = afterL (stL l) e := by
  have ha := addE_zero he
  have ht := Takes.of ha
  rw [all_days h.ok.form] at ht
  refine ⟨ht, h.ok.inv, fun x hx => ?_, stL_snoc l e⟩
  have hs := (h.ok.snoc ha).sort
  exact (List.pairwise_append.1 hs).2.2 x hx e (by simp)
structure UInv (l : List Ev) (s : List Pl) : Prop where
  tru : ∀ q x, get s q = some x → x.ex = true → ∃ u, x.uses[(lastT x.uses).toNat]? = some u ∧ u.til = 100001
  frm : ∀ q x, get s q = some x → ∀ u ∈ x.uses, ∃ e ∈ l, u.frm = e.day
  til : ∀ q x, get s q = some x → ∀ u ∈ x.uses, u.til = 100001 ∨ ∃ e ∈ l, u.til = e.day ∨ u.til = e.day + 3650
theorem UInv.step {l : List Ev} {s : List Pl} {e : Ev} (h : UInv l s) (ht : Takes s e) : UInv (l ++ [e]) (afterL s e) := by
  have up : ∀ {P : Ev → Prop}, (∃ x ∈ l, P x) → ∃ x ∈ l ++ [e], P x := fun ⟨x, hx, hp⟩ => ⟨x, List.mem_append_left _ hx, hp⟩
  have lst : ∀ {P : Ev → Prop}, P e → ∃ x ∈ l ++ [e], P x := fun hp => ⟨e, by simp, hp⟩
  have upt : ∀ {t : Int}, (t = 100001 ∨ ∃ x ∈ l, t = x.day ∨ t = x.day + 3650) → (t = 100001 ∨ ∃ x ∈ l ++ [e], t = x.day ∨ t = x.day + 3650) := fun h => h.imp id up
  refine ⟨fun q y hg hy => ?_, fun q y hg u hu => ?_, fun q y hg u hu => ?_⟩
  · cases uaft ht hg with
    | same x h1 h2 h3 => rw [h2]; exact h.tru q x h1 (h3 ▸ hy)
    | new h1 h2 h3 h4 => rw [h4]; exact ⟨newT e.name e.day, rfl, rfl⟩
    | ren x h1 _ _ h2 _ _ =>
      refine ⟨newT e.name e.day, ?_, rfl⟩
      rw [h2, renL, lastT_snoc, if_pos (show ((newT e.name e.day).kind == 1) = true from rfl), Int.toNat_natCast, List.getElem?_concat_length]
    | ali x h1 _ _ h2 hx _ =>
      obtain ⟨u, hu, ht⟩ := h.tru q x h1 hx
      refine ⟨u, ?_, ht⟩
      rw [h2, lastT_snoc, if_neg (show ¬ ((newA e.name e.day).kind == 1) = true from fun h => nomatch h), List.getElem?_append_left (List.getElem?_eq_some_iff.1 hu).1, hu]
    | mrg x z h1 _ _ _ h2 hx _ =>
      obtain ⟨u, hu, ht⟩ := h.tru q x h1 hx
      refine ⟨u, ?_, ht⟩
      rw [h2, lastT_merged, merged_app, List.getElem?_append_left (List.getElem?_eq_some_iff.1 hu).1, hu]
    | cap x _ _ _ _ _ h2 => rw [h2] at hy; cases hy
  · cases uaft ht hg with
    | same x h1 h2 h3 => rw [h2] at hu; exact up (h.frm q x h1 u hu)
    | new h1 h2 h3 h4 => rw [h4] at hu; rw [List.mem_singleton.1 hu]; exact lst rfl
    | ren x h1 _ _ h2 _ _ =>
      rw [h2, renL] at hu
      rcases List.mem_append.1 hu with hu | hu
      · obtain ⟨v, hv, e1⟩ := mem_setAt hu
        have := up (h.frm q x h1 v hv)
        rcases e1 with rfl | rfl <;> exact this
      · rw [List.mem_singleton.1 hu]; exact lst rfl
    | ali x h1 _ _ h2 hx _ =>
      rw [h2] at hu
      rcases List.mem_append.1 hu with hu | hu
      · exact up (h.frm q x h1 u hu)
      · rw [List.mem_singleton.1 hu]; exact lst rfl
    | mrg x z h1 _ _ _ h2 hx _ =>
      rw [h2, merged_app] at hu
      rcases List.mem_append.1 hu with hu | hu
      · exact up (h.frm q x h1 u hu)
      · obtain ⟨n, _, rfl⟩ := List.mem_map.1 hu
        exact lst rfl
    | cap x h1 _ _ h2 _ _ =>
      rw [h2] at hu
      obtain ⟨v, hv, rfl⟩ := List.mem_map.1 hu
      exact up (h.frm q x h1 v hv)
  · cases uaft ht hg with
    | same x h1 h2 h3 => rw [h2] at hu; exact upt (h.til q x h1 u hu)
    | new h1 h2 h3 h4 => rw [h4] at hu; rw [List.mem_singleton.1 hu]; exact .inl rfl
    | ren x h1 _ _ h2 _ _ =>
      rw [h2, renL] at hu
      rcases List.mem_append.1 hu with hu | hu
      · obtain ⟨v, hv, e1⟩ := mem_setAt hu
        rcases e1 with rfl | rfl
        · exact upt (h.til q x h1 _ hv)
        · show min (e.day + 3650) 100001 = 100001 ∨ _
          by_cases hm : e.day + 3650 ≤ 100001
          · right
            exact lst (.inr (by show min (e.day + 3650) 100001 = _; omega))
          · left; omega
      · rw [List.mem_singleton.1 hu]; exact .inl rfl
    | ali x h1 _ _ h2 hx _ =>
      rw [h2] at hu
      rcases List.mem_append.1 hu with hu | hu
      · exact upt (h.til q x h1 u hu)
      · rw [List.mem_singleton.1 hu]; exact .inl rfl
    | mrg x z h1 _ _ _ h2 hx _ =>
      rw [h2, merged_app] at hu
      rcases List.mem_append.1 hu with hu | hu
      · exact upt (h.til q x h1 u hu)
      · obtain ⟨n, _, rfl⟩ := List.mem_map.1 hu
        exact .inl rfl
    | cap x h1 _ _ h2 _ _ =>
      rw [h2] at hu
      obtain ⟨v, hv, rfl⟩ := List.mem_map.1 hu
      have := upt (h.til q x h1 v hv)
      show min v.til e.day = 100001 ∨ _
      by_cases hm : v.til ≤ e.day
      · rw [show min v.til e.day = v.til by omega]; exact this
      · right; exact lst (.inl (by show min v.til e.day = _; omega))
theorem Acc.uses {l : List Ev} (h : Acc l) : UInv l (stL l) := by
  induction h with
  | nil => exact ⟨fun _ _ h => (nomatch h), fun _ _ h => (nomatch h), fun _ _ h => (nomatch h)⟩
  | snoc h he ih =>
    obtain ⟨h1, _, _, h4⟩ := h.step he
    rw [h4]
    exact ih.step h1
theorem stays {l : List Ev} {e : Ev} {q d : Int} {x : Pl} {u : Use} (h : Acc l) (he : addE l e = 0) (hg : get (stL l) q = some x) (hu : u ∈ x.uses) (hd : u.til ≤ d) (hde : d < e.day) : ∃ y, get (stL (l ++ [e])) q = some y ∧ u ∈ y.uses := by
  obtain ⟨ht, hi, _, h4⟩ := h.step he
  rw [h4]
  obtain ⟨y, hy⟩ := get_aft hi.toInv0 ht hg
  refine ⟨y, hy, ?_⟩
  have h1 := ht.form.day1
  cases uaft ht hy with
  | same x' g h2 _ => rw [hg] at g; cases g; rw [h2]; exact hu
  | new g _ _ _ => rw [hg] at g; cases g
  | ren x' g _ _ h2 hx _ =>
    rw [hg] at g; cases g
    rw [h2, renL]
    refine List.mem_append_left _ ?_
    obtain ⟨i, hi, e1⟩ := List.mem_iff_getElem.1 hu
    refine setAt_mem (List.getElem?_eq_some_iff.2 ⟨hi, e1⟩) fun hk => ?_
    obtain ⟨v, hv, htil⟩ := h.uses.tru q x hg hx
    rw [← hk, Int.toNat_natCast, List.getElem?_eq_getElem hi, e1] at hv
    cases hv
    omega
  | ali x' g _ _ h2 _ _ => rw [hg] at g; cases g; rw [h2]; exact List.mem_append_left _ hu
  | mrg x' z g _ _ _ h2 _ _ => rw [hg] at g; cases g; rw [h2, merged_app]; exact List.mem_append_left _ hu
  | cap x' g _ _ h2 _ _ =>
    rw [hg] at g; cases g
    rw [h2]
    refine List.mem_map.2 ⟨u, hu, ?_⟩
    rw [show min u.til e.day = u.til by omega]
theorem take_snoc {l : List Ev} {k : Nat} (hk : k < l.length) : l.take (k + 1) = l.take k ++ [l[k]] := List.take_succ_eq_append_getElem hk
theorem stays_all {l : List Ev} {q d : Int} {k : Nat} {x : Pl} {u : Use} (h : Acc l) (hk : k ≤ l.length) (hg : get (stL (l.take k)) q = some x) (hu : u ∈ x.uses) (hd : u.til ≤ d) (hde : ∀ e ∈ l.drop k, d < e.day) : ∃ y, get (stL l) q = some y ∧ u ∈ y.uses := by
  have key : ∀ j, k + j ≤ l.length → ∃ y, get (stL (l.take (k + j))) q = some y ∧ u ∈ y.uses := by
    intro j
    induction j with
    | zero => intro _; exact ⟨x, hg, hu⟩
    | succ j ih =>
      intro hj
      obtain ⟨y, hy, huy⟩ := ih (by omega)
      have hlt : k + j < l.length := by omega
      rw [← Nat.add_assoc, take_snoc hlt]
      refine stays (h.pre _) (h.at hlt) hy huy hd (hde _ ?_)
      exact List.mem_iff_getElem.2 ⟨j, by simp; omega, by simp⟩
  have := key (l.length - k) (by omega)
  rwa [show k + (l.length - k) = l.length by omega, List.take_length] at this
def Kept (s : List Pl) (q : Int) (n : ByteArray) (d : Int) : Prop := ∃ x, get s q = some x ∧ x.ex = true ∧ ∃ u ∈ x.uses, u.name = n ∧ u.til = 100001 ∧ u.kind = 2 ∧ u.frm ≤ d
theorem open_iff {l : List Use} {n : ByteArray} : openB l n 2 = true ↔ ∃ u ∈ l, u.name = n ∧ u.til = 100001 ∧ u.kind = 2 := by
  unfold openB
  rw [List.any_eq_true]
  constructor
  · rintro ⟨u, hu, h⟩
    simp only [Bool.and_eq_true, Bool.or_eq_true, beq_iff_eq] at h
    obtain ⟨h1, h2, h3⟩ := h
    refine ⟨u, hu, strEq_iff'.1 h1, h2, ?_⟩
    rcases h3 with h3 | h3
    · cases h3
    · exact h3
  · rintro ⟨u, hu, h1, h2, h3⟩
    exact ⟨u, hu, by simp [strEq_iff'.2 h1, h2, h3]⟩
theorem kept_in {s : List Pl} {q : Int} {n : ByteArray} {d e : Int} (h : Kept s q n d) (hd : d ≤ e) (he : e ≤ 100000) : n ∈ namesL s q e := by
  obtain ⟨x, hx, hex, u, hu, h1, h2, h3, h4⟩ := h
  unfold namesL
  rw [hx]
  simp only [hex, if_true]
  refine mem_using.2 ⟨u, hu, ?_, h1⟩
  unfold inUse
  simp
  omega
theorem frm_le {l : List Ev} (h : Acc l) {d : Int} (hd : ∀ x ∈ l, x.day ≤ d) {q : Int} {x : Pl} (hg : get (stL l) q = some x) : ∀ u ∈ x.uses, u.frm ≤ d := fun u hu => by
  obtain ⟨e, he, h1⟩ := h.uses.frm q x hg u hu
  have := hd e he
  omega
theorem kept_merge {l : List Ev} {e : Ev} (h : Acc l) (he : addE l e = 0) (hk : e.kind = 4) {z : Pl} (hz : get (stL l) e.place = some z) {n : ByteArray} (hn : n ∈ usingL z.uses e.day) : Kept (stL (l ++ [e])) e.other n e.day := by
  obtain ⟨ht, hi, hdays, h4⟩ := h.step he
  rw [h4]
  have ho := (ht.form.o4 hk).1
  obtain ⟨x, hx, hxe⟩ := hereB_iff.1 (ht.fits.oth (by omega))
  have hne := (ht.form.o4 hk).2
  have hy : get (afterL (stL l) e) e.other = some (reParent e (mergeTo e z.uses x)) := by
    rw [get_after4 hk hne, if_neg hne, if_pos rfl, hx, hz]
    rfl
  refine ⟨_, hy, by rw [reP_ex]; exact hxe, ?_⟩
  rw [reP_uses, show (mergeTo e z.uses x).uses = mergedL x.uses z.uses e.day from rfl, merged_app]
  by_cases ho : openB x.uses n 2 = true
  · obtain ⟨u, hu, e1, e2, e3⟩ := open_iff.1 ho
    exact ⟨u, List.mem_append_left _ hu, e1, e2, e3, frm_le h hdays hx u hu⟩
  · exact ⟨newA n e.day, List.mem_append_right _ (List.mem_map.2 ⟨n, List.mem_filter.2 ⟨hn, by simpa using ho⟩, rfl⟩), rfl, rfl, rfl, Int.le_refl _⟩
theorem kept_step {l : List Ev} {e : Ev} (h : Acc l) (he : addE l e = 0) {q d : Int} {n : ByteArray} (hd : d ≤ e.day) (hK : Kept (stL l) q n d) : if e.kind = 4 ∧ e.place = q then Kept (stL (l ++ [e])) e.other n e.day else Kept (stL (l ++ [e])) q n e.day := by
  obtain ⟨x, hx, hxe, u, hu, u1, u2, u3, u4⟩ := hK
  obtain ⟨ht, hi, hdays, h4⟩ := h.step he
  have hday := ht.form.day1
  split
  · rename_i hc
    refine kept_merge h he hc.1 (hc.2 ▸ hx) (mem_using.2 ⟨u, hu, ?_, u1⟩)
    unfold inUse
    simp
    omega
  · rename_i hc
    rw [h4]
    obtain ⟨y, hy⟩ := get_aft hi.toInv0 ht hx
    have fin : y.ex = true → u ∈ y.uses → Kept (afterL (stL l) e) q n e.day := fun h1 h2 => ⟨y, hy, h1, u, h2, u1, u2, u3, by omega⟩
    cases uaft ht hy with
    | same x' g h2 h3 => rw [hx] at g; cases g; exact fin (h3.trans hxe) (by rw [h2]; exact hu)
    | new g _ _ _ => rw [hx] at g; cases g
    | ren x' g _ _ h2 _ hye =>
      rw [hx] at g; cases g
      refine fin hye ?_
      rw [h2, renL]
      refine List.mem_append_left _ ?_
      obtain ⟨i, hi, e1⟩ := List.mem_iff_getElem.1 hu
      refine setAt_mem (List.getElem?_eq_some_iff.2 ⟨hi, e1⟩) fun hk => ?_
      have := lastT_kind hk.symm (List.getElem?_eq_some_iff.2 ⟨hi, e1⟩)
      omega
    | ali x' g _ _ h2 _ hye => rw [hx] at g; cases g; exact fin hye (by rw [h2]; exact List.mem_append_left _ hu)
    | mrg x' z g _ _ _ h2 _ hye => rw [hx] at g; cases g; exact fin hye (by rw [h2, merged_app]; exact List.mem_append_left _ hu)
    | cap x' g hk hq _ _ _ => exact absurd ⟨hk, hq.symm⟩ hc
inductive GoTo (s : List Pl) : Int → Int → Prop
  | here {p : Int} (h : hereB s p = true) : GoTo s p p
  | nx {p r q : Int} (h : nxG s p = some r) (g : GoTo s r q) : GoTo s p q
theorem nxG_some {s : List Pl} {p r : Int} : nxG s p = some r ↔ ∃ x, get s p = some x ∧ x.ex = false ∧ x.into = r := by
  unfold nxG
  cases get s p with
  | none => simp
  | some x => cases hx : x.ex <;> simp [hx]
theorem GoTo.is {s : List Pl} {p q : Int} (h : GoTo s p q) : hereB s q = true := by
  induction h with
  | here h => exact h
  | nx _ _ ih => exact ih
theorem GoTo.goN {s : List Pl} {p q : Int} (h : GoTo s p q) : ∀ {ch : List Int} {n : Nat}, IsCh (nxG s) p ch → ch.length < n → Go.Proofs.YtpndfdfipkadkaaGreatDoor.goN s n p = q := by
  induction h with
  | here h =>
    rename_i p
    intro ch n _ hn
    obtain ⟨k, rfl⟩ : ∃ k, n = k + 1 := ⟨n - 1, by omega⟩
    obtain ⟨x, hx, he⟩ := hereB_iff.1 h
    rw [Go.Proofs.YtpndfdfipkadkaaGreatDoor.goN, hx]
    simp only [he, if_true]
  | nx h g ih =>
    intro ch n hc hn
    obtain ⟨k, rfl⟩ : ∃ k, n = k + 1 := ⟨n - 1, by omega⟩
    obtain ⟨x, hx, he, hi⟩ := nxG_some.1 h
    cases ch with
    | nil => rw [show nxG s _ = none from hc] at h; cases h
    | cons r' ch =>
      have := hc.1
      rw [h] at this
      cases this
      rw [Go.Proofs.YtpndfdfipkadkaaGreatDoor.goN, hx]
      simp only [he, hi]
      rw [if_neg (by decide)]
      exact ih hc.2 (by simp at hn; omega)
def endN (s : List Pl) (p : Int) : Int := goN s (s.length + 1) p
theorem GoTo.end {s : List Pl} (hi : Inv0 s) {p q : Int} (h : GoTo s p q) : endN s p = q := by
  obtain ⟨ch, hc⟩ := hi.gon p
  exact h.goN hc (by have := chain_len hc; omega)
theorem goTo_of {s : List Pl} (hi : Inv0 s) {p : Int} (h : get s p ≠ none) : ∃ q, GoTo s p q := by
  obtain ⟨ch, hc⟩ := hi.gon p
  induction ch generalizing p with
  | nil =>
    cases hg : get s p with
    | none => exact absurd hg h
    | some x =>
      refine ⟨p, .here (hereB_iff.2 ⟨x, hg, ?_⟩)⟩
      cases hx : x.ex with
      | true => rfl
      | false =>
        have : nxG s p = some x.into := nxG_some.2 ⟨x, hg, hx, rfl⟩
        rw [show nxG s p = none from hc] at this
        cases this
  | cons r ch ih =>
    obtain ⟨x, hx, he, hr⟩ := nxG_some.1 hc.1
    obtain ⟨q, hq⟩ := ih (p := r) (by rw [← hr]; exact hi.into p x hx he) hc.2
    exact ⟨q, .nx hc.1 hq⟩
theorem endN_none {s : List Pl} {p : Int} (h : get s p = none) : endN s p = 0 := by rw [endN, goN, h]
theorem GoTo.via {s t : List Pl} {p q r : Int} (h : GoTo s p q) (hn : ∀ a b, nxG s a = some b → nxG t a = some b) (g : GoTo t q r) : GoTo t p r := by
  induction h with
  | here _ => exact g
  | nx h _ ih => exact .nx (hn _ _ h) (ih g)
theorem nx_step {l : List Ev} {e : Ev} (h : Acc l) (he : addE l e = 0) : ∀ a b, nxG (stL l) a = some b → nxG (stL (l ++ [e])) a = some b := by
  obtain ⟨ht, hi, _, h4⟩ := h.step he
  intro a b hab
  rw [h4, (aft hi.toInv0 ht.form ht.fits).nx a, if_neg, hab]
  rintro ⟨hk, rfl⟩
  obtain ⟨x, hx, hxe, _⟩ := nxG_some.1 hab
  have := here_ex (ht.fits.old (by omega)) hx
  rw [hxe] at this
  cases this
theorem go_step {l : List Ev} {e : Ev} (h : Acc l) (he : addE l e = 0) {p q : Int} (hG : GoTo (stL l) p q) : if e.kind = 4 ∧ e.place = q then GoTo (stL (l ++ [e])) p e.other else GoTo (stL (l ++ [e])) p q := by
  obtain ⟨ht, hi, _, h4⟩ := h.step he
  have hA := aft hi.toInv0 ht.form ht.fits
  split
  · rename_i hc
    refine hG.via (nx_step h he) (.nx (r := e.other) ?_ (.here ?_))
    · rw [h4, hA.nx q, if_pos ⟨hc.1, hc.2.symm⟩]
    · have ho := ht.form.o4 hc.1
      rw [h4, hA.here, if_neg (by omega), if_neg (by omega)]
      exact ht.fits.oth (by omega)
  · rename_i hc
    refine hG.via (nx_step h he) (.here ?_)
    rw [h4, hA.here]
    split
    · rfl
    · split
      · rename_i hx; exact absurd ⟨hx.1, hx.2.symm⟩ hc
      · exact hG.is
theorem go_take {l : List Ev} (h : Acc l) {k : Nat} {p q : Int} (hG : GoTo (stL (l.take k)) p q) : ∀ j, k + j ≤ l.length → (∃ r, GoTo (stL (l.take (k + j))) q r) ∧ ∀ r, GoTo (stL (l.take (k + j))) q r → GoTo (stL (l.take (k + j))) p r := by
  intro j
  induction j with
  | zero => intro _; exact ⟨⟨q, .here hG.is⟩, fun r hr => hG.via (fun _ _ h => h) hr⟩
  | succ j ih =>
    intro hj
    obtain ⟨⟨r, h1⟩, h2⟩ := ih (by omega)
    have hlt : k + j < l.length := by omega
    have h3 := h2 r h1
    have g1 := go_step (h.pre _) (h.at hlt) h1
    have g2 := go_step (h.pre _) (h.at hlt) h3
    rw [← Nat.add_assoc, take_snoc hlt]
    have hi := ((h.pre (k + j)).snoc (h.at hlt)).ok.inv.toInv0
    split at g1
    · rename_i hc
      rw [if_pos hc] at g2
      exact ⟨⟨_, g1⟩, fun r' hr => by rw [← hr.end hi, g1.end hi]; exact g2⟩
    · rename_i hc
      rw [if_neg hc] at g2
      exact ⟨⟨_, g1⟩, fun r' hr => by rw [← hr.end hi, g1.end hi]; exact g2⟩
theorem end_end {l : List Ev} (h : Acc l) {k j : Nat} (hj : k + j ≤ l.length) (p : Int) (hp : endN (stL (l.take k)) p ≠ 0) :
    hereB (stL (l.take k)) (endN (stL (l.take k)) p) = true ∧ endN (stL (l.take (k + j))) (endN (stL (l.take k)) p) = endN (stL (l.take (k + j))) p ∧ endN (stL (l.take (k + j))) p ≠ 0 := by
  have hi := (h.pre k).ok.inv.toInv0
  have hg : get (stL (l.take k)) p ≠ none := fun hn => hp (endN_none hn)
  obtain ⟨q, hq⟩ := goTo_of hi hg
  have he := hq.end hi
  have hi2 := (h.pre (k + j)).ok.inv.toInv0
  obtain ⟨⟨r, h1⟩, h2⟩ := go_take h hq j hj
  have h3 := h2 r h1
  rw [he]
  refine ⟨hq.is, by rw [h1.end hi2, h3.end hi2], ?_⟩
  rw [h3.end hi2]
  intro h0
  have := h1.is
  rw [h0, hi2.zero] at this
  cases this
theorem kept_all {l : List Ev} (h : Acc l) {i : Nat} (hi : i < l.length) (hk : l[i].kind = 4) {n : ByteArray} {z : Pl} (hz : get (stL (l.take i)) l[i].place = some z) (hn : n ∈ usingL z.uses l[i].day) :
    ∀ j (hj : i + j < l.length), ∃ q, GoTo (stL (l.take (i + j + 1))) l[i].place q ∧ Kept (stL (l.take (i + j + 1))) q n l[i + j].day := by
  intro j
  induction j with
  | zero =>
    intro hj
    have hi0 : i + 0 < l.length := hj
    have g := go_step (h.pre i) (h.at hi) (p := l[i].place) (q := l[i].place) (.here (((h.pre i).step (h.at hi)).1.fits.old (by omega)))
    rw [if_pos ⟨hk, rfl⟩] at g
    exact ⟨l[i].other, by rw [Nat.add_zero, take_snoc hi]; exact g, by simp only [Nat.add_zero]; rw [take_snoc hi]; exact kept_merge (h.pre i) (h.at hi) hk hz hn⟩
  | succ j ih =>
    intro hj
    obtain ⟨q, g1, g2⟩ := ih (by omega)
    have hlt : i + j + 1 < l.length := by omega
    have hd : l[i + j].day ≤ l[i + j + 1].day := List.pairwise_iff_getElem.1 h.ok.sort _ _ (by omega) hlt (by omega)
    have k1 := go_step (h.pre _) (h.at hlt) g1
    have k2 := kept_step (h.pre _) (h.at hlt) hd g2
    simp only [← Nat.add_assoc]
    rw [take_snoc hlt]
    split at k1
    · rename_i hc
      rw [if_pos hc] at k2
      exact ⟨_, k1, k2⟩
    · rename_i hc
      rw [if_neg hc] at k2
      exact ⟨_, k1, k2⟩
end Go.Proofs.YtpndfdfipkadkaaGreatDoor
set_option maxRecDepth 100000
namespace Go.Proofs.YtpndfdfipkadkaaGreatDoor
open Go Go.Wx Go.Ax
theorem all_mem {s : List Pl} (hn : (s.map (·.id)).Nodup) {q : Int} : q ∈ allL s ↔ hereB s q = true := by
  rw [allL_uniq, uniqI_mem, List.mem_map, hereB_iff]
  constructor
  · rintro ⟨x, hx, rfl⟩
    have := List.mem_filter.1 hx
    exact ⟨x, get_of hn this.1, this.2⟩
  · rintro ⟨x, hx, he⟩
    obtain ⟨h1, h2⟩ := get_mem hx
    exact ⟨x, List.mem_filter.2 ⟨h1, he⟩, h2⟩
theorem all_rise (s : List Pl) : (allL s).Pairwise (· < ·) := by rw [allL_uniq]; exact uniqI_rise _
theorem end_here {s : List Pl} {p : Int} (h : hereB s p = true) : endN s p = p := by
  obtain ⟨x, hx, he⟩ := hereB_iff.1 h
  rw [endN, goN, hx]
  simp only [he, if_true]
theorem cont_self {s : List Pl} {p : Int} (h : hereB s p = true) : cont s p p = true := by
  unfold cont contB
  rw [h]
  simp
theorem cont_here2 {s : List Pl} {a b : Int} (h : cont s a b = true) : hereB s a = true ∧ hereB s b = true := by
  unfold cont contB at h
  simp only [Bool.and_eq_true] at h
  exact ⟨h.1, h.2.1⟩
theorem com_top {s : List Pl} (hp : ParOk s) (hf : FinP s) {p q : Int} (h : cont s p q = true) : commonL s p q = p := by
  obtain ⟨h1, h2⟩ := cont_here2 h
  rw [← com_eq hp hf, comP, h1, h2, List.find?_cons, h]
  rfl
theorem mem_inside {s : List Pl} {p q : Int} (hn : (s.map (·.id)).Nodup) : q ∈ insideL s p ↔ hereB s q = true ∧ cont s p q = true := by
  rw [← insideL_eq, List.mem_filter, all_mem hn]
theorem pth_head {s : List Pl} (hi : Inv0 s) (p : Int) : (parI s p = 0 ∧ pth s p = []) ∨ (parI s p ≠ 0 ∧ ∃ r, pth s p = parI s p :: r) := by
  have h := (hi.fin.pth hi.par p).1
  cases hp : pth s p with
  | nil => rw [hp] at h; exact .inl ⟨h, rfl⟩
  | cons q r =>
    rw [hp] at h
    obtain ⟨h1, h2, _⟩ := h
    exact .inr ⟨by rw [h1]; exact h2, r, by rw [h1]⟩
theorem pth_tail {s : List Pl} (hi : Inv0 s) (p : Int) {k : Nat} (hk : k < (pth s p).length) : hereB s (pth s p)[k] = true ∧ pth s (pth s p)[k] = (pth s p).drop (k + 1) := by
  have h := (hi.fin.pth hi.par p).1
  refine ⟨path_here hi.par h _ (List.getElem_mem hk), ?_⟩
  have := path_suf (i := k + 1) h (by simpa using hk)
  simp only [List.getElem_cons_succ, List.drop_succ_cons] at this
  exact (pth_of hi.par this).1
theorem name_in {l : List Ev} (h : Acc l) {d : Int} (hd : ∀ x ∈ l, x.day ≤ d) (hd1 : d ≤ 100000) {p : Int} (hp : hereB (stL l) p = true) : nameL (stL l) p ∈ namesL (stL l) p d := by
  obtain ⟨x, hx, he⟩ := hereB_iff.1 hp
  obtain ⟨u, hu, ht⟩ := h.uses.tru p x hx he
  unfold nameL namesL
  rw [hx]
  simp only [he, if_true, hu]
  have hm := List.mem_of_getElem? hu
  refine mem_using.2 ⟨u, hm, ?_, rfl⟩
  have := frm_le h hd hx u hm
  unfold inUse
  simp
  omega
theorem mem_called {s : List Pl} {n : ByteArray} {d q : Int} (hn : (s.map (·.id)).Nodup) (h : n ∈ namesL s q d) : q ∈ calledL s n d := by
  unfold namesL at h
  cases hg : get s q with
  | none => rw [hg] at h; cases h
  | some x =>
    rw [hg] at h
    simp only at h
    obtain ⟨hm, hi⟩ := get_mem hg
    cases hx : x.ex with
    | false => rw [hx] at h; simp at h
    | true =>
      rw [hx] at h
      simp only [if_true] at h
      refine ((called_fold (day := d) (name := n) s [] .nil).2 q).2 (.inr ⟨x, hm, hx, List.any_eq_true.2 ⟨n, h, strEq_iff'.2 rfl⟩, hi.symm⟩)
theorem upTo_snoc {l : List Ev} {e : Ev} {d : Int} (h : d < e.day) : upToL (l ++ [e]) d = upToL l d := by
  unfold upToL
  rw [List.foldl_append, List.foldl_cons, List.foldl_nil, if_neg (by omega)]
theorem on_snoc {l : List Ev} {e : Ev} {d : Int} (h : d < e.day) : onL (l ++ [e]) d = onL l d := by
  unfold onL
  rw [upTo_snoc h]
theorem on_part {l : List Ev} (h : Acc l) {d : Int} (h0 : 0 ≤ d) (h1 : d ≤ 100000) : ∃ k, k ≤ l.length ∧ onL l d = stL (l.take k) ∧ (∀ e ∈ l.take k, e.day ≤ d) ∧ ∀ e ∈ l.drop k, d < e.day := by
  obtain ⟨k, k1, k2, _, k3, k4⟩ := h.upTo d
  refine ⟨k, k1, ?_, k3, k4⟩
  rw [onL, if_neg (by simp; omega), k2]
theorem on_out {l : List Ev} {d : Int} (h : d < 0 ∨ 100000 < d) : onL l d = [] := by
  rw [onL, if_pos (by simpa using h)]
theorem on_all {l : List Ev} (h : Acc l) {d : Int} (hd : ∀ x ∈ l, x.day ≤ d) (h0 : 0 ≤ d) (h1 : d ≤ 100000) : onL l d = stL l := by
  obtain ⟨k, k1, k2, k3, k4⟩ := on_part h h0 h1
  rw [k2]
  have : l.drop k = [] := List.eq_nil_iff_forall_not_mem.2 fun x hx => by
    have a := k4 x hx
    have b := hd x (List.mem_of_mem_drop hx)
    omega
  rw [List.drop_eq_nil_iff] at this
  rw [List.take_of_length_le this]
theorem goes_law {l : List Ev} (h : Acc l) {d e : Int} (h0 : 0 ≤ d) (hde : d ≤ e) (h1 : e ≤ 100000) (p : Int) (hp : endN (onL l d) p ≠ 0) :
    hereB (onL l d) (endN (onL l d) p) = true ∧ endN (onL l e) (endN (onL l d) p) = endN (onL l e) p ∧ endN (onL l e) p ≠ 0 := by
  obtain ⟨k, k1, k2, k3, k4⟩ := on_part h h0 (by omega)
  obtain ⟨m, m1, m2, m3, m4⟩ := on_part h (d := e) (by omega) h1
  rw [k2] at hp ⊢
  rw [m2]
  have hkm : k ≤ m := by
    apply Classical.byContradiction
    intro hc
    have hlt : m < l.length := by omega
    have a := k3 l[m] (List.mem_iff_getElem.2 ⟨m, by simp; omega, by simp⟩)
    have b := m4 l[m] (List.mem_iff_getElem.2 ⟨0, by simp; omega, by simp⟩)
    omega
  have := end_end h (k := k) (j := m - k) (by omega) p hp
  rwa [show k + (m - k) = m by omega] at this
theorem keeps_law {l : List Ev} (h : Acc l) {i : Nat} (hi : i < l.length) (hk : l[i].kind = 4) {e : Int} (hd : l[i].day ≤ e) (h1 : e ≤ 100000) {n : ByteArray} (hn : n ∈ namesL (onL (l.take i) l[i].day) l[i].place l[i].day) : n ∈ namesL (onL l e) (endN (onL l e) l[i].place) e := by
  have ht := ((h.pre i).step (h.at hi))
  have hf := ht.1.form
  rw [on_all (h.pre i) ht.2.2.1 hf.day0 hf.day1] at hn
  obtain ⟨z, hz, hn⟩ : ∃ z, get (stL (l.take i)) l[i].place = some z ∧ n ∈ usingL z.uses l[i].day := by
    unfold namesL at hn
    cases hg : get (stL (l.take i)) l[i].place with
    | none => rw [hg] at hn; cases hn
    | some z =>
      rw [hg] at hn
      simp only at hn
      split at hn
      · exact ⟨z, rfl, hn⟩
      · cases hn
  obtain ⟨m, m1, m2, m3, m4⟩ := on_part h (d := e) (by have := hf.day0; omega) h1
  have him : i < m := by
    apply Classical.byContradiction
    intro hc
    have b := m4 l[i] (List.mem_iff_getElem.2 ⟨i - m, by simp; omega, by simp; congr 1; omega⟩)
    omega
  obtain ⟨q, q1, q2⟩ := kept_all h hi hk hz hn (m - 1 - i) (by omega)
  have hm : i + (m - 1 - i) + 1 = m := by omega
  simp only [hm] at q1 q2
  rw [m2, q1.end (h.pre m).ok.inv.toInv0]
  have hlt : i + (m - 1 - i) < l.length := by omega
  exact kept_in q2 (m3 _ (List.mem_iff_getElem.2 ⟨m - 1, by simp; omega, by simp; congr 1; omega⟩)) h1
def chB (l : List Ev) (p d : Int) : Bool := !(hereB (onL l (d - 1)) p == hereB (onL l d) p && (decide (namesL (onL l (d - 1)) p (d - 1) = namesL (onL l d) p d) && decide (pth (onL l (d - 1)) p = pth (onL l d) p)))
theorem stL_nil : stL [] = [] := rfl
theorem same_day {l : List Ev} (h : Acc l) {d : Int} (h1 : d ≤ 100000) (hno : ∀ e ∈ l, e.day ≠ d) : onL l (d - 1) = onL l d := by
  by_cases h0 : d < 0
  · rw [on_out (.inl h0), on_out (.inl (by omega))]
  · by_cases hz : d = 0
    · subst hz
      rw [on_out (.inl (by omega))]
      obtain ⟨k, k1, k2, k3, _⟩ := on_part h (d := 0) (by omega) (by omega)
      rw [k2]
      cases hk : l.take k with
      | nil => rfl
      | cons x r =>
        have hx : x ∈ l.take k := by rw [hk]; exact List.mem_cons_self
        have a := k3 x hx
        have b := (h.ok.form x (List.mem_of_mem_take hx)).day0
        exact absurd (by omega) (hno x (List.mem_of_mem_take hx))
    · have e1 : onL l d = upToL l d := by rw [onL, if_neg (by simp; omega)]
      have e2 : onL l (d - 1) = upToL l (d - 1) := by rw [onL, if_neg (by simp; omega)]
      rw [e1, e2, upTo_filter, upTo_filter]
      congr 1
      refine List.filter_congr fun x hx => ?_
      have := hno x hx
      rw [decide_eq_decide]
      omega
theorem ch_cand {l : List Ev} (h : Acc l) {p d : Int} (h1 : d ≤ 100000) (hc : chB l p d = true) : (∃ e ∈ l, e.day = d) ∨ ∃ u ∈ histL (stL l) p, u.til = d := by
  by_cases hno : ∃ e ∈ l, e.day = d
  · exact .inl hno
  · right
    have hno : ∀ e ∈ l, e.day ≠ d := fun e he hd => hno ⟨e, he, hd⟩
    have hs := same_day h h1 hno
    unfold chB at hc
    rw [hs] at hc
    simp at hc
    have h0 : 0 ≤ d := by
      apply Classical.byContradiction
      intro hn
      apply hc
      rw [on_out (.inl (by omega))]
      rfl
    obtain ⟨k, k1, k2, k3, k4⟩ := on_part h h0 h1
    rw [k2] at hc
    cases hg : get (stL (l.take k)) p with
    | none => exfalso; apply hc; unfold namesL; rw [hg]
    | some x =>
      have hne : usingL x.uses (d - 1) ≠ usingL x.uses d := fun e => by
        apply hc
        unfold namesL
        rw [hg]
        simp only [e]
      have : ∃ u ∈ x.uses, inUse (d - 1) u ≠ inUse d u := by
        apply Classical.byContradiction
        intro hn
        apply hne
        rw [using_uniq, using_uniq]
        congr 2
        refine List.filter_congr fun u hu => ?_
        apply Classical.byContradiction
        intro hc
        exact hn ⟨u, hu, hc⟩
      obtain ⟨u, hu, hd⟩ := this
      obtain ⟨e, he, hfr⟩ := (h.pre k).uses.frm p x hg u hu
      have hfd := hno e (List.mem_of_mem_take he)
      have htil : u.til = d := by
        unfold inUse at hd
        apply Classical.byContradiction
        intro ht
        apply hd
        rw [Bool.eq_iff_iff]
        simp
        omega
      obtain ⟨y, hy, huy⟩ := stays_all h k1 hg hu (Int.le_of_eq htil) k4
      exact ⟨u, by unfold histL; rw [hy]; exact huy, htil⟩
def chDays (l : List Ev) : List Int := l.flatMap fun e => [e.day, e.day + 3650]
def chL (l : List Ev) (p : Int) : List Int := (uniqI (chDays l)).filter fun d => !(decide (d > 100000) || !chB l p d)
def chDaysR (l : List Ev) (p : Int) : List Int := ((histL (stL l) p).filter fun u => decide (u.til ≤ 100000)).foldl (fun out u => addI out u.til) (l.foldl (fun out e => addI out e.day) [])
theorem chDaysR_eq (l : List Ev) (p : Int) : chDaysR l p = uniqI (l.map (·.day) ++ ((histL (stL l) p).filter fun u => decide (u.til ≤ 100000)).map (·.til)) := by
  unfold chDaysR uniqI
  rw [List.foldl_append, List.foldl_map, List.foldl_map]
theorem ch_eq {l : List Ev} (h : Acc l) (p : Int) : (chDaysR l p).filter (chB l p) = chL l p := by
  rw [chDaysR_eq, chL]
  refine rise_eq ((uniqI_rise _).filter _) ((uniqI_rise _).filter _) fun d => ?_
  rw [List.mem_filter, List.mem_filter, uniqI_mem, uniqI_mem]
  have hday : ∀ e ∈ l, e.day ≤ 100000 := fun e he => (h.ok.form e he).day1
  constructor
  · rintro ⟨hm, hc⟩
    have hd : d ≤ 100000 := by
      rcases List.mem_append.1 hm with hm | hm
      · obtain ⟨e, he, rfl⟩ := List.mem_map.1 hm
        exact hday e he
      · obtain ⟨u, hu, rfl⟩ := List.mem_map.1 hm
        simpa using (List.mem_filter.1 hu).2
    refine ⟨?_, by simp [hc]; omega⟩
    rcases ch_cand h hd hc with ⟨e, he, rfl⟩ | ⟨u, hu, rfl⟩
    · exact List.mem_flatMap.2 ⟨e, he, by simp⟩
    · unfold histL at hu
      cases hg : get (stL l) p with
      | none => rw [hg] at hu; cases hu
      | some x =>
        rw [hg] at hu
        rcases h.uses.til p x hg u hu with ht | ⟨e, he, ht⟩
        · omega
        · exact List.mem_flatMap.2 ⟨e, he, by simpa using ht⟩
  · rintro ⟨hm, hc⟩
    simp at hc
    refine ⟨?_, hc.2⟩
    rcases ch_cand h hc.1 hc.2 with ⟨e, he, rfl⟩ | ⟨u, hu, rfl⟩
    · exact List.mem_append_left _ (List.mem_map.2 ⟨e, he, rfl⟩)
    · exact List.mem_append_right _ (List.mem_map.2 ⟨u, List.mem_filter.2 ⟨hu, by simpa using hc.1⟩, rfl⟩)
theorem ch_not {l : List Ev} (h : Acc l) {p d : Int} (h1 : d ≤ 100000) (hn : d ∉ chL l p) : chB l p d = false := by
  cases hc : chB l p d with
  | false => rfl
  | true =>
    exfalso
    apply hn
    rw [← ch_eq h]
    refine List.mem_filter.2 ⟨?_, hc⟩
    rw [chDaysR_eq, uniqI_mem]
    rcases ch_cand h h1 hc with ⟨e, he, rfl⟩ | ⟨u, hu, rfl⟩
    · exact List.mem_append_left _ (List.mem_map.2 ⟨e, he, rfl⟩)
    · exact List.mem_append_right _ (List.mem_map.2 ⟨u, List.mem_filter.2 ⟨hu, by simpa using h1⟩, rfl⟩)
end Go.Proofs.YtpndfdfipkadkaaGreatDoor
