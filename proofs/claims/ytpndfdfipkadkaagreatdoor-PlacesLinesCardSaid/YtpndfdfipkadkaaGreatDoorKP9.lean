/- The law holds: part 9. Conditions: none. -/
import Derived.Test.YtpndfdfipkadkaaGreatDoorKP8
set_option linter.all false
set_option maxRecDepth 100000
namespace Go.Proofs.YtpndfdfipkadkaaGreatDoor
open Go Go.Wx Go.Ax
def upToL (l : List Ev) (day : Int) : List Pl := l.foldl (fun s e => if e.day ≤ day then afterL s e else s) []
def RunOk (l : List Ev) (day : Int) : Prop := l.length ≤ 1000 ∧ ∀ (i : Nat) (h : i < l.length), l[i].day ≤ day → evOk (upToL (l.take i) day) l[i]
theorem upTo_take {l : List Ev} {i : Nat} (h : i < l.length) (day : Int) : upToL (l.take (i + 1)) day = if l[i].day ≤ day then afterL (upToL (l.take i) day) l[i] else upToL (l.take i) day := by
  unfold upToL
  rw [List.take_succ_eq_append_getElem h, List.foldl_append]
  rfl
theorem upTo_c (l : List Ev) (day : Int) (h : RunOk l day) : Pur Pg 100 [rows Ev.enc l, di day] (rows Pl.enc (upToL l day)) := by
  obtain ⟨hl, hok⟩ := h
  refine fn Tryz.func100 [] [] (.cons (pd_rows pdEv l) (.cons (.v _) .nil)) ?_
  refine AW_nil 5 ?_
  refine AW_idx l.length (fun i st => ∃ s, s = upToL (l.take i) day ∧ Has [(0, rows Ev.enc l), (1, di day), (5, rows Pl.enc s), (6, di i)] [] st) ⟨[], by simp [upToL], has ⟨rfl, rfl, rfl, rfl, trivial⟩ rfl⟩ ?_
  rintro i _ _ ⟨s, h1, e, rfl⟩
  refine go [] [] (if_ (fun hlt => ?_) (fun hlt => ?_))
  · simp at hlt
    refine row_at hlt (if_ (fun h2 => row_at hlt ?_) fun h2 => ?_)
    · have h2' : l[i].day ≤ day := by simpa using h2
      refine (after_c s l[i] (by rw [h1]; exact hok i hlt h2')).call ?_
      exact ⟨hlt, _, by rw [upTo_take hlt, h1, if_pos h2'], has ⟨rfl, rfl, rfl, inc hlt (by simp only [maxLen]; omega), trivial⟩ rfl⟩
    · exact ⟨hlt, s, by rw [upTo_take hlt, h1, if_neg (by simpa using h2)], has ⟨rfl, rfl, rfl, inc hlt (by simp only [maxLen]; omega), trivial⟩ rfl⟩
  · simp at hlt
    rw [List.take_of_length_le hlt] at h1
    subst h1
    exact .pd (pd_rows pdPl _)
def onL (l : List Ev) (day : Int) : List Pl := if decide (day < 0) || decide (day > 100000) then [] else upToL l day
def refG (l : List Ev) : D := .fp [rows Ev.enc l]
theorem pd_refG (l : List Ev) : Pd (refG l) := .fp fun d hd => by rw [List.mem_singleton] at hd; subst hd; exact pd_rows pdEv l
theorem on_c (l : List Ev) (day : Int) (h : RunOk l day) : Pur Pg 125 [refG l, di day] (rows Pl.enc (onL l day)) := by
  refine fn Tryz.func125 [] [] (.cons (pd_refG l) (.cons (.v _) .nil)) ?_
  refine if_ (fun h1 => ?_) (fun h1 => if_ (fun h2 => ?_) fun h2 => ?_)
  · rw [show onL l day = [] by simp [onL, h1]]
    exact .nil
  · rw [show onL l day = [] by simp [onL, h2]]
    exact .nil
  · refine (upTo_c l day h).call ?_
    rw [show onL l day = upToL l day by simp [onL, h1, h2]]
    exact .pd (pd_rows pdPl _)
theorem refExists_c (l : List Ev) (p day : Int) (h : RunOk l day) : Pur Pg 50 [refG l, di p, di day] (db (hereB (onL l day) p)) := by
  refine fn Tryz.func50 [] [] (.cons (pd_refG l) (.cons (.v _) (.cons (.v _) .nil))) ?_
  refine (on_c l day h).call ?_
  refine (here_c _ p).call ?_
  exact .pd (.v _)
theorem refParent_c (l : List Ev) (p day : Int) (h : RunOk l day) : Pur Pg 52 [refG l, di p, di day] (di (parI (onL l day) p)) := by
  refine fn Tryz.func52 [] [] (.cons (pd_refG l) (.cons (.v _) (.cons (.v _) .nil))) ?_
  refine (on_c l day h).call ?_
  refine (parent_c _ p).call ?_
  exact .pd (.v _)
theorem refPath_c (l : List Ev) (p day : Int) (h : RunOk l day) (r : List Int) (hr : IsPath (onL l day) p r) (hl : r.length ≤ 1000) : Pur Pg 56 [refG l, di p, di day] (rows ienc r) := by
  refine fn Tryz.func56 [] [] (.cons (pd_refG l) (.cons (.v _) (.cons (.v _) .nil))) ?_
  refine (on_c l day h).call ?_
  refine (path_c _ p r hr hl).call ?_
  exact .pd (pd_rows pdI _)
def pl51 : Plan := [(5, [.p 0, .p 1, .p 2, .p 3, .l 4, .p 5, .p 6, .p 7, .p 8, .l 9, .e 10, .p 11, .p 12, .l 13, .p 14])]
def nameL (s : List Pl) (p : Int) : ByteArray := match get s p with
  | some x => if x.ex then (match x.uses[(lastT x.uses).toNat]? with | some u => u.name | none => ⟨#[]⟩) else ⟨#[]⟩
  | none => ⟨#[]⟩
def namesL (s : List Pl) (p day : Int) : List ByteArray := match get s p with
  | some x => if x.ex then usingL x.uses day else []
  | none => []
theorem lastT_lt (l : List Use) : lastT l < l.length := by
  induction l with
  | nil => simp [lastT]
  | cons u r ih => rw [lastT]; simp only [List.length_cons]; split <;> (try split) <;> omega
theorem refName_c' (l : List Ev) (p day : Int) (h : RunOk l day) (ht : ∀ x, get (onL l day) p = some x → x.ex = true → 0 ≤ lastT x.uses) : Pur Pg 51 [refG l, di p, di day] (ds' (nameL (onL l day) p)) := by
  refine fn Tryz.func51 [] pl51 (.cons (pd_refG l) (.cons (.v _) (.cons (.v _) .nil))) ?_
  refine (on_c l day h).call ?_
  generalize onL l day = s at ht
  refine (at_c s p).call ?_
  rcases get_idx (s := s) (p := p) with ⟨h1, h2⟩ | ⟨i, h1, hi, h2⟩
  · rw [h1]
    exact frzs (by simp [nameL, h2])
  · rw [h1]
    refine row_at hi (if_ (fun h3 => ?_) fun h3 => ?_)
    · exact frzs (by simp_all [nameL])
    · have hex : s[i].ex = true := by simpa using h3
      have ht := ht _ h2 hex
      have hlt := lastT_lt s[i].uses
      obtain ⟨j, hj⟩ := Int.eq_ofNat_of_zero_le ht
      have hj2 : j < s[i].uses.length := by omega
      refine row_at hi ?_
      refine row_at hi ?_
      refine (last_c s[i].uses).call ?_
      rw [hj]
      refine ck rfl ?_
      refine row_at hj2 ?_
      refine frzs ?_
      simp [nameL, h2, hex, hj, hj2]
theorem refNames_c (l : List Ev) (p day : Int) (h : RunOk l day) (hu : ∀ x, get (onL l day) p = some x → x.uses.length ≤ 700000) : Pur Pg 58 [refG l, di p, di day] (rows senc (namesL (onL l day) p day)) := by
  refine fn Tryz.func58 [] [] (.cons (pd_refG l) (.cons (.v _) (.cons (.v _) .nil))) ?_
  refine (on_c l day h).call ?_
  generalize onL l day = s at hu
  refine (at_c s p).call ?_
  rcases get_idx (s := s) (p := p) with ⟨h1, h2⟩ | ⟨i, h1, hi, h2⟩
  · rw [h1, show namesL s p day = [] by simp [namesL, h2]]
    exact .nil
  · rw [h1]
    refine row_at hi (if_ (fun h3 => ?_) fun h3 => ?_)
    · rw [show namesL s p day = [] by simp at h3; simp [namesL, h2, h3]]
      exact .nil
    · have hex : s[i].ex = true := by simpa using h3
      refine row_at hi ?_
      refine (using_c s[i].uses day (hu _ h2)).call ?_
      rw [show namesL s p day = usingL s[i].uses day by simp [namesL, h2, hex]]
      exact .pd (pd_rows pdS _)
def allL (s : List Pl) : List Int := s.foldl (fun out x => if x.ex then addI out x.id else out) []
theorem addI_len (l : List Int) (s : Int) : (addI l s).length ≤ l.length + 1 := by
  induction l with
  | nil => simp [addI]
  | cons x r ih =>
    rw [addI]
    split
    · split <;> simp
    · simp; omega
theorem fold_len {α : Type} (f : α → List Int → List Int) (hf : ∀ x out, (f x out).length ≤ out.length + 1) : ∀ (s : List α) (out : List Int), (s.foldl (fun out x => f x out) out).length ≤ out.length + s.length
  | [], out => by simp
  | x :: s, out => by
    rw [List.foldl_cons]
    refine Nat.le_trans (fold_len f hf s _) ?_
    have := hf x out
    simp; omega
theorem foldl_take {α β : Type} (f : β → α → β) (b : β) {l : List α} {i : Nat} (h : i < l.length) : (l.take (i + 1)).foldl f b = f ((l.take i).foldl f b) l[i] := by
  rw [List.take_succ_eq_append_getElem h, List.foldl_append]
  rfl
theorem refAll_c (l : List Ev) (day : Int) (h : RunOk l day) (hs : (onL l day).length ≤ 700000) : Pur Pg 55 [refG l, di day] (rows ienc (allL (onL l day))) := by
  refine fn Tryz.func55 [] [] (.cons (pd_refG l) (.cons (.v _) .nil)) ?_
  refine (on_c l day h).call ?_
  generalize onL l day = s at hs
  refine AW_nil 6 ?_
  refine AW_idx s.length (fun i st => ∃ out, out = allL (s.take i) ∧ Has [(5, rows Pl.enc s), (6, rows ienc out), (7, di i)] [] st) ⟨[], by simp [allL], has ⟨rfl, rfl, rfl, trivial⟩ rfl⟩ ?_
  rintro i _ _ ⟨out, h1, e, rfl⟩
  refine go [] [] (if_ (fun hlt => ?_) (fun hlt => ?_))
  · simp at hlt
    refine row_at hlt (if_ (fun h2 => row_at hlt ?_) fun h2 => ?_)
    · refine (sorted_c out s[i].id ?_).call ?_
      · have := fold_len (fun (x : Pl) out => if x.ex then addI out x.id else out) (fun x out => by split; exact addI_len _ _; omega) (s.take i) []
        rw [h1]
        simp only [allL]
        simp only [List.length_nil, List.length_take] at this
        omega
      exact ⟨hlt, _, by rw [allL, foldl_take _ _ hlt, if_pos h2]; rw [h1]; rfl, has ⟨rfl, rfl, inc hlt (by simp only [maxLen]; omega), trivial⟩ rfl⟩
    · exact ⟨hlt, out, by rw [allL, foldl_take _ _ hlt, if_neg (by simpa using h2)]; exact h1, has ⟨rfl, rfl, inc hlt (by simp only [maxLen]; omega), trivial⟩ rfl⟩
  · simp at hlt
    rw [List.take_of_length_le hlt] at h1
    subst h1
    exact .pd (pd_rows pdI _)
end Go.Proofs.YtpndfdfipkadkaaGreatDoor
set_option maxRecDepth 100000
namespace Go.Proofs.YtpndfdfipkadkaaGreatDoor
open Go Go.Wx Go.Ax
def pthN (s : List Pl) : Nat → Int → List Int
  | 0, _ => []
  | n + 1, p => if parI s p == 0 then [] else parI s p :: pthN s n (parI s p)
def pth (s : List Pl) (p : Int) : List Int := pthN s (s.length + 1) p
def PathsOk (s : List Pl) : Prop := ∀ p, IsPath s p (pth s p) ∧ (pth s p).length ≤ 1000
def cont (s : List Pl) (a b : Int) : Bool := contB s a b (pth s b)
theorem cont_c (s : List Pl) (a b : Int) (h : PathsOk s) : Pur Pg 102 [rows Pl.enc s, di a, di b] (db (cont s a b)) := contains_c s a b _ (h b).1 (h b).2
def insideL (s : List Pl) (p : Int) : List Int := s.foldl (fun out x => if cont s p x.id then addI out x.id else out) []
theorem refInside_c (l : List Ev) (p day : Int) (h : RunOk l day) (hs : (onL l day).length ≤ 700000) (hp : PathsOk (onL l day)) : Pur Pg 57 [refG l, di p, di day] (rows ienc (insideL (onL l day) p)) := by
  refine fn Tryz.func57 [] [] (.cons (pd_refG l) (.cons (.v _) (.cons (.v _) .nil))) ?_
  refine (on_c l day h).call ?_
  generalize onL l day = s at hs hp
  refine AW_nil 8 ?_
  refine AW_idx s.length (fun i st => ∃ out, out = (s.take i).foldl (fun out x => if cont s p x.id then addI out x.id else out) [] ∧ Has [(1, di p), (7, rows Pl.enc s), (8, rows ienc out), (9, di i)] [] st) ⟨[], by simp, has ⟨rfl, rfl, rfl, rfl, trivial⟩ rfl⟩ ?_
  rintro i _ _ ⟨out, h1, e, rfl⟩
  refine go [] [] (if_ (fun hlt => ?_) (fun hlt => ?_))
  · simp at hlt
    refine row_at hlt ?_
    refine (cont_c s p s[i].id hp).call ?_
    refine if_ (fun h2 => row_at hlt ?_) fun h2 => ?_
    · refine (sorted_c out s[i].id ?_).call ?_
      · have := fold_len (fun (x : Pl) out => if cont s p x.id then addI out x.id else out) (fun x out => by split; exact addI_len _ _; omega) (s.take i) []
        rw [h1]
        simp only [List.length_nil, List.length_take] at this
        omega
      exact ⟨hlt, _, by rw [foldl_take _ _ hlt, if_pos h2]; rw [h1], has ⟨rfl, rfl, rfl, inc hlt (by simp only [maxLen]; omega), trivial⟩ rfl⟩
    · exact ⟨hlt, out, by rw [foldl_take _ _ hlt, if_neg (by simpa using h2)]; exact h1, has ⟨rfl, rfl, rfl, inc hlt (by simp only [maxLen]; omega), trivial⟩ rfl⟩
  · simp at hlt
    rw [List.take_of_length_le hlt] at h1
    subst h1
    exact .pd (pd_rows pdI _)
def callIn (day : Int) (name : ByteArray) (x : Pl) (out : List Int) : List Int := if x.ex then (usingL x.uses day).foldl (fun out n => if strEq n name then addI out x.id else out) out else out
def calledL (s : List Pl) (name : ByteArray) (day : Int) : List Int := s.foldl (fun out x => callIn day name x out) []
theorem fold_len' {α : Type} (c : Nat) (f : α → List Int → List Int) : ∀ (s : List α) (out : List Int), (∀ x ∈ s, ∀ out, (f x out).length ≤ out.length + c) → (s.foldl (fun out x => f x out) out).length ≤ out.length + c * s.length
  | [], out, _ => by simp
  | x :: s, out, hf => by
    rw [List.foldl_cons]
    refine Nat.le_trans (fold_len' c f s _ fun y hy => hf y (List.mem_cons_of_mem _ hy)) ?_
    have := hf x List.mem_cons_self out
    rw [List.length_cons, Nat.mul_succ]; omega
theorem refCalled_c (l : List Ev) (name : ByteArray) (day : Int) (h : RunOk l day) (hs : (onL l day).length ≤ 400) (hu : ∀ x ∈ onL l day, x.uses.length ≤ 1000) : Pur Pg 62 [refG l, ds' name, di day] (rows ienc (calledL (onL l day) name day)) := by
  refine fn Tryz.func62 [] [] (.cons (pd_refG l) (.cons (.v _) (.cons (.v _) .nil))) ?_
  refine (on_c l day h).call ?_
  generalize onL l day = s at hs hu
  refine AW_nil 8 ?_
  refine AW_idx s.length (fun i st => ∃ out, out = (s.take i).foldl (fun out x => callIn day name x out) [] ∧ Has [(1, ds' name), (2, di day), (7, rows Pl.enc s), (8, rows ienc out), (9, di i)] [] st) ⟨[], by simp, has ⟨rfl, rfl, rfl, rfl, rfl, trivial⟩ rfl⟩ ?_
  rintro i _ _ ⟨out, h1, e, rfl⟩
  refine go [] [] (if_ (fun hlt => ?_) (fun hlt => ?_))
  · simp at hlt
    have hui := hu _ (List.getElem_mem hlt)
    refine row_at hlt ?_
    refine if_ (fun h2 => ?_) fun h2 => ?_
    · exact ⟨hlt, out, by rw [foldl_take _ _ hlt, callIn, if_neg (by simpa using h2)]; exact h1, has ⟨rfl, rfl, rfl, rfl, inc hlt (by simp only [maxLen]; omega), trivial⟩ rfl⟩
    refine row_at hlt ?_
    refine (using_c s[i].uses day (by omega)).call ?_
    have hn := using_len s[i].uses day
    have ho : out.length ≤ 1000 * i := by
      have := fold_len' 1000 (callIn day name) (s.take i) [] fun x hx out => by
        unfold callIn
        split
        · have h3 := fold_len (fun n out => if strEq n name then addI out x.id else out) (fun n out => by split; exact addI_len _ _; omega) (usingL x.uses day) out
          have h4 := using_len x.uses day
          have h5 := hu x (List.mem_of_mem_take hx)
          omega
        · omega
      rw [← h1] at this
      simp only [List.length_nil, List.length_take] at this
      omega
    have hc : callIn day name s[i] out = (usingL s[i].uses day).foldl (fun out n => if strEq n name then addI out s[i].id else out) out := by rw [callIn, if_pos (by simpa using h2)]
    generalize usingL s[i].uses day = ns at hn hc
    refine AW_idx ns.length (fun j st => ∃ o2, o2 = (ns.take j).foldl (fun out n => if strEq n name then addI out s[i].id else out) out ∧ Has [(1, ds' name), (2, di day), (7, rows Pl.enc s), (8, rows ienc o2), (9, di i), (10, rows senc ns), (11, di j)] [] st) ⟨out, by simp, has ⟨rfl, rfl, rfl, rfl, rfl, rfl, rfl, trivial⟩ rfl⟩ ?_
    rintro j _ _ ⟨o2, g1, e2, rfl⟩
    refine go [] [] (if_ (fun hj => ?_) (fun hj => ?_))
    · simp at hj
      refine row_at hj (if_ (fun h3 => row_at hlt ?_) fun h3 => ?_)
      · refine (sorted_c o2 s[i].id ?_).call ?_
        · have := fold_len (fun n out => if strEq n name then addI out s[i].id else out) (fun n out => by split; exact addI_len _ _; omega) (ns.take j) out
          rw [g1]
          simp only [List.length_take] at this
          omega
        exact ⟨hj, _, by rw [foldl_take _ _ hj, if_pos h3]; rw [g1], has ⟨rfl, rfl, rfl, rfl, rfl, rfl, inc hj (by simp only [maxLen]; omega), trivial⟩ rfl⟩
      · exact ⟨hj, o2, by rw [foldl_take _ _ hj, if_neg (by simpa using h3)]; exact g1, has ⟨rfl, rfl, rfl, rfl, rfl, rfl, inc hj (by simp only [maxLen]; omega), trivial⟩ rfl⟩
    · simp at hj
      rw [List.take_of_length_le hj] at g1
      exact ⟨hlt, o2, by rw [foldl_take _ _ hlt, ← h1, hc, g1], has ⟨rfl, rfl, rfl, rfl, inc hlt (by simp only [maxLen]; omega), trivial⟩ rfl⟩
  · simp at hlt
    rw [List.take_of_length_le hlt] at h1
    subst h1
    exact .pd (pd_rows pdI _)
def comStep (s : List Pl) (a b : Int) (q : Int × Int) (x : Pl) : Int × Int := if cont s x.id a && (cont s x.id b && decide (((pth s x.id).length : Int) > q.2)) then (x.id, ((pth s x.id).length : Int)) else q
def commonL (s : List Pl) (a b : Int) : Int := (s.foldl (comStep s a b) (0, -1)).1
theorem refCommon_c (l : List Ev) (a b day : Int) (h : RunOk l day) (hs : (onL l day).length ≤ 700000) (hp : PathsOk (onL l day)) : Pur Pg 53 [refG l, di a, di b, di day] (di (commonL (onL l day) a b)) := by
  refine fn Tryz.func53 [] [] (.cons (pd_refG l) (.cons (.v _) (.cons (.v _) (.cons (.v _) .nil)))) ?_
  refine (on_c l day h).call ?_
  generalize onL l day = s at hs hp
  refine AW_idx s.length (fun i st => ∃ x y, (x, y) = (s.take i).foldl (comStep s a b) (0, -1) ∧ Has [(1, di a), (2, di b), (9, rows Pl.enc s), (10, di x), (11, di y), (12, di i)] [] st) ⟨0, -1, by simp, has ⟨rfl, rfl, rfl, rfl, rfl, rfl, trivial⟩ rfl⟩ ?_
  rintro i _ _ ⟨x, y, h1, e, rfl⟩
  refine go [] [] (if_ (fun hlt => ?_) (fun hlt => ?_))
  · simp at hlt
    refine row_at hlt ?_
    refine (cont_c s s[i].id a hp).call ?_
    refine row_at hlt ?_
    refine (cont_c s s[i].id b hp).call ?_
    refine row_at hlt ?_
    refine (path_c s s[i].id _ (hp _).1 (hp _).2).call ?_
    have hlen : ((pth s s[i].id).map ienc).length = (pth s s[i].id).length := by simp
    have st : ∀ q, comStep s a b (x, y) s[i] = q → q = (s.take (i + 1)).foldl (comStep s a b) (0, -1) := fun q hq => by rw [foldl_take _ _ hlt, ← h1, hq]
    refine if_ (fun h2 => if_ (fun h3 => if_ (fun h4 => row_at hlt ?_) fun h4 => ?_) fun h3 => ?_) fun h2 => ?_
    · rw [hlen] at h4
      exact ⟨hlt, _, _, st _ (by rw [comStep, if_pos (by simp only [h2, h3, h4]; rfl)]), has ⟨rfl, rfl, rfl, rfl, by rw [hlen]; rfl, inc hlt (by simp only [maxLen]; omega), trivial⟩ rfl⟩
    · rw [hlen] at h4
      exact ⟨hlt, x, y, st _ (by rw [comStep, if_neg (by simp only [h2, h3, h4]; simp)]), has ⟨rfl, rfl, rfl, rfl, rfl, inc hlt (by simp only [maxLen]; omega), trivial⟩ rfl⟩
    · exact ⟨hlt, x, y, st _ (by rw [comStep, if_neg (by simp [h2, h3])]), has ⟨rfl, rfl, rfl, rfl, rfl, inc hlt (by simp only [maxLen]; omega), trivial⟩ rfl⟩
    · exact ⟨hlt, x, y, st _ (by rw [comStep, if_neg (by simp [h2])]), has ⟨rfl, rfl, rfl, rfl, rfl, inc hlt (by simp only [maxLen]; omega), trivial⟩ rfl⟩
  · simp at hlt
    rw [List.take_of_length_le hlt] at h1
    exact frzi (by rw [commonL, ← h1])
def goN (s : List Pl) : Nat → Int → Int
  | 0, _ => 0
  | n + 1, p => match get s p with
    | none => 0
    | some x => if x.ex then p else goN s n x.into
theorem refGoesOn_c (l : List Ev) (p day : Int) (h : RunOk l day) (hs : (onL l day).length ≤ 700000) : Pur Pg 54 [refG l, di p, di day] (di (goN (onL l day) ((onL l day).length + 1) p)) := by
  refine fn Tryz.func54 [] [] (.cons (pd_refG l) (.cons (.v _) (.cons (.v _) .nil))) ?_
  refine (on_c l day h).call ?_
  generalize onL l day = s at hs
  refine AW_idx (s.length + 1) (fun i st => ∃ q, goN s (s.length + 1) p = goN s (s.length + 1 - i) q ∧ Has [(7, rows Pl.enc s), (8, di q), (9, di i)] [] st) ⟨p, by simp, has ⟨rfl, rfl, rfl, trivial⟩ rfl⟩ ?_
  rintro i _ _ ⟨q, h1, e, rfl⟩
  refine go [] [] (if_ (fun hlt => ?_) (fun hlt => ?_))
  · have hlt : i < s.length + 1 := by simp at hlt; omega
    obtain ⟨k, hk⟩ : ∃ k, s.length + 1 - i = k + 1 := ⟨s.length - i, by omega⟩
    rw [hk, show goN s (k + 1) q = (match get s q with | none => 0 | some x => if x.ex then q else goN s k x.into) from rfl] at h1
    refine (at_c s q).call ?_
    rcases get_idx (s := s) (p := q) with ⟨g1, g2⟩ | ⟨j, g1, hj, g2⟩
    · rw [g1]
      exact frzi (by rw [h1, g2])
    · rw [g1]
      rw [g2] at h1
      simp only at h1
      refine row_at hj (if_ (fun h2 => ?_) fun h2 => row_at hj ?_)
      · exact frzi (by rw [h1, if_pos h2])
      · rw [if_neg (by simpa using h2)] at h1
        exact ⟨hlt, _, by rw [h1, show s.length + 1 - (i + 1) = k by omega], has ⟨rfl, rfl, inc hlt (by simp only [maxLen]; omega), trivial⟩ rfl⟩
  · have hlt : s.length + 1 ≤ i := by simp at hlt; omega
    refine frzi ?_
    rw [h1, show s.length + 1 - i = 0 by omega]
    rfl
def histL (s : List Pl) (p : Int) : List Use := (get s p).elim [] (·.uses)
theorem refHistory_c (l : List Ev) (p : Int) (h : RunOk l 100000) : Pur Pg 61 [refG l, di p] (rows Use.enc (histL (upToL l 100000) p)) := by
  refine fn Tryz.func61 [] [] (.cons (pd_refG l) (.cons (.v _) .nil)) ?_
  refine (upTo_c l 100000 h).call ?_
  generalize upToL l 100000 = s
  refine (at_c s p).call ?_
  rcases get_idx (s := s) (p := p) with ⟨g1, g2⟩ | ⟨j, g1, hj, g2⟩
  · rw [g1, show histL s p = [] by simp [histL, g2]]
    exact .nil
  · rw [g1]
    refine row_at hj ?_
    rw [show histL s p = s[j].uses by simp [histL, g2]]
    exact .pd (pd_rows pdUse _)
end Go.Proofs.YtpndfdfipkadkaaGreatDoor
