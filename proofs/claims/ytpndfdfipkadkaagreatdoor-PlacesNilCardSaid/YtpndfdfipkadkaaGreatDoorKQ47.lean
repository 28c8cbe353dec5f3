/- The law holds: part 148. Conditions: none. -/
import Derived.Test.YtpndfdfipkadkaaGreatDoorKQ46
set_option linter.all false
set_option maxRecDepth 100000
namespace Go.Proofs.YtpndfdfipkadkaaGreatDoor
open Go Go.Wx Go.Ax
theorem pd_nilP : Pd nilP := .v _
theorem stOk_nil : StOk [] where
  par := fun p h => absurd rfl h
  zero := rfl
  fin := fun p => ⟨[], rfl⟩
  len := by simp
theorem onNil_c (d : Int) : Pur Pg 91 [nilP, di d] (stD []) := by
  refine fn Tryz.func91 [] [] (.cons pd_nilP (.cons (.v _) .nil)) ?_
  conv => whnf
  exact .map rfl rfl (fun j d d' h1 h2 => by simp at h1)
theorem addNil_c (e : Ev) : Pur Pg 31 [nilP, .agg e.enc] (di 3) := by
  refine fn Tryz.func31 [] [] (.cons pd_nilP (.cons (.agg (pdEv e)) .nil)) ?_
  conv => whnf
  exact frzi rfl
theorem existsNil_c (p d : Int) : Pur Pg 26 [nilP, di p, di d] (db false) := by
  refine fn Tryz.func26 [] [] (.cons pd_nilP (.cons (.v _) (.cons (.v _) .nil))) ?_
  refine (onNil_c d).call ?_
  refine (exists_c [] p).call ?_
  exact frzb rfl
theorem nameNil_c (p d : Int) : Pur Pg 36 [nilP, di p, di d] (ds' ⟨#[]⟩) := by
  refine fn Tryz.func36 [] [] (.cons pd_nilP (.cons (.v _) (.cons (.v _) .nil))) ?_
  refine (onNil_c d).call ?_
  refine (exists_c [] p).call ?_
  exact frzs rfl
theorem parentNil_c (p d : Int) : Pur Pg 44 [nilP, di p, di d] (di 0) := by
  refine fn Tryz.func44 [] [] (.cons pd_nilP (.cons (.v _) (.cons (.v _) .nil))) ?_
  refine (onNil_c d).call ?_
  refine (exists_c [] p).call ?_
  exact frzi rfl
theorem namesNil_c (p d : Int) : Pur Pg 27 [nilP, di p, di d] (rows senc []) := by
  refine fn Tryz.func27 [] [] (.cons pd_nilP (.cons (.v _) (.cons (.v _) .nil))) ?_
  refine (onNil_c d).call ?_
  refine ck rfl (force_to ?_)
  refine (namesP_c [] p d (fun x hx => nomatch hx)).call ?_
  exact .pd (pd_rows pdS _)
theorem pathNil_c (p d : Int) : Pur Pg 43 [nilP, di p, di d] (rows ienc []) := by
  refine fn Tryz.func43 [] [] (.cons pd_nilP (.cons (.v _) (.cons (.v _) .nil))) ?_
  refine (onNil_c d).call ?_
  refine ck rfl (force_to ?_)
  refine (stOk_nil.path_c p).call ?_
  exact .pd (pd_rows pdI _)
theorem insideNil_c (p d : Int) : Pur Pg 45 [nilP, di p, di d] (rows ienc []) := by
  refine fn Tryz.func45 [] [] (.cons pd_nilP (.cons (.v _) (.cons (.v _) .nil))) ?_
  refine (onNil_c d).call ?_
  refine ck rfl (force_to ?_)
  refine (inside_c [] p stOk_nil).call ?_
  exact .pd (pd_rows pdI _)
theorem allNil_c (d : Int) : Pur Pg 41 [nilP, di d] (rows ienc []) := by
  refine fn Tryz.func41 [] [] (.cons pd_nilP (.cons (.v _) .nil)) ?_
  refine (onNil_c d).call ?_
  refine ck rfl (force_to ?_)
  refine AC.mono (placesM_c [] (by simp)) ?_
  rintro d H' ms ⟨ys, n, h1, h2, h3, h4, rfl, rfl, rfl⟩
  have hf := frzK_take (k0 := 0) (H := [AO.arr 3 1 (ys.map ienc)]) (b := 0) (enc := ienc) (n := (allL []).length) (T := 3) (sz := 1) rfl (by omega) h1 pdI (fun _ => rfl) (Nat.le_refl _)
  rw [h2] at hf
  exact hf
theorem eventsNil_c : Pur Pg 34 [nilP] (rows Ev.enc []) := by
  refine fn Tryz.func34 [] [] (.cons pd_nilP .nil) ?_
  conv => whnf
  exact .nil
theorem historyNil_c (p : Int) : Pur Pg 60 [nilP, di p] (rows Use.enc []) := by
  refine fn Tryz.func60 [] [] (.cons pd_nilP (.cons (.v _) .nil)) ?_
  conv => whnf
  exact .nil
theorem changesNil_c (p : Int) : Pur Pg 47 [nilP, di p] (rows ienc []) := by
  refine fn Tryz.func47 [] [] (.cons pd_nilP (.cons (.v _) .nil)) ?_
  conv => whnf
  exact .nil
theorem goesNil_c (p d : Int) : Pur Pg 25 [nilP, di p, di d] (di 0) := by
  refine fn Tryz.func25 [] [] (.cons pd_nilP (.cons (.v _) (.cons (.v _) .nil))) ?_
  refine (onNil_c d).call ?_
  conv => whnf
  refine AW_idx 0 (fun i st => Has [(1, di p), (7, stD [])] [] st) (has ⟨rfl, rfl, trivial⟩ rfl) ?_
  rintro i _ hi ⟨e0, rfl⟩
  refine go [] [] ?_
  refine st_no (s := []) rfl ?_
  refine st_no (s := []) rfl ?_
  exact frzi rfl
end Go.Proofs.YtpndfdfipkadkaaGreatDoor
set_option maxRecDepth 100000
namespace Go.Proofs.YtpndfdfipkadkaaGreatDoor
open Go Go.Wx Go.Ax
theorem commonNil_c (a b d : Int) : Pur Pg 42 [nilP, di a, di b, di d] (di 0) := by
  refine fn Tryz.func42 [] [] (.cons pd_nilP (.cons (.v _) (.cons (.v _) (.cons (.v _) .nil)))) ?_
  refine (onNil_c d).call ?_
  refine (exists_c [] a).call ?_
  exact frzi rfl
theorem calledNil_c (n : ByteArray) (d : Int) : Pur Pg 46 [nilP, ds' n, di d] (rows ienc []) := by
  refine Pur_of (PdL.cons pd_nilP (.cons (.v _) (.cons (.v _) .nil))) (AC_fn Tryz.func46 rfl rfl rfl [] (fun _ => true) (fun b h => nomatch h) (AW_rest (c' := restC 0 c46) ?_))
  refine goC 2 [] [] ?_
  refine (onNil_c d).call ?_
  refine AW_rest (c' := restC 2 c46) ?_
  refine AW_has (l := [(4, .ptr 0 0 0 1), (5, .ptr 1 0 0 1), (7, .ptr 2 0 0 1)]) (fun e0 => ?_) ⟨rfl, rfl, rfl, trivial⟩
  refine AW_frz (r := [(4, .fp [ds' n]), (5, .fp [di d]), (7, .fp [stD []])]) (H1 := []) (G := [.arr 9 1 [[ds' n]], .arr 3 1 [[di d]], .arr 117 1 [[stD []]]]) (Nat.le_refl _) (fun _ h => nomatch h) ⟨rfl, .fz (.fp rfl rfl (FrzL.refl (PdL.one (.v _))).2), rfl, .fz (.fp rfl rfl (FrzL.refl (PdL.one (.v _))).2), rfl, .fz (.fp rfl rfl (FrzL.refl (PdL.one (pd_st []))).2), trivial⟩ fun e1 => ?_
  refine go [] [] ?_
  refine AC.mono (placesM_c [] (by simp)) ?_
  rintro _ H' ms ⟨ys, n', h1, h2, h3, h4, rfl, rfl, rfl⟩
  have hdel := deleteFunc_c ys (allL []).length n' 118 [.fp [stD []], .fp [di d], .fp [ds' n]] (fun _ => true) h1 h3 (by simp at h4; omega) (.cons (.fp (PdL.one (pd_st []))) (.cons (.fp (PdL.one (.v _))) (.cons (.fp (PdL.one (.v _))) .nil))) fun q hq => (by rw [h2] at hq; cases hq)
  refine AC.mono hdel ?_
  rintro _ H' ms ⟨zs, g1, g2, rfl, rfl, rfl⟩
  rw [h2] at g2 ⊢
  have hf := frzK_take (k0 := 0) (H := [AO.arr 3 1 (zs.map ienc)]) (b := 0) (enc := ienc) (n := 0) (T := 3) (sz := 1) rfl (Nat.zero_le _) g1 pdI (fun _ => rfl) (Nat.le_refl _)
  exact hf
theorem readyNil_c (a : Auto) (s : List Spell) : Pur Pg 129 [nilP, .agg a.enc, rows Spell.enc s] (di 3) := by
  refine fn Tryz.func129 [] [] (.cons pd_nilP (.cons (.agg (pdAuto a)) (.cons (pd_rows pdSpell s) .nil))) ?_
  conv => whnf
  exact frzi rfl
theorem fitsNil_c (p d : Int) (a : Auto) (s : List Spell) : Pur Pg 64 [nilP, di p, di d, .agg a.enc, rows Spell.enc s] (.tup [di 0, db false, di 3]) := by
  refine fn Tryz.func64 [] [] (.cons pd_nilP (.cons (.v _) (.cons (.v _) (.cons (.agg (pdAuto a)) (.cons (pd_rows pdSpell s) .nil))))) ?_
  conv => whnf
  refine (readyNil_c a s).call ?_
  conv => whnf
  exact frz_tup3 (.pd (.v _)) (.pd (.v _)) (.pd (.v _))
theorem regionNil_c (p d : Int) (a : Auto) (s : List Spell) : Pur Pg 66 [nilP, di p, di d, .agg a.enc, rows Spell.enc s] (.tup [.agg [di 0, di 0], db false, di 3]) := by
  refine fn Tryz.func66 [] [] (.cons pd_nilP (.cons (.v _) (.cons (.v _) (.cons (.agg (pdAuto a)) (.cons (pd_rows pdSpell s) .nil))))) ?_
  conv => whnf
  refine (readyNil_c a s).call ?_
  conv => whnf
  exact frz_tup3 (FrzK.pd (d := .agg [di 0, di 0]) (Pd.agg (PdL.cons (.v _) (PdL.one (.v _))))) (.pd (.v _)) (.pd (.v _))
theorem findNil_c (d r : Int) (a : Auto) (s : List Spell) (m : Int) : Pur Pg 68 [nilP, di d, di r, .agg a.enc, rows Spell.enc s, di m] (.tup [.row false [], di 3]) := by
  refine fn Tryz.func68 [] [] (.cons pd_nilP (.cons (.v _) (.cons (.v _) (.cons (.agg (pdAuto a)) (.cons (pd_rows pdSpell s) (.cons (.v _) .nil)))))) ?_
  conv => whnf
  refine (readyNil_c a s).call ?_
  conv => whnf
  exact Frz.tup2 .nil (.pd (.v _))
theorem twinsNil_c (p d : Int) (s : List Spell) : Pur Pg 37 [nilP, di p, di d, rows Spell.enc s] (.tup [.row false [], di 3]) := by
  refine fn Tryz.func37 [] [] (.cons pd_nilP (.cons (.v _) (.cons (.v _) (.cons (pd_rows pdSpell s) .nil)))) ?_
  conv => whnf
  exact Frz.tup2 .nil (.pd (.v _))
end Go.Proofs.YtpndfdfipkadkaaGreatDoor
set_option maxRecDepth 100000
namespace Go.Proofs.YtpndfdfipkadkaaGreatDoor
open Go Go.Wx Go.Ax
noncomputable def c16 : Code := Tryz.f16.body.getD .skip
theorem lawNil_c (e : Ev) (p d : Int) (a : Auto) (s : List Spell) (n : ByteArray) : Pur Pg 16 [.agg e.enc, di p, di d, .agg a.enc, rows Spell.enc s, ds' n] (db true) := by
  refine Pur_of (PdL.cons (.agg (pdEv e)) (.cons (.v _) (.cons (.v _) (.cons (.agg (pdAuto a)) (.cons (pd_rows pdSpell s) (PdL.one (.v _))))))) (AC_fn Tryz.func16 rfl rfl rfl [] (fun _ => true) (fun b h => nomatch h) (AW_rest (c' := restC 0 c16) ?_))
  obtain ⟨so, hso⟩ : ∃ so : ByteArray, so = ⟨#[]⟩ := ⟨_, rfl⟩
  have hnm := nameNil_c p d
  rw [← hso] at hnm
  refine goC 3 [] [] ?_
  conv => whnf
  refine (addNil_c e).call ?_
  conv => whnf
  refine (existsNil_c p d).call ?_
  conv => whnf
  refine hnm.call ?_
  refine iff_ (by rw [hso, strEq_refl]; rfl) ?_
  refine (parentNil_c p d).call ?_
  conv => whnf
  refine (commonNil_c p p d).call ?_
  conv => whnf
  refine (goesNil_c p d).call ?_
  conv => whnf
  refine AW_rest (c' := restC 3 c16) (AW_has (l := [(1, di p), (2, di d), (4, rows Spell.enc s), (5, ds' n), (9, .ptr 1 0 0 1), (13, nilP)]) (fun e0 => ?_) (by exact ⟨rfl, rfl, rfl, rfl, rfl, rfl, trivial⟩))
  refine goC 1 [] [] ?_
  conv => whnf
  refine eventsNil_c.call ?_
  conv => whnf
  refine (allNil_c d).call ?_
  conv => whnf
  refine (namesNil_c p d).call ?_
  conv => whnf
  refine (historyNil_c p).call ?_
  conv => whnf
  refine (pathNil_c p d).call ?_
  conv => whnf
  refine (insideNil_c p d).call ?_
  conv => whnf
  refine (calledNil_c n d).call ?_
  conv => whnf
  refine (changesNil_c p).call ?_
  conv => whnf
  refine AW_rest (c' := restC 4 c16) (AW_has (l := [(1, di p), (2, di d), (4, rows Spell.enc s), (9, .ptr 1 0 0 1), (13, nilP)]) (fun e1 => ?_) (by exact ⟨rfl, rfl, rfl, rfl, rfl, trivial⟩))
  refine goC 2 [] [] ?_
  conv => whnf
  refine (fitsNil_c p d a s).call ?_
  conv => whnf
  refine (regionNil_c p d a s).call ?_
  conv => whnf
  refine AW_rest (c' := restC 6 c16) (AW_has (l := [(1, di p), (2, di d), (4, rows Spell.enc s), (9, .ptr 1 0 0 1), (13, nilP), (14, di 0), (15, db false), (16, di 3), (17, .ptr 2 0 0 1), (18, db false), (19, di 3)]) (fun e2 => ?_) (by exact ⟨rfl, rfl, rfl, rfl, rfl, rfl, rfl, rfl, rfl, rfl, rfl, trivial⟩))
  refine goC 2 [] [] ?_
  conv => whnf
  refine (findNil_c d p a s 0).call ?_
  conv => whnf
  refine (twinsNil_c p d s).call ?_
  conv => whnf
  refine AW_rest (c' := restC 8 c16) (AW_has (l := [(14, di 0), (15, db false), (16, di 3), (17, .ptr 2 0 0 1), (18, db false), (19, di 3), (20, .row false []), (21, di 3), (22, .row false []), (23, di 3)]) (fun e3 => ?_) (by exact ⟨rfl, rfl, rfl, rfl, rfl, rfl, rfl, rfl, rfl, rfl, trivial⟩))
  refine go [] [] ?_
  conv => whnf
  refine alive_c.call ?_
  conv => whnf
  refine ⟨?_, ?_⟩
  · first | kernel_rfl | exact ⟨by kernel_rfl, by kernel_rfl⟩
  · conv => whnf
    exact frzt
end Go.Proofs.YtpndfdfipkadkaaGreatDoor
