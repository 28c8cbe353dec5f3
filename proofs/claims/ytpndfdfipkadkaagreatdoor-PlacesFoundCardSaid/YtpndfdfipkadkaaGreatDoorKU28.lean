/- The law holds: part 360. Conditions: none. -/
import Derived.Test.YtpndfdfipkadkaaGreatDoorKU4
import Derived.Test.YtpndfdfipkadkaaGreatDoorKU27
import Derived.Shelf.Lays8
import Derived.Ground.Names8Prog
import Derived.Test.YtpndfdfipkadkaaGreatDoorProg
import Derived.Shelf.RegionOpenPlain
import Derived.WalkKit
import Derived.Lib.Walk
import Derived.Lib.SliceRun
import Derived.Lib.AppendZerosOnto
set_option linter.all false
namespace Go.Proofs
open Go.Shelf
def Tryz.growS_ren:Go.Shelf.Ren:=⟨fun | 4=>209 | n=>n,fun | 22=>40 | 25=>9 | 3=>3 | 4=>4 | 9=>9 | 20=>20 | 0=>0 | n=>n,fun | n=>n⟩
theorem Tryz.growS : Go.Proofs.Lays8.n4 Tryz.prog Tryz.growS_ren := {
  mixed := by kernel_rfl
  f4 := ⟨Tryz.f209.name, by decide, Tryz.func209.trans (congrArg some (by kernel_rfl))⟩
  t0 := Tryz.underlying0
  a0 := Tryz.isAgg0
  z0 := Tryz.sizeOf0
  v0 := Tryz.zeroValue0
  t3 := Tryz.underlying3
  a3 := Tryz.isAgg3
  z3 := Tryz.sizeOf3
  v3 := Tryz.zeroValue3
  t4 := Tryz.underlying4
  a4 := Tryz.isAgg4
  z4 := Tryz.sizeOf4
  v4 := Tryz.zeroValue4
  t9 := Tryz.underlying9
  a9 := Tryz.isAgg9
  z9 := Tryz.sizeOf9
  v9 := Tryz.zeroValue9
  t20 := Tryz.underlying20
  a20 := Tryz.isAgg20
  z20 := Tryz.sizeOf20
  v20 := Tryz.zeroValue20
  t22 := Tryz.underlying40
  a22 := Tryz.isAgg40
  z22 := Tryz.sizeOf40
  v22 := Tryz.zeroValue40 }
end Go.Proofs
namespace Go.Proofs
open Go.Shelf Go.RowKit Go.Lib
set_option maxHeartbeats 4000000 in
set_option maxRecDepth 100000 in
theorem Tryz.grow_zero(w:World):Calls Tryz.prog 209 #[.slice none 0 0,.int .i64 0] w fun e w'=>e= .returned (.slice none 0 0)∧w'=w:=by
 have L:=Tryz.growS
 have mixed:=L.mixed
 have t0:=L.t0;have a0:=L.a0;have z0:=L.z0;have v0:=L.v0;have u0:=run_underlying L.t0;have t3:=L.t3;have a3:=L.a3;have z3:=L.z3;have v3:=L.v3;have u3:=run_underlying L.t3;have t4:=L.t4;have a4:=L.a4;have z4:=L.z4;have v4:=L.v4;have u4:=run_underlying L.t4;have t9:=L.t9;have a9:=L.a9;have z9:=L.z9;have v9:=L.v9;have u9:=run_underlying L.t9;have t20:=L.t20;have a20:=L.a20;have z20:=L.z20;have v20:=L.v20;have u20:=run_underlying L.t20;have t22:=L.t22;have a22:=L.a22;have z22:=L.z22;have v22:=L.v22;have u22:=run_underlying L.t22
 obtain⟨_,_,FG⟩:=L.f4
 show Calls Tryz.prog (Tryz.growS_ren.f 4) _ _ _
 generalize Tryz.growS_ren=ρ at*
 go_enter FG,Body8.n4_ntmps ρ
 go_wp2
 go_ret
 exact⟨rfl,rfl⟩
set_option maxHeartbeats 4000000 in
set_option maxRecDepth 100000 in
theorem Tryz.grow_pos {n : Nat} (h0 : 0 < n) (hb : n ≤ 1000000) (w : World) : Calls Tryz.prog 209 #[.slice none 0 0, .int .i64 n] w fun e w' => ∃ c cur, e = .returned (.slice (some ⟨w.heap.size, 0, none⟩) 0 c) ∧ c ≤ maxLen ∧ c ≤ cur.size ∧ w' = w.drew.alloc (.cells cur 9) := by
  have L := Tryz.growS
  obtain ⟨i, z, ht, hi, hz, hzs, hi1, hi2⟩ := Go.Wx.apk_info (show Go.Wx.apk Tryz.prog 40 = some (9, 1, 16) by kernel_rfl)
  have mixed := L.mixed
  have t0 := L.t0; have a0 := L.a0; have z0 := L.z0; have v0 := L.v0; have u0 := run_underlying L.t0; have t3 := L.t3; have a3 := L.a3; have z3 := L.z3; have v3 := L.v3; have u3 := run_underlying L.t3; have t4 := L.t4; have a4 := L.a4; have z4 := L.z4; have v4 := L.v4; have u4 := run_underlying L.t4; have t9 := L.t9; have a9 := L.a9; have z9 := L.z9; have v9 := L.v9; have u9 := run_underlying L.t9; have t20 := L.t20; have a20 := L.a20; have z20 := L.z20; have v20 := L.v20; have u20 := run_underlying L.t20; have t22 := L.t22; have a22 := L.a22; have z22 := L.z22; have v22 := L.v22; have u22 := run_underlying L.t22
  obtain ⟨_, _, FG⟩ := L.f4
  have h9 : Tryz.growS_ren.t 25 = 9 := rfl
  show Calls Tryz.prog (Tryz.growS_ren.f 4) _ _ _
  rw [← h9] at hi ⊢
  generalize Tryz.growS_ren = ρ at *
  have h1 : ¬ ((n : Int) < 0) := by omega
  have h2 : wrap64 ((0 : Int) - 0) = 0 := by unfold wrap64; omega
  have h3 : wrap64 ((n : Int) - 0) = n := by unfold wrap64; omega
  have h4 : (n : Int) > 0 := by omega
  have z25 : ∀ w, (Go.sizeOf (ρ.t 25)).run Tryz.prog w = .ok i.size w := fun w => by simp [Go.sizeOf, typeInfo, hi]
  have hrz : ∀ ty, (Builtin.append_ #[(ρ.t 22), (ρ.t 3)] ty #[.slice none 0 0, .int .i64 (n : Int)]).run Tryz.prog w =
      .ok (.slice (some ⟨w.heap.size, 0, none⟩) n (grownCap w n 0 (ρ.t 25))) (w.drew.alloc (.cells (#[] ++ Builtin.zeroCells z.cells n ++ Builtin.zeroCells z.cells (grownCap w n 0 (ρ.t 25) - n)) (ρ.t 25))) := fun ty => by
    have h := Lib.run_append_grow_zeros w (ρ.t 22) (ρ.t 3) ty (ρ.t 25) i z .i64 .i64 L.t22 L.t3 hi hz none 0 0 [] (run_firstCells_none _ _ _ _ _) n h0 (by omega) (by omega) (by omega) (by rw [hi2]; omega)
      (by rw [hi2, Nat.zero_add]; exact growslice_fits (by omega) (by omega))
    rw [Nat.zero_add] at h
    exact h
  have hGn : n ≤ grownCap w n 0 (ρ.t 25) := grownCap_ge w _ _ _
  have hGm : grownCap w n 0 (ρ.t 25) ≤ maxLen := grownCap_le_maxLen w n 0 (ρ.t 25) (by unfold maxLen; omega)
  obtain ⟨G, hG⟩ : ∃ G, G = grownCap w n 0 (ρ.t 25) := ⟨_, rfl⟩
  rw [← hG] at hrz hGn hGm
  have hGm' : grownCap w n 0 9 ≤ maxLen := by rw [← h9, ← hG]; exact hGm
  have hGn' : n ≤ grownCap w n 0 9 := by rw [← h9, ← hG]; exact hGn
  have hG63 : G ≤ 9223372036854775807 := by unfold maxLen at hGm; omega
  have hzs' : z.cells.size = 1 := hzs.trans hi1
  generalize z.cells = zc at hrz hzs'
  clear hz hzs
  go_enter FG, Body8.n4_ntmps ρ
  go_wp2_with (at_builtin; refine Lib.wpList_append_run _ rfl _ _ _ _ rfl _ _ rfl rfl _ _ (hrz _) ?_)
  all_goals (go_ret; exact ⟨_, rfl, hGm', _, by simp [size_zeroCells, hzs']; omega, rfl⟩)
end Go.Proofs
set_option maxRecDepth 100000
namespace Go.Proofs.YtpndfdfipkadkaaGreatDoor
open Go Go.Wx Go.Ax
theorem grow_c(n:Nat)(H:Heap)(hb:n≤1000000):AC Pg 209 [.v (.slice none 0 0),di n] H fun d H' ms=>d= .sl H.length 0 0 0∧H'=H++[.arr 9 1 []]∧ms=[]:=
 AC_growNil (by kernel_rfl) (fun h w=>by subst h;exact Tryz.grow_zero w) fun h w=>Tryz.grow_pos h hb w
def cenc(xs:List ByteArray):List D:=[rows senc xs]
theorem pdC(xs:List ByteArray):PdL (cenc xs):= .one (pd_rows pdS xs)
noncomputable def c157:Code:=Tryz.f157.body.getD .skip
theorem pd_rowc{α:Type}{enc:α→List D}(he:∀x,PdL (enc x))(xs:List α):Pd (.row true (xs.map enc)):= .row fun l hl=>by
 obtain⟨x,_,rfl⟩:=List.mem_map.1 hl
 exact fun d hd=>he x d hd
theorem flat_take{L:List (List ByteArray)}{i:Nat}(hi:i<L.length):(L.take (i+1)).flatten=(L.take i).flatten++L[i]:=by
 rw[List.take_succ_eq_append_getElem hi,List.flatten_append];simp
theorem flat_le(L:List (List ByteArray))(i:Nat):(L.take i).flatten.length≤L.flatten.length:=by
 conv=>rhs;rw[←List.take_append_drop i L]
 rw[List.flatten_append,List.length_append];omega
set_option maxHeartbeats 4000000 in
theorem concat_c(L:List (List ByteArray))(hL:L.length≤1000)(hf:L.flatten.length≤1000):Pur Pg 157 [.row true (L.map cenc)] (rows senc L.flatten):=by
 refine Pur_of (PdL.one (pd_rowc pdC L)) (AC_fn Tryz.func157 rfl rfl rfl [] (fun _=>true) (fun b h=>nomatch h) (AW_rest (c':=restC 0 c157) ?_))
 refine goC 4 [] [] ?_
 refine AW_idx L.length (fun i st=>Has [(0,.row true (L.map cenc)),(2,.v (.slice none 0 0)),(3,di ((L.take i).flatten.length:Nat)),(9,.row true (L.map cenc)),(10,di L.length),(11,di i)] [] st) (has ⟨rfl,rfl,rfl,rfl,by simp[dlen];rfl,rfl,trivial⟩ rfl) ?_
 rintro i _ hi ⟨e,rfl⟩
 refine go [] [] (if_ (fun hlt=>?_) (fun hlt=>?_))
 ·simp at hlt
  refine row_at hlt ?_
  have hft:=flat_take hlt
  have hfl:=flat_le L (i+1)
  rw[hft,List.length_append]at hfl
  have hft2:(L.take (i+1)).flatten.length=(L.take i).flatten.length+L[i].length:=by rw[hft,List.length_append]
  generalize L[i]=x at hft hfl hft2
  have hw:IntKind.wrap .i64 (((L.take i).flatten.length:Nat)+((x.map senc).length:Int))=(((L.take (i+1)).flatten.length:Nat):Int):=by rw[List.length_map,wadd (by omega) (by omega),hft2];rfl
  refine if_ (fun h=>?_) fun _=>?_
  ·rw[hw]at h
   simp at h
   omega
  ·exact⟨hlt,has ⟨rfl,rfl,congrArg di hw,rfl,rfl,inc hlt (by simp only[maxLen];omega),trivial⟩ rfl⟩
 ·simp at hlt
  have hil:i=L.length:=by omega
  subst hil
  rw[List.take_length]
  refine AC.mono (grow_c L.flatten.length [] (by omega)) ?_
  rintro d H' ms ⟨rfl,rfl,rfl⟩
  conv=>whnf
  refine goC 2 [] [] ?_
  refine AW_idx L.length (fun i st=>∃n,(L.take i).flatten.length=n∧HasG [(0,.row true (L.map cenc)),(2,.v (.slice none 0 0)),(6,.sl 0 0 n n),(25,.row true (L.map cenc)),(26,di L.length),(27,di i)] [.arr 9 1 ((L.take i).flatten.map senc)] st) ?_ ?_
  ·exact⟨0,by simp,hasG (G:=[]) ⟨rfl,rfl,rfl,rfl,congrArg (fun n:Nat=>di n) (List.length_map _),rfl,trivial⟩ rfl⟩
  clear e
  rintro i _ hi ⟨n,hn,e,G,rfl⟩
  refine AW_drop (BlL.cons (.pd (pd_rowc pdC L)) (.v (.cons (.sl (by simp)) (.cons (.pd (pd_rowc pdC L)) (.v (.v .nil)))))) (BlH.cons (BlO.enc pdS) .nil) (Nat.zero_le _) fun e=>?_
  refine go [] [] (if_ (fun hlt=>?_) (fun hlt=>?_))
  ·simp at hlt
   refine row_at hlt ?_
   have hft:=flat_take hlt
   have hfl:=flat_le L (i+1)
   rw[hft,List.length_append]at hfl
   generalize L[i]=x at hft hfl
   conv=>whnf
   refine ck (and_t (enc_all fun _=>rfl) rfl) ?_
   conv=>whnf
   refine ck (by rw[List.length_map,hn];exact Nat.beq_refl _) (ck (Nat.beq_refl _) (ck (bnd_ok (by rw[List.length_map];omega) (Nat.le_of_ble_eq_true rfl)) ?_))
   refine⟨hlt,n+x.length,by rw[hft,List.length_append,hn],hasG (G:=[]) ⟨rfl,rfl,by rw[List.length_map];rfl,rfl,rfl,inc hlt (by simp only[maxLen];omega),trivial⟩ ?_⟩
   rw[hft,List.map_append]
   rfl
  ·simp at hlt
   have hil:i=L.length:=by omega
   subst hil
   rw[List.take_length]at hn ⊢
   refine AW_ret ?_
   exact frzK_rows (enc:=senc) (xs:=L.flatten) (T:=9) (sz:=1) rfl hn hn pdS (fun _=>rfl) (Nat.zero_le _)
end Go.Proofs.YtpndfdfipkadkaaGreatDoor
set_option maxRecDepth 100000
namespace Go.Proofs.YtpndfdfipkadkaaGreatDoor
open Go Go.Wx Go.Ax
theorem cat2_c(xs ys:List ByteArray)(hx:xs.length≤16)(hy:ys.length≤16):Pur Pg 157 [.row true [[rows senc xs],[rows senc ys]]] (rows senc (xs++ys)):=by
 have h:=concat_c [xs,ys] (by simp) (by simp;omega)
 rw[show [xs,ys].flatten=xs++ys by simp]at h
 exact h
def apartV(l:List Spell)(xs ys:List ByteArray):Bool × Int:=if xs.length>16∨ys.length>16 then(false,2)else if spellL (xs++ys) l≠0 then(false,spellL (xs++ys) l)else(!touchB l xs ys,0)
theorem spellL_ok{ns:List ByteArray}{l:List Spell}(h:spellL ns l=0):(∀s∈ns,nameB s=true)∧RulesOk l:=by
 unfold spellL at h
 split at h
 ·cases h
 rename_i h1
 split at h
 ·exact absurd h (by assumption)
 rename_i h2
 refine⟨fun s hs=>?_,rulesOk_of (Classical.not_not.1 h2)⟩
 cases hn:nameB s with
 | true=>rfl
 | false=>exact absurd (List.any_eq_true.2 ⟨s,hs,by rw[hn];rfl⟩) h1
theorem Apart_c(l:List Spell)(xs ys:List ByteArray)(hl:∀x∈l,x.ok):Pur Pg 85 [rows senc xs,rows senc ys,rows Spell.enc l] (.tup [db (apartV l xs ys).1,di (apartV l xs ys).2]):=by
 have frz:∀(b:Bool) (i:Int),(b,i)=apartV l xs ys→Frz ([]:Heap) (.tup [db b,di i]) (.tup [db (apartV l xs ys).1,di (apartV l xs ys).2]):=fun b i h=>by
  rw[←h]
  exact .pd (.tup fun d hd=>by simp at hd;rcases hd with rfl | rfl<;>exact .v _)
 refine fn Tryz.func85 [] [] (.cons (pd_rows pdS xs) (.cons (pd_rows pdS ys) (.one (pd_rows pdSpell l)))) ?_
 refine if_ (fun h1=>?_) fun h1=>?_
 ·refine frz false 2 ?_
  unfold apartV
  rw[if_pos]
  simp at h1;left;omega
 refine if_ (fun h2=>?_) fun h2=>?_
 ·refine frz false 2 ?_
  unfold apartV
  rw[if_pos]
  simp at h2;right;omega
 have h16:¬(xs.length>16∨ys.length>16):=by simp at h1 h2;omega
 refine(cat2_c xs ys (by omega) (by omega)).call ?_
 refine(spellable_c (xs++ys) l hl).call ?_
 refine if_ (fun h3=>?_) fun h3=>?_
 ·refine frz false _ ?_
  unfold apartV
  rw[if_neg h16,if_pos (by simpa using h3)]
 have h0:spellL (xs++ys) l=0:=by simpa using h3
 obtain⟨hn,hr⟩:=spellL_ok h0
 have hnm:∀s∈xs++ys,NameOk l s:=fun s hs=>nameOk_of hr (by have:=nameB_size (hn s hs);omega)
 refine(apart_c l xs ys (by have:=hr.len;omega) hr.ok (fun s hs=>hnm s (List.mem_append_left _ hs)) (fun s hs=>hnm s (List.mem_append_right _ hs))).call ?_
 refine frz _ _ ?_
 unfold apartV
 rw[if_neg h16,if_neg (by simpa using h0)]
end Go.Proofs.YtpndfdfipkadkaaGreatDoor
