/- The law holds: part 352. Conditions: none. -/
import Derived.Test.YtpndfdfipkadkaaGreatDoorKU4
import Derived.Shelf.SlSortCmp.NoneTotal
import Derived.Shelf.SlGeneric
import Derived.Ground.SlsfProg
import Derived.Test.YtpndfdfipkadkaaGreatDoorProg
set_option linter.all false
namespace Go.Ax
open Go Go.Wx Go.Sort Go.Proofs
variable [Globs]
section
variable {P : Program} {X : Cx} {M : Nat → Prop} {α : Type} [Inhabited α] {enc : α → List Value} {k : Nat}
def encK(enc:α→List Value)(l:List α):List (List D):=l.map fun x=>(enc x).map .v
theorem flatK_at{l:List α}{i r:Nat}(hk:∀x,(enc x).length=k)(hi:i<l.length)(hr:r<k):i*k+r<(flatK enc k l.toArray).size∧(flatK enc k l.toArray)[i*k+r]! =((enc l[i])[r]'(by rw[hk];exact hr)):=by
 have h1:i*k+r<l.length*k:=by
  have:(i+1)*k≤l.length*k:=Nat.mul_le_mul_right _ hi
  rw[Nat.add_mul,Nat.one_mul]at this
  omega
 refine⟨by simpa using h1,?_⟩
 rw[get_flatK _ _ _ _ (by simpa using h1)]
 have hd:(i*k+r) / k=i:=by
  rw[Nat.mul_comm,Nat.mul_add_div (by omega),Nat.div_eq_of_lt hr,Nat.add_zero]
 have hm:(i*k+r) % k=r:=by
  rw[Nat.mul_comm,Nat.mul_add_mod,Nat.mod_eq_of_lt hr]
 rw[hd,hm,getElem!_pos l.toArray i (by simpa using hi)]
 simp only[List.getElem_toArray]
 rw[getElem!_pos (enc l[i]) r (by rw[hk];exact hr)]
theorem split_k{n k j:Nat}(hj:j<n*k):j / k<n∧j % k<k∧j / k*k+j % k=j:=by
 have hk:0<k:=by
  rcases Nat.eq_zero_or_pos k with h | h
  ·subst h;simp at hj
  ·exact h
 refine⟨(Nat.div_lt_iff_lt_mul hk).2 hj,Nat.mod_lt _ hk,?_⟩
 rw[Nat.mul_comm];exact Nat.div_add_mod j k
theorem row_holdsK(hs:Sim X M)(hk:∀x,(enc x).length=k){b T:Nat}{l:List α}(hb:X.H[b]? =some (.arr T k (encK enc l)))(hg:X.gh b=false):HoldsK enc k X.w (X.ρ b) 0 l.toArray:=by
 rcases hs.blk b _ hb with⟨h,_⟩ | ⟨_,cur,hc,hl,hz,hv⟩
 ·rw[hg]at h;cases h
 intro j hj
 have hj:j<l.length*k:=by simpa using hj
 obtain⟨h1,h2,h3⟩:=split_k hj
 obtain⟨_,hf⟩:=flatK_at (enc:=enc) hk h1 h2
 rw[h3]at hf
 obtain⟨x,hx,_,hr⟩:=hv (j / k) (j % k) (.v ((enc (l[j / k]'h1))[j % k]'(by rw[hk];exact h2))) (at2_some.2 ⟨(enc (l[j / k]'h1)).map .v,by simp only[encK,List.getElem?_map,List.getElem?_eq_getElem h1,Option.map_some],by rw[List.getElem?_map,List.getElem?_eq_getElem (by rw[hk];exact h2)];rfl⟩)
 rw[hr.v_inv,h3]at hx
 refine⟨?_,by simp[World.frozen?,hc]⟩
 have:=cell_blk hc hx
 rw[Nat.zero_add,this,hf];rfl
theorem row_stepK (hs : Sim X M) (hk : ∀ x, (enc x).length = k) (h1 : ∀ x, ∀ v ∈ enc x, v.oneCell' = true) {b T : Nat} {l l' : List α} (hb : X.H[b]? = some (.arr T k (encK enc l))) (hg : X.gh b = false) (hl : l'.length = l.length) (q : Nat) (os : Array Obj) :
    Ev (fun c => c ∈ [b]) X M (setX X (sortWorldK enc k X.w (X.ρ b) 0 q l'.toArray os) b (.arr T k (encK enc l'))) M ∧ Sim (setX X (sortWorldK enc k X.w (X.ρ b) 0 q l'.toArray os) b (.arr T k (encK enc l'))) M := by
  rcases hs.blk b _ hb with ⟨h, _⟩ | ⟨_, cur, hc, hlc, hz, hv⟩
  · rw [hg] at h; cases h
  have hlt := hs.lt (lt_of_some hb) hg
  obtain ⟨F0, hF0⟩ : ∃ F0, F0 = flatK enc k l'.toArray := ⟨_, rfl⟩
  have hsw : sortWorldK enc k X.w (X.ρ b) 0 q l'.toArray os = grow (putRow id (Sort.ahead X.w q) (X.ρ b) 0 F0) os := by rw [hF0]; rfl
  rw [hsw]
  have hlt2 : X.ρ b < (putRow id (Sort.ahead X.w q) (X.ρ b) 0 F0).heap.size := by rw [Sort.size_putRow]; exact hlt
  have hc' : (grow (putRow id (Sort.ahead X.w q) (X.ρ b) 0 F0) os).heap[X.ρ b]? = some (.cells (putCells id 0 F0 cur) T (0, 0)) := by
    rw [heap_grow_old _ _ hlt2]
    unfold putRow mapBlock
    simp only [Array.getElem?_modify, if_true, heap_ahead, hc, Option.map_some, onCells]
  have F : Frm (fun k => k = X.ρ b) X.w (grow (putRow id (Sort.ahead X.w q) (X.ρ b) 0 F0) os) := by
    refine ⟨rfl, rfl, rfl, ?_, ?_⟩
    · rw [size_grow, Sort.size_putRow]; exact Nat.le_add_right _ _
    · intro k hk hne
      rw [heap_grow_old _ _ (by rw [Sort.size_putRow]; exact hk)]
      unfold putRow mapBlock
      simp only [Array.getElem?_modify, heap_ahead]
      rw [if_neg (fun e => hne e.symm)]
  have hll : (encK enc l').length = (encK enc l).length := by simp [encK, hl]
  have hsz : (putCells id 0 F0 cur).size = cur.size := by simp [putCells]
  refine ⟨wr_ev hs hb hg hll hc hc' hsz F, wr_sim hs hb hg hll hc hc' hsz F (.inr ⟨hg, _, hc', ?_, fun ds hd => ?_, fun i j d hd => ?_⟩)⟩
  · rw [hsz, hll]; exact hlc
  · obtain ⟨x, _, rfl⟩ := List.mem_map.1 hd
    rw [List.length_map, hk]
  · obtain ⟨ds, g1, g2⟩ := at2_some.1 hd
    unfold encK at g1
    rw [List.getElem?_map, Option.map_eq_some_iff] at g1
    obtain ⟨x, g1, rfl⟩ := g1
    rw [List.getElem?_map, Option.map_eq_some_iff] at g2
    obtain ⟨v, g2, rfl⟩ := g2
    have hi := (List.getElem?_eq_some_iff.1 g1).1
    have hj : j < k := by have := (List.getElem?_eq_some_iff.1 g2).1; rw [hk] at this; exact this
    obtain ⟨hsz2, hf⟩ := flatK_at (enc := enc) hk hi hj
    rw [← hF0] at hsz2 hf
    have hxi : l'[i] = x := by rw [List.getElem?_eq_getElem hi] at g1; exact Option.some.inj g1
    have hvv : (enc x)[j]'(by rw [hk]; exact hj) = v := by rw [List.getElem?_eq_getElem (by rw [hk]; exact hj)] at g2; exact Option.some.inj g2
    have hic : i * k + j < cur.size := by
      have : (encK enc l).length * k ≤ cur.size := hlc
      simp [encK] at this
      have h2 : i * k + j < l'.length * k := by rw [hF0] at hsz2; simpa using hsz2
      rw [hl] at h2
      omega
    refine ⟨v, ?_, h1 x v (List.mem_of_getElem? g2), .v _⟩
    unfold putCells
    rw [Array.getElem?_mapIdx, Array.getElem?_eq_getElem hic]
    simp only [Option.map_some, Nat.zero_le, true_and, Nat.zero_add, Nat.sub_zero]
    rw [if_pos hsz2, hf]
    simp only [hxi, hvv, id]
theorem AC_rowK (hk : ∀ x, (enc x).length = k) (h1 : ∀ x, ∀ v ∈ enc x, v.oneCell' = true) {f : FuncId} {b T n : Nat} {x : Value} {l l' : List α} {H : Heap} (hb : H[b]? = some (.arr T k (encK enc l))) (hn : l.length = n) (hl : l'.length = l.length) (hcb : callB P f = true)
    (hz : l = [] → ∀ (a : Option Addr) (c : Nat) (w : World), Calls P f #[.slice a 0 c, x] w fun e w' => (∃ v, e = .returned v) ∧ w' = w)
    (hc : ∀ (blk c : Nat) (w : World), Globs.ok w → n ≤ c → HoldsK enc k w blk 0 l.toArray → blk < w.heap.size → Calls P f #[.slice (some ⟨blk, 0, none⟩) n c, x] w fun e w' => (∃ v, e = .returned v) ∧ ∃ q os, w' = sortWorldK enc k w blk 0 q l'.toArray os) :
    AC P f [.sl b 0 n n, .v x] H fun d H' ms => d = .any ∧ H' = H.set b (.arr T k (encK enc l')) ∧ ms = [b] := by
  refine ⟨hcb, fun X M vs hs hH ha => ?_⟩
  subst hH
  obtain ⟨y, z, rfl⟩ : ∃ y z, vs = [y, z] := by
    match vs, ha.1 with
    | [y, z], _ => exact ⟨y, z, rfl⟩
  have hr := ha.2 0 _ y rfl rfl
  have hr2 := ha.2 1 _ z rfl rfl
  rw [hr2.v_inv]
  obtain ⟨a, c, rfl⟩ : ∃ a c, y = .slice a n c := by cases hr; exact ⟨_, _, rfl⟩
  have hnl : (encK enc l).length = n := by simp [encK, hn]
  rcases hs.sl hr hb hnl with ⟨h0, _⟩ | ⟨hg, rfl, hnc, hcm, cur, hcur, hcs⟩
  · subst h0
    have hl0 : l = [] := List.eq_nil_of_length_eq_zero hn
    refine Calls.mono (hz hl0 a c X.w) ?_
    rintro e w' ⟨⟨v, rfl⟩, rfl⟩
    have hl0' : l' = [] := List.eq_nil_of_length_eq_zero (by rw [hl, hn])
    have hset : X.H.set b (.arr T k (encK enc l')) = X.H := by
      apply List.ext_getElem?
      intro k'
      by_cases hk : b = k'
      · subst hk; rw [List.getElem?_set_self (lt_of_some hb), hb, hl0, hl0']
      · rw [List.getElem?_set_ne hk]
    exact ⟨v, rfl, X, M, .any, [b], Ev.refl _ _ _, hs, rfl, .any _, rfl, hset.symm, rfl⟩
  · rw [Nat.zero_mul]
    refine Calls.mono (hc (X.ρ b) c X.w hs.gl.1 hnc (row_holdsK hs hk hb hg) (hs.lt (lt_of_some hb) hg)) ?_
    rintro e w' ⟨⟨v, rfl⟩, q, os, rfl⟩
    obtain ⟨E, S⟩ := row_stepK hs hk h1 hb hg hl q os
    exact ⟨v, rfl, _, M, .any, [b], E, S, rfl, .any _, rfl, rfl, rfl⟩
end
end Go.Ax
namespace Go.Proofs
open Go.Shelf
def Tryz.sortArc_ren:Go.Shelf.Ren:=⟨fun | 6=>213 | 15=>221 | 14=>242 | 28=>254 | 29=>255 | 20=>273 | 21=>274 | 22=>275 | 23=>276 | 24=>277 | 25=>278 | 26=>279 | 27=>280 | 46=>301 | 47=>283 | 48=>284 | 49=>302 | 50=>303 | 57=>310 | n=>n,fun | 22=>72 | 24=>205 | 25=>239 | 3=>3 | 39=>256 | 0=>0 | 53=>288 | 55=>259 | 4=>4 | 46=>281 | 45=>280 | 50=>285 | 5=>5 | 9=>9 | 66=>309 | 70=>313 | 76=>324 | 77=>325 | n=>n,fun | n=>n⟩
theorem Tryz.sortArc : Go.Proofs.SlLaysF0.n6 Tryz.prog Tryz.sortArc_ren := {
  mixed := by kernel_rfl
  f6 := ⟨Tryz.f213.name, by decide, Tryz.func213.trans (congrArg some (by kernel_rfl))⟩
  f14 := ⟨Tryz.f242.name, by decide, Tryz.func242.trans (congrArg some (by kernel_rfl))⟩
  f15 := Tryz.func221.trans (congrArg some (by kernel_rfl))
  f20 := ⟨Tryz.f273.name, by decide, Tryz.func273.trans (congrArg some (by kernel_rfl))⟩
  f21 := ⟨Tryz.f274.name, by decide, Tryz.func274.trans (congrArg some (by kernel_rfl))⟩
  f22 := ⟨Tryz.f275.name, by decide, Tryz.func275.trans (congrArg some (by kernel_rfl))⟩
  f23 := ⟨Tryz.f276.name, by decide, Tryz.func276.trans (congrArg some (by kernel_rfl))⟩
  f24 := ⟨Tryz.f277.name, by decide, Tryz.func277.trans (congrArg some (by kernel_rfl))⟩
  f25 := ⟨Tryz.f278.name, by decide, Tryz.func278.trans (congrArg some (by kernel_rfl))⟩
  f26 := ⟨Tryz.f279.name, by decide, Tryz.func279.trans (congrArg some (by kernel_rfl))⟩
  f27 := ⟨Tryz.f280.name, by decide, Tryz.func280.trans (congrArg some (by kernel_rfl))⟩
  f28 := Tryz.func254.trans (congrArg some (by kernel_rfl))
  f29 := Tryz.func255.trans (congrArg some (by kernel_rfl))
  f46 := ⟨Tryz.f301.name, by decide, Tryz.func301.trans (congrArg some (by kernel_rfl))⟩
  f47 := Tryz.func283.trans (congrArg some (by kernel_rfl))
  f48 := Tryz.func284.trans (congrArg some (by kernel_rfl))
  f49 := ⟨Tryz.f302.name, by decide, Tryz.func302.trans (congrArg some (by kernel_rfl))⟩
  f50 := ⟨Tryz.f303.name, by decide, Tryz.func303.trans (congrArg some (by kernel_rfl))⟩
  f57 := ⟨Tryz.f310.name, by decide, Tryz.func310.trans (congrArg some (by kernel_rfl))⟩
  t0 := Tryz.underlying0
  a0 := Tryz.isAgg0
  z0 := Tryz.sizeOf0
  v0 := Tryz.zeroValue0
  t3 := Tryz.underlying3
  a3 := Tryz.isAgg3
  z3 := Tryz.sizeOf3
  v3 := Tryz.zeroValue3
  t4 := Tryz.underlying4
  a4 := Tryz.isAgg4
  z4 := Tryz.sizeOf4
  v4 := Tryz.zeroValue4
  t5 := Tryz.underlying5
  a5 := Tryz.isAgg5
  z5 := Tryz.sizeOf5
  v5 := Tryz.zeroValue5
  t9 := Tryz.underlying9
  a9 := Tryz.isAgg9
  z9 := Tryz.sizeOf9
  v9 := Tryz.zeroValue9
  t22 := Tryz.underlying72
  a22 := Tryz.isAgg72
  z22 := Tryz.sizeOf72
  v22 := Tryz.zeroValue72
  t25 := Tryz.underlying239
  a25 := Tryz.isAgg239
  z25 := Tryz.sizeOf239
  v25 := Tryz.zeroValue239
  t39 := Tryz.underlying256
  a39 := Tryz.isAgg256
  z39 := Tryz.sizeOf256
  v39 := Tryz.zeroValue256
  t45 := Tryz.underlying280
  a45 := Tryz.isAgg280
  z45 := Tryz.sizeOf280
  v45 := Tryz.zeroValue280
  t46 := Tryz.underlying281
  a46 := Tryz.isAgg281
  z46 := Tryz.sizeOf281
  v46 := Tryz.zeroValue281
  t50 := Tryz.underlying285
  a50 := Tryz.isAgg285
  z50 := Tryz.sizeOf285
  v50 := Tryz.zeroValue285
  t53 := Tryz.underlying288
  a53 := Tryz.isAgg288
  z53 := Tryz.sizeOf288
  v53 := Tryz.zeroValue288
  t55 := Tryz.underlying259
  a55 := Tryz.isAgg259
  z55 := Tryz.sizeOf259
  v55 := Tryz.zeroValue259
  t66 := Tryz.underlying309
  a66 := Tryz.isAgg309
  z66 := Tryz.sizeOf309
  v66 := Tryz.zeroValue309
  t70 := Tryz.underlying313
  a70 := Tryz.isAgg313
  z70 := Tryz.sizeOf313
  v70 := Tryz.zeroValue313
  t76 := Tryz.underlying324
  a76 := Tryz.isAgg324
  z76 := Tryz.sizeOf324
  v76 := Tryz.zeroValue324
  t77 := Tryz.underlying325
  a77 := Tryz.isAgg325
  z77 := Tryz.sizeOf325
  v77 := Tryz.zeroValue325 }
def Tryz.sortMatch_ren:Go.Shelf.Ren:=⟨fun | 6=>188 | 15=>221 | 14=>224 | 28=>254 | 29=>255 | 20=>256 | 21=>257 | 22=>258 | 23=>259 | 24=>260 | 25=>261 | 26=>262 | 27=>263 | 46=>287 | 47=>283 | 48=>284 | 49=>288 | 50=>289 | 57=>306 | n=>n,fun | 22=>84 | 24=>80 | 25=>218 | 3=>3 | 39=>256 | 0=>0 | 53=>288 | 55=>259 | 4=>4 | 46=>281 | 45=>280 | 50=>285 | 5=>5 | 9=>9 | 66=>309 | 70=>313 | 76=>324 | 77=>325 | n=>n,fun | n=>n⟩
theorem Tryz.sortMatch : Go.Proofs.SlLaysF0.n6 Tryz.prog Tryz.sortMatch_ren := {
  mixed := by kernel_rfl
  f6 := ⟨Tryz.f188.name, by decide, Tryz.func188.trans (congrArg some (by kernel_rfl))⟩
  f14 := ⟨Tryz.f224.name, by decide, Tryz.func224.trans (congrArg some (by kernel_rfl))⟩
  f15 := Tryz.func221.trans (congrArg some (by kernel_rfl))
  f20 := ⟨Tryz.f256.name, by decide, Tryz.func256.trans (congrArg some (by kernel_rfl))⟩
  f21 := ⟨Tryz.f257.name, by decide, Tryz.func257.trans (congrArg some (by kernel_rfl))⟩
  f22 := ⟨Tryz.f258.name, by decide, Tryz.func258.trans (congrArg some (by kernel_rfl))⟩
  f23 := ⟨Tryz.f259.name, by decide, Tryz.func259.trans (congrArg some (by kernel_rfl))⟩
  f24 := ⟨Tryz.f260.name, by decide, Tryz.func260.trans (congrArg some (by kernel_rfl))⟩
  f25 := ⟨Tryz.f261.name, by decide, Tryz.func261.trans (congrArg some (by kernel_rfl))⟩
  f26 := ⟨Tryz.f262.name, by decide, Tryz.func262.trans (congrArg some (by kernel_rfl))⟩
  f27 := ⟨Tryz.f263.name, by decide, Tryz.func263.trans (congrArg some (by kernel_rfl))⟩
  f28 := Tryz.func254.trans (congrArg some (by kernel_rfl))
  f29 := Tryz.func255.trans (congrArg some (by kernel_rfl))
  f46 := ⟨Tryz.f287.name, by decide, Tryz.func287.trans (congrArg some (by kernel_rfl))⟩
  f47 := Tryz.func283.trans (congrArg some (by kernel_rfl))
  f48 := Tryz.func284.trans (congrArg some (by kernel_rfl))
  f49 := ⟨Tryz.f288.name, by decide, Tryz.func288.trans (congrArg some (by kernel_rfl))⟩
  f50 := ⟨Tryz.f289.name, by decide, Tryz.func289.trans (congrArg some (by kernel_rfl))⟩
  f57 := ⟨Tryz.f306.name, by decide, Tryz.func306.trans (congrArg some (by kernel_rfl))⟩
  t0 := Tryz.underlying0
  a0 := Tryz.isAgg0
  z0 := Tryz.sizeOf0
  v0 := Tryz.zeroValue0
  t3 := Tryz.underlying3
  a3 := Tryz.isAgg3
  z3 := Tryz.sizeOf3
  v3 := Tryz.zeroValue3
  t4 := Tryz.underlying4
  a4 := Tryz.isAgg4
  z4 := Tryz.sizeOf4
  v4 := Tryz.zeroValue4
  t5 := Tryz.underlying5
  a5 := Tryz.isAgg5
  z5 := Tryz.sizeOf5
  v5 := Tryz.zeroValue5
  t9 := Tryz.underlying9
  a9 := Tryz.isAgg9
  z9 := Tryz.sizeOf9
  v9 := Tryz.zeroValue9
  t22 := Tryz.underlying84
  a22 := Tryz.isAgg84
  z22 := Tryz.sizeOf84
  v22 := Tryz.zeroValue84
  t25 := Tryz.underlying218
  a25 := Tryz.isAgg218
  z25 := Tryz.sizeOf218
  v25 := Tryz.zeroValue218
  t39 := Tryz.underlying256
  a39 := Tryz.isAgg256
  z39 := Tryz.sizeOf256
  v39 := Tryz.zeroValue256
  t45 := Tryz.underlying280
  a45 := Tryz.isAgg280
  z45 := Tryz.sizeOf280
  v45 := Tryz.zeroValue280
  t46 := Tryz.underlying281
  a46 := Tryz.isAgg281
  z46 := Tryz.sizeOf281
  v46 := Tryz.zeroValue281
  t50 := Tryz.underlying285
  a50 := Tryz.isAgg285
  z50 := Tryz.sizeOf285
  v50 := Tryz.zeroValue285
  t53 := Tryz.underlying288
  a53 := Tryz.isAgg288
  z53 := Tryz.sizeOf288
  v53 := Tryz.zeroValue288
  t55 := Tryz.underlying259
  a55 := Tryz.isAgg259
  z55 := Tryz.sizeOf259
  v55 := Tryz.zeroValue259
  t66 := Tryz.underlying309
  a66 := Tryz.isAgg309
  z66 := Tryz.sizeOf309
  v66 := Tryz.zeroValue309
  t70 := Tryz.underlying313
  a70 := Tryz.isAgg313
  z70 := Tryz.sizeOf313
  v70 := Tryz.zeroValue313
  t76 := Tryz.underlying324
  a76 := Tryz.isAgg324
  z76 := Tryz.sizeOf324
  v76 := Tryz.zeroValue324
  t77 := Tryz.underlying325
  a77 := Tryz.isAgg325
  z77 := Tryz.sizeOf325
  v77 := Tryz.zeroValue325 }
end Go.Proofs
