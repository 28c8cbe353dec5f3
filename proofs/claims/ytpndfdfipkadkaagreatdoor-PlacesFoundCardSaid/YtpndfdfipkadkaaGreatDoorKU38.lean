/- The law holds: part 370. Conditions: none. -/
import Derived.Test.YtpndfdfipkadkaaGreatDoorKU1
import Derived.Test.YtpndfdfipkadkaaGreatDoorKU37
import Derived.ProofKit
import Derived.OpenShut
import Derived.ShutString
import Derived.ChangeOld
import Derived.Below
import Derived.Carry
import Derived.SizedLaws
import Derived.ChangeSlices
import Derived.Deep.Slices
import Derived.Test.YtpndfdfipkadkaaGreatDoorRows
import Derived.LaidLaws
import Derived.LaidSub
import Derived.MakeChecks
import Derived.Test.YtpndfdfipkadkaaGreatDoorCards
import Derived.Test.YtpndfdfipkadkaaGreatDoorTie
import Derived.Deep.DeepHandedRow
import Derived.Deep.DeepWitnessRowRef
import Derived.LaidMore
import Derived.Stop.Joined
import Derived.LaidHandle
set_option linter.all false
set_option maxRecDepth 100000
namespace Go.Proofs.YtpndfdfipkadkaaGreatDoor
open Go Go.Wx Go.Ax
end Go.Proofs.YtpndfdfipkadkaaGreatDoor
namespace Go.Wx
open Go Go.ChangeShapes Go.WideShapes Go.ChangeAt Go.RowKit
theorem Ext.below{w w':World}(E:Ext w w'):Below w.heap.size w w':=⟨E.os,E.tape,E.output,E.size,fun k hk=>E.blk k hk id⟩
inductive CK where
 | int (k:IntKind)
 | str
 | bool
 | sl (t:TypeId)
def flatFs (P : Program) (g : TypeId → Option (List CK)) : List Field → Nat → Nat → Option (List CK)
  | [], o, tot => if o = tot then some [] else none
  | f :: fs, o, tot => if f.offset = o then match g f.type with
      | some k => (flatFs P g fs (o + P.cellsOf f.type) tot).map (k ++ ·)
      | none => none
    else none
def flatK(P:Program):Nat→TypeId→Option (List CK)
 | 0,_=>none
 | n+1,t=>match P.underlying t with
  | some (.int k)=>some [.int k]
  | some .string=>some [.str]
  | some .bool=>some [.bool]
  | some (.slice _)=>some [.sl t]
  | some (.struct fs)=>flatFs P (flatK P n) fs.toList 0 (P.cellsOf t)
  | _=>none
section
variable {H : Type} {enc : TypeId × Value → H} {P : Program} {w : World} {base : Nat} {spare : Nat → Bool} {held : Bool}
def CM(enc:TypeId × Value→H)(P:Program)(w:World)(base:Nat)(spare:Nat→Bool)(held:Bool):List CK→List Value→Prop
 |[],cs=>cs=[]
 | .int k::ks,cs=>∃(n:Int) (cs':List Value),cs= .int k n::cs'∧(Lit.int k n).wf=true∧CM enc P w base spare held ks cs'
 | .str::ks,cs=>∃(s:ByteArray) (cs':List Value),cs= .string s::cs'∧s.size≤reachBytes∧CM enc P w base spare held ks cs'
 | .bool::ks,cs=>∃(b:Bool) (cs':List Value),cs= .bool b::cs'∧CM enc P w base spare held ks cs'
 | .sl t::ks,cs=>∃(a:Option Addr) (n c:Nat) (cs':List Value),cs= .slice a n c::cs'∧(∃fuel x,DataW.trod enc P w base spare held fuel t [.slice a n c]=some x∧∀m∈x.1.weights P t,m≤reachBytes)∧CM enc P w base spare held ks cs'
theorem CM.app:∀{ks ks':List CK} {cs cs':List Value},CM enc P w base spare held ks cs→CM enc P w base spare held ks' cs'→CM enc P w base spare held (ks++ks') (cs++cs')
 |[],_,cs,_,h,h'=>by simp only[CM]at h;subst h;exact h'
 | .int k::ks,_,_,_,h,h'=>by
  obtain⟨n,cs2,rfl,h1,h2⟩:=h
  exact⟨n,_,rfl,h1,h2.app h'⟩
 | .str::ks,_,_,_,h,h'=>by
  obtain⟨n,cs2,rfl,h1,h2⟩:=h
  exact⟨n,_,rfl,h1,h2.app h'⟩
 | .bool::ks,_,_,_,h,h'=>by
  obtain⟨n,cs2,rfl,h2⟩:=h
  exact⟨n,_,rfl,h2.app h'⟩
 | .sl t::ks,_,_,_,h,h'=>by
  obtain⟨a,n,c,cs2,rfl,h1,h2⟩:=h
  exact⟨a,n,c,_,rfl,h1,h2.app h'⟩
theorem trod_flatFs {g : TypeId → Option (List CK)} {n : Nat} (hg : ∀ (t : TypeId) (ks : List CK) (cs : List Value) (x : DataW H × List MemPlace), g t = some ks → DataW.trod enc P w base spare held n t cs = some x → (∀ m ∈ x.1.weights P t, m ≤ reachBytes) → CM enc P w base spare held ks cs) {cs : List Value} :
    ∀ (fs : List Field) (o : Nat) (ks : List CK) (xs : List (DataW H × List MemPlace)), flatFs P g fs o cs.length = some ks → xs.length = fs.length →
      (∀ (i : Nat) (f : Field), fs[i]? = some f → DataW.trod enc P w base spare held n f.type ((cs.drop f.offset).take (P.cellsOf f.type)) = xs[i]?) →
      (∀ (i : Nat) (f : Field) (x : DataW H × List MemPlace), fs[i]? = some f → xs[i]? = some x → ∀ m ∈ x.1.weights P f.type, m ≤ reachBytes) → CM enc P w base spare held ks (cs.drop o)
  | [], o, ks, xs, hf, _, _, _ => by
    unfold flatFs at hf
    split at hf
    · rename_i e
      cases hf
      rw [e, List.drop_length]
      rfl
    · cases hf
  | f :: fs, o, ks, xs, hf, hl, hx, hw => by
    unfold flatFs at hf
    split at hf
    case isFalse => cases hf
    rename_i ho
    split at hf
    case h_2 => cases hf
    rename_i k hk
    obtain ⟨ks', hks, rfl⟩ := Option.map_eq_some_iff.1 hf
    cases xs with
    | nil => simp at hl
    | cons x xs =>
      have h0 := hx 0 f rfl
      simp only [List.getElem?_cons_zero] at h0
      have hm := hg f.type k _ x hk h0 (hw 0 f x rfl rfl)
      have ih := trod_flatFs hg fs (o + P.cellsOf f.type) ks' xs hks (by simpa using hl) (fun i f' hf' => by have := hx (i + 1) f' (by simpa using hf'); simpa using this) (fun i f' x' hf' hx' => hw (i + 1) f' x' (by simpa using hf') (by simpa using hx'))
      have hsplit : cs.drop o = (cs.drop f.offset).take (P.cellsOf f.type) ++ cs.drop (o + P.cellsOf f.type) := by
        rw [ho, ← List.drop_drop, List.take_append_drop]
      rw [hsplit]
      exact hm.app ih
theorem trod_flat:∀(q fuel:Nat) (t:TypeId) (ks:List CK) (cs:List Value) (x:DataW H × List MemPlace),flatK P q t=some ks→DataW.trod enc P w base spare held fuel t cs=some x→(∀m∈x.1.weights P t,m≤reachBytes)→CM enc P w base spare held ks cs
 | 0,_,_,_,_,_,h,_,_=>by cases h
 | q+1,fuel,t,ks,cs,x,h,hx,hw=>by
  unfold flatK at h
  split at h
  ·rename_i k hu
   cases h
   obtain⟨n,rfl,rfl,hwf⟩:=DataW.trod_int hu hx
   exact⟨n,[],rfl,hwf,rfl⟩
  ·rename_i hu
   cases h
   obtain⟨s,rfl,rfl,hs⟩:=DataW.trod_string hu hx
   refine⟨s,[],rfl,?_,rfl⟩
   have:=hw s.data.toList.length (by simp[DataW.weights])
   rwa[Array.length_toList]at this
  ·rename_i hu
   cases h
   obtain⟨b,rfl,_⟩:=DataW.trod_bool hu hx
   exact⟨b,[],rfl,rfl⟩
  ·rename_i e hu
   cases h
   have hx':=hx
   rcases DataW.trod_slice hu hx with⟨rfl,rfl⟩ | ⟨a,len,cap,_,_,_,_,rfl,_⟩
   ·exact⟨none,0,0,[],rfl,⟨fuel,_,hx',hw⟩,rfl⟩
   ·exact⟨some a,len,cap,[],rfl,⟨fuel,x,hx',hw⟩,rfl⟩
  ·rename_i fs hu
   obtain⟨xs,n,rfl,rfl,hl,hxl,hget⟩:=DataW.trod_struct hu hx
   have:=trod_flatFs (g:=flatK P q) (fun t ks cs x h1 h2 h3=>trod_flat q n t ks cs x h1 h2 h3) (cs:=cs) fs.toList 0 ks xs (by rw[hl];exact h) (by simpa using hxl) (fun i f hf=>hget i f (by simpa using hf)) (fun i f y hf hy m hm=>by
    refine hw m ?_
    simp only[DataW.weights,hu]
    exact DataW.weights_mem_each (j:=i) (t:=f.type) (d:=y.1) (by rw[List.getElem?_map,hf];rfl) (by rw[List.getElem?_map,hy];rfl) m hm)
   rwa[List.drop_zero]at this
  ·cases h
theorem mapM_get{α β:Type}{f:α→Option β}:∀{l:List α} {r:List β},l.mapM f=some r→r.length=l.length∧∀(i:Nat) (x:α) (y:β),l[i]? =some x→r[i]? =some y→f x=some y
 |[],r,h=>by simp at h;subst h;exact⟨rfl,fun i x y hx=>by simp at hx⟩
 | x::l,r,h=>by
  rw[List.mapM_cons]at h
  cases hx:f x with
  | none=>rw[hx]at h;cases h
  | some z=>
   rw[hx]at h
   cases hl:l.mapM f with
   | none=>rw[hl]at h;cases h
   | some r'=>
    rw[hl]at h
    cases h
    obtain⟨h1,h2⟩:=mapM_get hl
    refine⟨by simp[h1],fun i a b ha hb=>?_⟩
    cases i with
    | zero=>simp at ha hb;subst ha;subst hb;exact hx
    | succ i=>exact h2 i a b (by simpa using ha) (by simpa using hb)
theorem weightsAll_mem{e:TypeId}:∀{ds:List (DataW H)} {d:DataW H},d∈ds→∀m∈d.weights P e,m∈DataW.weightsAll P e ds
 |[],_,h,_,_=>by cases h
 | d0::ds,d,h,m,hm=>by
  simp only[DataW.weightsAll,List.mem_append]
  rcases List.mem_cons.1 h with rfl | h
  ·exact .inl hm
  ·exact .inr (weightsAll_mem h m hm)
theorem open_rows {α : Type} [Inhabited α] {encA : α → List Value} {sz : Nat} {Ex : World → α → Prop} {t e : TypeId} {q : Nat} {ks : List CK} (hu : P.underlying t = some (.slice e)) (hk : flatK P q e = some ks) (hsz : P.cellsOf e = sz) {B : Nat} (hB : P.bytesOf e = B)
    (hel : ∀ cs, CM enc P w base spare held ks cs → ∃ y : α, cs = encA y ∧ Ex w y) {fuel : Nat} {a : Option Addr} {n c : Nat} {x : DataW H × List MemPlace} (h : DataW.trod enc P w base spare held fuel t [.slice a n c] = some x) (hw : ∀ m ∈ x.1.weights P t, m ≤ reachBytes) :
    ∃ ys : List α, Rd encA sz w a n ys ∧ n * B ≤ reachBytes ∧ n ≤ maxLen ∧ ∀ y ∈ ys, Ex w y := by
  rcases DataW.trod_slice hu h with ⟨hcs, rfl⟩ | ⟨a0, len, cap, elems, rest, m, rfl, hcs, rfl, hb, hlc, hcm, hlen, hel', _, _⟩
  · cases hcs
    exact ⟨[], Rd.nil, by simp, Nat.zero_le _, fun y hy => by cases hy⟩
  · cases hcs
    have each : ∀ i, i < n → ∃ y : α, Cells w (a0.add (i * sz)) (encA y) ∧ Ex w y := by
      intro i hi
      have h1 := hel' i hi
      obtain ⟨y, hy⟩ : ∃ y, elems[i]? = some y := ⟨_, List.getElem?_eq_getElem (by omega)⟩
      rw [hy] at h1
      obtain ⟨cs', hc, ht⟩ := Option.bind_eq_some_iff.1 h1
      have hm := trod_flat q m e ks cs' y hk ht fun z hz => hw z (by
        simp only [DataW.weights, hu]
        refine List.mem_cons_of_mem _ (List.mem_append.2 (.inl (weightsAll_mem (List.mem_map_of_mem (List.mem_of_getElem? hy)) z hz))))
      obtain ⟨v, rfl, hex⟩ := hel cs' hm
      refine ⟨v, fun j u hj => ?_, hex⟩
      unfold World.cells? at hc
      rw [if_pos (by rw [Go.Wx.add_block]; exact hb)] at hc
      obtain ⟨hl, hg⟩ := mapM_get hc
      have hjl := (List.getElem?_eq_some_iff.1 hj).1
      rw [List.length_range] at hl
      have := hg j j u (by rw [List.getElem?_range (by omega)]) hj
      rwa [hsz] at this
    obtain ⟨f, hf⟩ := Deep.choose_lt each
    refine ⟨(List.range n).map f, ⟨by simp, fun h => (by cases h), fun a1 ha i y hy => ?_⟩, ?_, by omega, fun y hy => ?_⟩
    · cases ha
      rw [List.getElem?_map, Option.map_eq_some_iff] at hy
      obtain ⟨j, hj, rfl⟩ := hy
      have hjj : i = j ∧ j < n := by
        obtain ⟨h1, h2⟩ := List.getElem?_eq_some_iff.1 hj
        rw [List.length_range] at h1
        rw [List.getElem_range] at h2
        exact ⟨h2, by omega⟩
      obtain ⟨rfl, hlt⟩ := hjj
      exact (hf i hlt).1
    · have := hw ((((elems.map (·.1)).length + (rest.map (·.1)).length)) * P.bytesOf e) (by simp [DataW.weights, hu])
      rw [hB] at this
      refine Nat.le_trans (Nat.mul_le_mul_right _ ?_) this
      simp; omega
    · obtain ⟨j, hj, rfl⟩ := List.mem_map.1 hy
      exact (hf j (List.mem_range.1 hj)).2
end
theorem Below.trodAll {H : Type} {enc : TypeId × Value → H} {P : Program} (hl : laidOutB P = true) {W W' : World} (hb : Below W.heap.size W W') : ∀ {ts : List TypeId} {vs : List Value} {ds : List (DataW H)} {ps : List MemPlace}, (ts.all fun t => P.readableRec t && decide (t < P.types.size)) = true →
    DataW.TrodAll enc P W 0 (fun _ => true) true ts vs ds ps → DataW.TrodAll enc P W' 0 (fun b => decide (b < W.heap.size)) true ts vs ds ps
  | [], [], [], _, _, h => h
  | t :: ts, v :: vs, d :: ds, ps, ht, h => by
    simp only [List.all_cons, Bool.and_eq_true] at ht
    obtain ⟨p, q, h1, h2, e⟩ := h
    have lt : ∀ x ∈ p, x.block < W.heap.size := by
      obtain ⟨m, hm⟩ := h1
      exact DataW.trod_lt m _ _ _ hm
    exact ⟨p, q, Below.trod hl ht.1.1 (of_decide_eq_true ht.1.2) h1 hb lt, Below.trodAll hl hb ht.2 h2, e⟩
  | [], [], _ :: _, _, _, h => h.elim
  | [], _ :: _, _, _, _, h => h.elim
  | _ :: _, [], _, _, _, h => h.elim
  | _ :: _, _ :: _, [], _, _, h => h.elim
end Go.Wx
set_option maxRecDepth 100000
namespace Go.Proofs.YtpndfdfipkadkaaGreatDoor
open Go Go.Wx Go.Ax Go.ChangeShapes Go.WideShapes Go.ChangeAt Go.RowKit
def X0(W:World):Cx:=⟨W,fun k=>k<W.heap.size,fun _=>0,fun _=>false,[]⟩
theorem sim0{W:World}(h:Globs.ok W)(hb:∀k∈Globs.blk,k<W.heap.size):Sim (X0 W) fun _=>False where
 gl:=⟨h,hb⟩
 mlt _ h:=h.elim
 flt _ h:=h
 dj _ _ h:=h
 im b hb:=by simp[X0]at hb
 inj b _ hb:=by simp[X0]at hb
 blk b o h:=by simp[X0]at h
theorem rp_rowV {α : Type} {encA : α → List Value} {sz : Nat} {W : World} {a : Option Addr} {n c : Nat} {ys : List α} (h : Go.Wx.Rd encA sz W a n ys) (h0 : 0 < sz) (hz : ∀ y, (encA y).length = sz) (h1 : ∀ y, ∀ v ∈ encA y, v.oneCell' = true) (hnc : n ≤ c) (hn : n ≤ maxLen) :
    Rp (X0 W) (rows (fun y => (encA y).map D.v) ys) (.slice a n c) := by
  obtain ⟨rfl, hn0, hc⟩ := h
  have hl : (ys.map fun y => (encA y).map D.v).length = ys.length := List.length_map _
  have hat : ∀ i j d, at2 (ys.map fun y => (encA y).map D.v) i j = some d → ∃ y x, ys[i]? = some y ∧ (encA y)[j]? = some x ∧ d = .v x := fun i j d hd => by
    obtain ⟨l, g1, g2⟩ := at2_some.1 hd
    rw [List.getElem?_map, Option.map_eq_some_iff] at g1
    obtain ⟨y, hy, rfl⟩ := g1
    rw [List.getElem?_map, Option.map_eq_some_iff] at g2
    obtain ⟨x, hx, rfl⟩ := g2
    exact ⟨y, x, hy, hx, rfl⟩
  have hr := Rp.row (X := X0 W) (cl := false) (xs := ys.map fun y => (encA y).map D.v) (a := a) (c := c) (sz := sz) (fun i j => ((ys[i]?).bind fun y => (encA y)[j]?).getD undef) (fun h => nomatch h) ⟨by rw [hl]; exact hnc, by rw [hl]; exact hn⟩
    (fun ds hd => by
      obtain ⟨y, _, rfl⟩ := List.mem_map.1 hd
      rw [List.length_map]; exact hz y)
    (fun ha => by rw [List.map_eq_nil_iff]; exact List.eq_nil_of_length_eq_zero (hn0 ha))
    (fun a0 ha hne => by
      obtain ⟨y, ys', rfl⟩ : ∃ y ys', ys = y :: ys' := by
        cases ys with
        | nil => exact absurd rfl hne
        | cons y ys' => exact ⟨y, ys', rfl⟩
      have hl0 : 0 < (encA y).length := by rw [hz]; exact h0
      have := hc a0 ha 0 y rfl 0 _ (List.getElem?_eq_getElem hl0)
      have h3 := cell_lt this
      show a0.block < W.heap.size
      simpa [Addr.add] using h3)
    (fun a0 i j d ha hd => by
      obtain ⟨y, x, hy, hx, rfl⟩ := hat i j d hd
      simp only [hy, hx, Option.bind_some, Option.getD_some]
      refine ⟨?_, h1 y x (List.mem_of_getElem? hx)⟩
      have := hc a0 ha i y hy j x hx
      rw [add_add] at this
      exact this)
    (fun i j d hd => by
      obtain ⟨y, x, hy, hx, rfl⟩ := hat i j d hd
      simp only [hy, hx, Option.bind_some, Option.getD_some]
      exact .v x)
  rw [hl] at hr
  exact hr
end Go.Proofs.YtpndfdfipkadkaaGreatDoor
set_option maxRecDepth 100000
namespace Go.Proofs.YtpndfdfipkadkaaGreatDoor
open Go Go.Wx Go.Ax Go.ChangeShapes Go.WideShapes Go.ChangeAt Go.RowKit
theorem gPow:Pg.globalNamed "internal/strconv.uint64pow10" =some 3:=by kernel_rfl
theorem gSyn:Pg.globalNamed "strconv.ErrSyntax" =some 1:=by kernel_rfl
theorem gRan:Pg.globalNamed "strconv.ErrRange" =some 2:=by kernel_rfl
theorem tPow:(Pg.globals[3]?).map (·.type)=some 295:=by kernel_rfl
theorem tSyn:(Pg.globals[1]?).map (·.type)=some 97:=by kernel_rfl
theorem tRan:(Pg.globals[2]?).map (·.type)=some 97:=by kernel_rfl
theorem glOk_of{W:World}(h:laidMetH Pg Rows.placesSpellsRow.laid W):glOk W:=by
 rw[MakeChecks.laidMetH_plain _ _ _ (by kernel_rfl)]at h
 obtain⟨ps,⟨g0,t0,cs0,f0,p0,q0,hg0,ht0,hv0,hd0,⟨g1,t1,cs1,f1,p1,q1,hg1,ht1,hv1,hd1,⟨g2,t2,cs2,f2,p2,q2,hg2,ht2,hv2,hd2,⟨g3,t3,cs3,f3,p3,q3,hg3,ht3,hv3,hd3,⟨g4,t4,cs4,f4,p4,q4,hg4,ht4,hv4,hd4,_⟩,_⟩,_⟩,_⟩,_⟩,_,_⟩:=h
 obtain rfl:=Option.some.inj (gPow.symm.trans hg2)
 obtain rfl:=Option.some.inj (gRan.symm.trans hg3)
 obtain rfl:=Option.some.inj (gSyn.symm.trans hg4)
 obtain rfl:=Option.some.inj (tPow.symm.trans ht2)
 obtain rfl:=Option.some.inj (tRan.symm.trans ht3)
 obtain rfl:=Option.some.inj (tSyn.symm.trans ht4)
 refine⟨?_,?_,?_⟩
 ·have:=Lib.cells_of_tab (zs:=Lib.pow10Tab) (k:= .u64) Tryz.underlying295 Tryz.underlying259 (by kernel_rfl) (by kernel_rfl) (hd2.trans rfl)
  unfold Lib.TabIs
  rw[hv2,←this]
 ·obtain⟨_,u,v,hc,_⟩:=iface_of_trod Tryz.underlying97 hd4
  exact⟨u,v,by rw[hv4,←hc]⟩
 ·obtain⟨_,u,v,hc,_⟩:=iface_of_trod Tryz.underlying97 hd3
  exact⟨u,v,by rw[hv3,←hc]⟩
end Go.Proofs.YtpndfdfipkadkaaGreatDoor
set_option maxRecDepth 100000
namespace Go.Proofs.YtpndfdfipkadkaaGreatDoor
open Go Go.Wx Go.Ax Go.ChangeShapes Go.WideShapes Go.ChangeAt Go.RowKit
theorem ownP:ownKnob Pg.godebug=none:=by kernel_rfl
theorem laidOut:laidOutB Pg=true:=by kernel_rfl
theorem fk113:flatK Pg 9 113=some [.str,.str,.int .i64]:=by kernel_rfl
theorem reach_le:reachBytes≤maxLen:=by decide
def Spell.vals(x:Spell):List Value:=[.string x.frm,.string x.to,.int .i64 x.cost]
instance : Inhabited Spell := ⟨⟨⟨#[]⟩, ⟨#[]⟩, 0⟩⟩
section
variable {H : Type} {enc : TypeId × Value → H} {w : World} {base : Nat} {spare : Nat → Bool} {held : Bool}
theorem el113(cs:List Value)(h:CM enc Pg w base spare held [.str,.str,.int .i64] cs):∃y:Spell,cs=y.vals∧y.ok:=by
 simp only[CM]at h
 obtain⟨a1,_,rfl,h1,a2,_,rfl,h2,a3,_,rfl,_,rfl⟩:=h
 exact⟨⟨a1,a2,a3⟩,rfl,Nat.le_trans h1 reach_le,Nat.le_trans h2 reach_le⟩
end
theorem rp_spells {H : Type} {enc : TypeId × Value → H} {W : World} {base : Nat} {spare : Nat → Bool} {held : Bool} {fuel : Nat} {a : Option Addr} {n c : Nat} {x : DataW H × List MemPlace} (h : DataW.trod enc Pg W base spare held fuel 31 [.slice a n c] = some x) (hw : ∀ m ∈ x.1.weights Pg 31, m ≤ reachBytes) :
    ∃ l : List Spell, Rp (X0 W) (rows Spell.enc l) (.slice a n c) ∧ ∀ y ∈ l, y.ok := by
  have hnc : n ≤ c := by
    rcases DataW.trod_slice Tryz.underlying31 h with ⟨hcs, _⟩ | ⟨a0, len, cap, elems, rest, m, rfl, hcs, rfl, hb, hlc, _⟩
    · cases hcs; exact Nat.le_refl _
    · cases hcs; exact hlc
  obtain ⟨l, hr, _, hn, hex⟩ := open_rows (α := Spell) (encA := Spell.vals) (sz := 3) (Ex := fun _ y => y.ok) Tryz.underlying31 fk113 (by kernel_rfl) (B := Pg.bytesOf 113) rfl el113 h hw
  exact ⟨l, rp_rowV hr (by decide) (fun _ => rfl) (fun y v hv => by simp [Spell.vals] at hv; rcases hv with rfl | rfl | rfl <;> rfl) hnc hn, hex⟩
theorem weights_of{H:Type}{P:Program}{ts:List TypeId}{ds:List (DataW H)}(h:(DataW.weightsEach P ts ds).all (· ≤reachBytes)=true){j:Nat}{t:TypeId}{d:DataW H}(ht:ts[j]? =some t)(hd:ds[j]? =some d):∀m∈d.weights P t,m≤reachBytes:=
 fun m hm=>of_decide_eq_true (List.all_eq_true.1 h m (DataW.weights_mem_each ht hd m hm))
theorem globs_lt{W:World}(h:glOk W):∀k∈Globs.blk,k<W.heap.size:=by
 obtain⟨h1,⟨t2,q2,h2⟩,t3,q3,h3⟩:=h
 have hv:∀{name:String} {g:Nat} {cs:Array Value},Pg.globalNamed name=some g→W.var? Pg name=some cs→g<W.heap.size:=fun{name g cs} hg h=>by
  unfold World.var? at h
  rw[hg]at h
  simp only[Option.bind_some]at h
  cases hh:W.heap[g]? with
  | none=>rw[hh]at h;cases h
  | some o=>exact(Array.getElem?_eq_some_iff.1 hh).1
 intro k hk
 have hk:k∈[1,2,3]:=hk
 simp at hk
 rcases hk with rfl | rfl | rfl
 ·exact hv gSyn h2
 ·exact hv gRan h3
 ·exact hv gPow h1
theorem law_true{f:FuncId}{args:List D}{vs:List Value}{W:World}(h:Pur Pg f args (db true))(hg:glOk W)(ha:RpL (X0 W) args vs):Calls Pg f vs.toArray W fun e W'=>e= .returned (.bool true)∧Below W.heap.size W W':=by
 refine Calls.mono ((h []).run (X0 W) (fun _=>False) vs (sim0 hg (globs_lt hg)) rfl ha) ?_
 rintro e W' ⟨v,rfl,X',M',d,ms,E,S,rfl,hr,rfl,_,_⟩
 exact⟨by rw[hr.v_inv],Ext.below E.frm⟩
theorem door_met(os:Os)(args:Array Value):laidMetH Pg Rows.placesSpellsRow.laid ((World.doorLaid Pg 4000 os).forCall (fun _ _=>0) ⟨#[],args,[]⟩).memory:=
 laidMetH_of_parts3 (fuel:=8) (laidMet_of_run' 8 (by kernel_rfl) (by kernel_rfl)) (by kernel_rfl) (by kernel_rfl)
end Go.Proofs.YtpndfdfipkadkaaGreatDoor
set_option maxRecDepth 100000
namespace Go.Proofs.YtpndfdfipkadkaaGreatDoor
open Go Go.Wx Go.Ax Go.ChangeShapes Go.WideShapes Go.ChangeAt Go.RowKit
theorem fk23:flatK Pg 9 23=some [.int .i64,.int .u8,.int .i64,.int .i64,.str]:=by kernel_rfl
def Ev.vals(x:Ev):List Value:=[.int .i64 x.day,.int .u8 x.kind,.int .i64 x.place,.int .i64 x.other,.string x.name]
instance : Inhabited Ev := ⟨⟨0, 0, 0, 0, ⟨#[]⟩⟩⟩
section
variable {H : Type} {enc : TypeId × Value → H} {w : World} {base : Nat} {spare : Nat → Bool} {held : Bool}
theorem el23(cs:List Value)(h:CM enc Pg w base spare held [.int .i64,.int .u8,.int .i64,.int .i64,.str] cs):∃y:Ev,cs=y.vals∧y.name.size≤maxLen:=by
 simp only[CM]at h
 obtain⟨a1,_,rfl,_,a2,_,rfl,_,a3,_,rfl,_,a4,_,rfl,_,a5,_,rfl,h5,rfl⟩:=h
 exact⟨⟨a1,a2,a3,a4,a5⟩,rfl,Nat.le_trans h5 reach_le⟩
end
theorem rp_events {H : Type} {enc : TypeId × Value → H} {W : World} {base : Nat} {spare : Nat → Bool} {held : Bool} {fuel : Nat} {a : Option Addr} {n c : Nat} {x : DataW H × List MemPlace} (h : DataW.trod enc Pg W base spare held fuel 34 [.slice a n c] = some x) (hw : ∀ m ∈ x.1.weights Pg 34, m ≤ reachBytes) :
    ∃ l : List Ev, Rp (X0 W) (rows Ev.enc l) (.slice a n c) ∧ ∀ y ∈ l, y.name.size ≤ maxLen := by
  have hnc : n ≤ c := by
    rcases DataW.trod_slice Tryz.underlying34 h with ⟨hcs, _⟩ | ⟨a0, len, cap, elems, rest, m, rfl, hcs, rfl, hb, hlc, _⟩
    · cases hcs; exact Nat.le_refl _
    · cases hcs; exact hlc
  obtain ⟨l, hr, _, hn, hex⟩ := open_rows (α := Ev) (encA := Ev.vals) (sz := 5) (Ex := fun _ y => y.name.size ≤ maxLen) Tryz.underlying34 fk23 (by kernel_rfl) (B := Pg.bytesOf 23) rfl el23 h hw
  exact ⟨l, rp_rowV hr (by decide) (fun _ => rfl) (fun y v hv => by simp [Ev.vals] at hv; rcases hv with rfl | rfl | rfl | rfl | rfl <;> rfl) hnc hn, hex⟩
end Go.Proofs.YtpndfdfipkadkaaGreatDoor
