/- The law holds: part 334. Conditions: none. -/
import Derived.Test.YtpndfdfipkadkaaGreatDoorKU1
import Derived.Laws.Tables
import Derived.Great.BuildSlice
import Derived.Laws.MakeOwn
import Derived.Laws.BytesString
import Derived.ChangeKeysEq
set_option linter.all false
namespace Go.Ax
open Go Go.Wx
inductive D where
 | v (x:Value)
 | ptr (b i o h:Nat)
 | sl (b i n h:Nat)
 | row (cl:Bool) (xs:List (List D))
 | fp (ds:List D)
 | map (b:Nat)
 | it (b:Nat)
 | clo (f:FuncId) (caps:List D)
 | agg (ds:List D)
 | tup (ds:List D)
 | ifc (t:TypeId) (d:D)
 | any
 | fmap (ks:List Value) (ds:List D)
inductive AO where
 | arr (T sz:Nat) (xs:List (List D))
 | map (ks:List Value) (ds:List D)
 | iter (m:D) (n:Nat) (seen:List Nat)
abbrev Heap:=List AO
structure St where
 e:Nat→D
 H:Heap
structure Cx where
 w:World
 F:Nat→Prop
 ρ:Nat→Nat
 gh:Nat→Bool
 H:Heap
def at2(xs:List (List D))(i j:Nat):Option D:=xs[i]?.bind (·[j]?)
theorem at2_some{xs:List (List D)}{i j:Nat}{d:D}:at2 xs i j=some d↔∃ds,xs[i]? =some ds∧ds[j]? =some d:=by
 unfold at2;rw[Option.bind_eq_some_iff]
def MapL(l:Array MapEntry)(ks:List Value):Prop:=l.size=ks.length∧∀(i:Nat) m,l[i]? =some m→ks[i]? =some m.key∧m.born=i
inductive Rp (X : Cx) : D → Value → Prop
  | v (x : Value) : Rp X (.v x) x
  | any (x : Value) : Rp X .any x
  | ptr {b i o h : Nat} {a : Option Addr} (hb : b < X.H.length) (hh : ∀ T sz xs, X.H[b]? = some (.arr T sz xs) → h ≤ xs.length ∧ (xs.length = h → X.gh b = false ∧ a = some ⟨X.ρ b, i * sz + o, none⟩)) : Rp X (.ptr b i o h) (.pointer a)
  | sl {b i n h c : Nat} {a : Option Addr} (hb : b < X.H.length) (hh : ∀ T sz xs, X.H[b]? = some (.arr T sz xs) → h ≤ xs.length ∧ (xs.length = h → n = 0 ∧ c = 0 ∨
      X.gh b = false ∧ a = some ⟨X.ρ b, i * sz, none⟩ ∧ n ≤ c ∧ c ≤ maxLen ∧ ∃ cur, X.w.heap[X.ρ b]? = some (.cells cur T (0, 0)) ∧ (i + c) * sz ≤ cur.size)) : Rp X (.sl b i n h) (.slice a n c)
  | row {cl : Bool} {xs : List (List D)} {a : Option Addr} {c sz : Nat} (vals : Nat → Nat → Value) (hcl : cl = true → c = xs.length) (hle : xs.length ≤ c ∧ xs.length ≤ maxLen) (hs : ∀ ds ∈ xs, ds.length = sz) (hn : a = none → xs = []) (hF : ∀ a0, a = some a0 → xs ≠ [] → X.F a0.block)
      (hc : ∀ a0 i j d, a = some a0 → at2 xs i j = some d → X.w.cell? (a0.add (i * sz + j)) = some (vals i j) ∧ (vals i j).oneCell' = true) (hr : ∀ i j d, at2 xs i j = some d → Rp X d (vals i j)) : Rp X (.row cl xs) (.slice a xs.length c)
  | fp {ds : List D} {a : Addr} (vals : Nat → Value) (hF : X.F a.block) (hc : ∀ j d, ds[j]? = some d → X.w.cell? (a.add j) = some (vals j) ∧ (vals j).oneCell' = true) (hr : ∀ j d, ds[j]? = some d → Rp X d (vals j)) : Rp X (.fp ds) (.pointer (some a))
  | map {b : Nat} (hb : b < X.H.length) (hm : ∃ es c, X.H[b]? = some (.map es c)) : Rp X (.map b) (.map (some (X.ρ b)))
  | it {b : Nat} (hb : b < X.H.length) (hm : ∃ m n l, X.H[b]? = some (.iter m n l)) : Rp X (.it b) (.pointer (some ⟨X.ρ b, 0, none⟩))
  | clo {f : FuncId} {ds : List D} {vs : List Value} (hl : vs.length = ds.length) (hr : ∀ (j : Nat) d x, ds[j]? = some d → vs[j]? = some x → Rp X d x) : Rp X (.clo f ds) (.func (.func f) #[] vs.toArray)
  | agg {ds : List D} {vs : List Value} (hl : vs.length = ds.length) (hr : ∀ (j : Nat) d x, ds[j]? = some d → vs[j]? = some x → Rp X d x) : Rp X (.agg ds) (.agg vs.toArray)
  | tup {ds : List D} {vs : List Value} (hl : vs.length = ds.length) (hr : ∀ (j : Nat) d x, ds[j]? = some d → vs[j]? = some x → Rp X d x) : Rp X (.tup ds) (.tuple vs.toArray)
  | ifc {t : TypeId} {d : D} {x : Value} (h : Rp X d x) : Rp X (.ifc t d) (.iface t x)
  | fmap {ks : List Value} {ds : List D} {k : Nat} {l : Array MapEntry} (hF : X.F k) (hw : X.w.heap[k]? = some (.map l ks.length)) (hl : MapL l ks) (hd : ds.length = ks.length) (hr : ∀ (i : Nat) d m, ds[i]? = some d → l[i]? = some m → Rp X d m.val) : Rp X (.fmap ks ds) (.map (some k))
def Blk (X : Cx) (b : Nat) : AO → Prop
  | .arr T sz xs => X.gh b = true ∧ xs = [] ∨ X.gh b = false ∧ ∃ cur, X.w.heap[X.ρ b]? = some (.cells cur T (0, 0)) ∧ xs.length * sz ≤ cur.size ∧ (∀ ds ∈ xs, ds.length = sz) ∧
      ∀ i j d, at2 xs i j = some d → ∃ x, cur[i * sz + j]? = some x ∧ x.oneCell' = true ∧ Rp X d x
  | .map ks ds => X.gh b = false ∧ ∃ l, X.w.heap[X.ρ b]? = some (.map l ks.length) ∧ MapL l ks ∧ ds.length = ks.length ∧ ∀ (i : Nat) d m, ds[i]? = some d → l[i]? = some m → Rp X d m.val
  | .iter m n l => X.gh b = false ∧ ∃ k, X.w.heap[X.ρ b]? = some (.mapIter (some k) n l.toArray n) ∧ Rp X m (.map (some k))
class Globs where
 ok:World→Prop
 blk:List Nat
 cong:∀{w w':World},ok w→(∀k∈blk,w'.heap[k]? =w.heap[k]?)→ok w'
variable [Globs]
structure Sim(X:Cx)(M:Nat→Prop):Prop where
 gl:Globs.ok X.w∧∀k∈Globs.blk,X.F k
 mlt:∀k,M k→k<X.w.heap.size
 flt:∀k,X.F k→k<X.w.heap.size
 dj:∀k,X.F k→¬M k
 im:∀b,b<X.H.length→X.gh b=false→M (X.ρ b)
 inj:∀b b',b<X.H.length→b'<X.H.length→X.gh b=false→X.gh b'=false→X.ρ b=X.ρ b'→b=b'
 blk:∀b o,X.H[b]? =some o→Blk X b o
structure Ev(A:Nat→Prop)(X:Cx)(M:Nat→Prop)(X':Cx)(M':Nat→Prop):Prop where
 frm:Frm M X.w X'.w
 mn:∀k,M' k→M k∨X.w.heap.size≤k
 ff:∀k,X.F k→X'.F k
 fn:∀k,X'.F k→X.F k∨X.w.heap.size≤k
 len:X.H.length≤X'.H.length
 old:∀b,b<X.H.length→¬A b→X'.H[b]? =X.H[b]? ∧X'.ρ b=X.ρ b∧X'.gh b=X.gh b∧(X.gh b=false→X'.w.heap[X.ρ b]? =X.w.heap[X.ρ b]?)
 arr:∀b T sz xs',b<X.H.length→X'.H[b]? =some (.arr T sz xs')→∃xs,X.H[b]? =some (.arr T sz xs)∧(xs.length<xs'.length∨xs'.length=xs.length∧X'.ρ b=X.ρ b∧X'.gh b=X.gh b∧
  (X.gh b=false→∀cur,X.w.heap[X.ρ b]? =some (.cells cur T (0,0))→∃cur',X'.w.heap[X.ρ b]? =some (.cells cur' T (0,0))∧cur'.size=cur.size))
 map:∀b es c,X.H[b]? =some (.map es c)→X'.ρ b=X.ρ b∧∃es' c',X'.H[b]? =some (.map es' c')
 iter:∀b m n l,X.H[b]? =some (.iter m n l)→X'.ρ b=X.ρ b∧∃l',X'.H[b]? =some (.iter m n l')
 nw:∀b,b<X'.H.length→X'.gh b=false→X.w.heap.size≤X'.ρ b∨b<X.H.length∧X'.ρ b=X.ρ b∧X.gh b=false
section
variable {A A' : Nat → Prop} {X X' X'' : Cx} {M M' M'' : Nat → Prop}
theorem Ev.refl(A:Nat→Prop)(X:Cx)(M:Nat→Prop):Ev A X M X M:=
 ⟨Frm.refl _ _,fun _ h=> .inl h,fun _ h=>h,fun _ h=> .inl h,Nat.le_refl _,fun _ _ _=>⟨rfl,rfl,rfl,fun _=>rfl⟩,
  fun b T sz xs _ h=>⟨xs,h,.inr ⟨rfl,rfl,rfl,fun _ cur h=>⟨cur,h,rfl⟩⟩⟩,fun b es c h=>⟨rfl,es,c,h⟩,fun b m n l h=>⟨rfl,l,h⟩,fun b hb hg=> .inr ⟨hb,rfl,hg⟩⟩
theorem Ev.weak(h:Ev A X M X' M')(hs:∀b,b<X.H.length→A b→A' b):Ev A' X M X' M':=
 ⟨h.frm,h.mn,h.ff,h.fn,h.len,fun b hb hn=>h.old b hb fun ha=>hn (hs b hb ha),h.arr,h.map,h.iter,h.nw⟩
theorem Ev.trans(h:Ev A X M X' M')(h':Ev A X' M' X'' M'')(hs:Sim X M):Ev A X M X'' M'' where
 frm:=h.frm.trans h'.frm fun b hb hm=>(h.mn b hm).resolve_right (by omega)
 mn k hk:=(h'.mn k hk).elim (h.mn k) fun hk=> .inr (Nat.le_trans h.frm.size hk)
 ff k hk:=h'.ff k (h.ff k hk)
 fn k hk:=(h'.fn k hk).elim (h.fn k) fun hk=> .inr (Nat.le_trans h.frm.size hk)
 len:=Nat.le_trans h.len h'.len
 old b hb hn:=by
  obtain⟨h1,h2,h4,h3⟩:=h.old b hb hn
  obtain⟨g1,g2,g4,g3⟩:=h'.old b (Nat.lt_of_lt_of_le hb h.len) hn
  exact⟨g1.trans h1,g2.trans h2,g4.trans h4,fun hg=>by have g3:=g3 (h4.trans hg);rw[h2]at g3;exact g3.trans (h3 hg)⟩
 arr b T sz xs'' hb hx:=by
  obtain⟨xs',hx',hc'⟩:=h'.arr b T sz xs'' (Nat.lt_of_lt_of_le hb h.len) hx
  obtain⟨xs,hx0,hc⟩:=h.arr b T sz xs' hb hx'
  refine⟨xs,hx0,?_⟩
  rcases hc with hc | ⟨e1,e2,e4,e3⟩
  ·left
   rcases hc' with hc' | ⟨e1,_⟩<;>omega
  ·rcases hc' with hc' | ⟨g1,g2,g4,g3⟩
   ·left;omega
   ·right
    refine⟨by omega,g2.trans e2,g4.trans e4,fun hgh cur hcur=>?_⟩
    obtain⟨cur',hcur',hsz⟩:=e3 hgh cur hcur
    rw[e2]at g3
    obtain⟨cur'',hcur'',hsz'⟩:=g3 (e4.trans hgh) cur' hcur'
    exact⟨cur'',hcur'',hsz'.trans hsz⟩
 map b es c hb:=by
  obtain⟨h1,es',c',h2⟩:=h.map b es c hb
  obtain⟨g1,es'',c'',g2⟩:=h'.map b es' c' h2
  exact⟨g1.trans h1,es'',c'',g2⟩
 iter b m n l hb:=by
  obtain⟨h1,l',h2⟩:=h.iter b m n l hb
  obtain⟨g1,l'',g2⟩:=h'.iter b m n l' h2
  exact⟨g1.trans h1,l'',g2⟩
 nw b hb hg:=by
  rcases h'.nw b hb hg with h1 | ⟨h1,h2,h3⟩
  ·exact .inl (Nat.le_trans h.frm.size h1)
  ·rw[h2];exact h.nw b h1 h3
structure EvB(b0:Nat)(A:Nat→Prop)(X:Cx)(M:Nat→Prop)(X':Cx)(M':Nat→Prop):Prop where
 frm:Frm M X.w X'.w
 mn:∀k,M' k→M k∨X.w.heap.size≤k
 ff:∀k,X.F k→X'.F k
 fn:∀k,X'.F k→X.F k∨X.w.heap.size≤k∨∃b,b0≤b∧b<X.H.length∧X.gh b=false∧k=X.ρ b
 len:b0≤X'.H.length
 old:∀b,b<b0→¬A b→X'.H[b]? =X.H[b]? ∧X'.ρ b=X.ρ b∧X'.gh b=X.gh b∧(X.gh b=false→X'.w.heap[X.ρ b]? =X.w.heap[X.ρ b]?)
 arr:∀b T sz xs',b<b0→X'.H[b]? =some (.arr T sz xs')→∃xs,X.H[b]? =some (.arr T sz xs)∧(xs.length<xs'.length∨xs'.length=xs.length∧X'.ρ b=X.ρ b∧X'.gh b=X.gh b∧
  (X.gh b=false→∀cur,X.w.heap[X.ρ b]? =some (.cells cur T (0,0))→∃cur',X'.w.heap[X.ρ b]? =some (.cells cur' T (0,0))∧cur'.size=cur.size))
 map:∀b es c,b<b0→X.H[b]? =some (.map es c)→X'.ρ b=X.ρ b∧∃es' c',X'.H[b]? =some (.map es' c')
 iter:∀b m n l,b<b0→X.H[b]? =some (.iter m n l)→X'.ρ b=X.ρ b∧∃l',X'.H[b]? =some (.iter m n l')
 nw:∀b,b<X'.H.length→X'.gh b=false→X.w.heap.size≤X'.ρ b∨b<X.H.length∧X'.ρ b=X.ρ b∧X.gh b=false
theorem Ev.b{b0:Nat}(h:Ev A X M X' M')(hb:b0≤X.H.length):EvB b0 A X M X' M':=
 ⟨h.frm,h.mn,h.ff,fun k hk=>(h.fn k hk).imp id .inl,Nat.le_trans hb h.len,fun b hl=>h.old b (Nat.lt_of_lt_of_le hl hb),fun b T sz xs hl=>h.arr b T sz xs (Nat.lt_of_lt_of_le hl hb),fun b es c _=>h.map b es c,fun b m n l _=>h.iter b m n l,h.nw⟩
theorem EvB.ev(h:EvB X.H.length A X M X' M'):Ev A X M X' M':=
 ⟨h.frm,h.mn,h.ff,fun k hk=>(h.fn k hk).imp id fun h=>h.elim id fun⟨b,h1,h2,_⟩=>by omega,h.len,h.old,h.arr,fun b es c hb=>h.map b es c (List.getElem?_eq_some_iff.1 hb).1 hb,fun b m n l hb=>h.iter b m n l (List.getElem?_eq_some_iff.1 hb).1 hb,h.nw⟩
theorem EvB.trans{b0:Nat}(h:EvB b0 A X M X' M')(h':EvB b0 A X' M' X'' M'')(hs:Sim X M):EvB b0 A X M X'' M'' where
 frm:=h.frm.trans h'.frm fun b hb hm=>(h.mn b hm).resolve_right (by omega)
 mn k hk:=(h'.mn k hk).elim (h.mn k) fun hk=> .inr (Nat.le_trans h.frm.size hk)
 ff k hk:=h'.ff k (h.ff k hk)
 fn k hk:=by
  rcases h'.fn k hk with h1 | h1 | ⟨b,h1,h2,h3,e⟩
  ·exact h.fn k h1
  ·exact .inr (.inl (Nat.le_trans h.frm.size h1))
  ·rcases h.nw b h2 h3 with g | ⟨g1,g2,g3⟩
   ·exact .inr (.inl (by rw[e];exact g))
   ·exact .inr (.inr ⟨b,h1,g1,g3,e.trans g2⟩)
 len:=h'.len
 old b hb hn:=by
  obtain⟨h1,h2,h4,h3⟩:=h.old b hb hn
  obtain⟨g1,g2,g4,g3⟩:=h'.old b hb hn
  exact⟨g1.trans h1,g2.trans h2,g4.trans h4,fun hg=>by have g3:=g3 (h4.trans hg);rw[h2]at g3;exact g3.trans (h3 hg)⟩
 arr b T sz xs'' hb hx:=by
  obtain⟨xs',hx',hc'⟩:=h'.arr b T sz xs'' hb hx
  obtain⟨xs,hx0,hc⟩:=h.arr b T sz xs' hb hx'
  refine⟨xs,hx0,?_⟩
  rcases hc with hc | ⟨e1,e2,e4,e3⟩
  ·left
   rcases hc' with hc' | ⟨e1,_⟩<;>omega
  ·rcases hc' with hc' | ⟨g1,g2,g4,g3⟩
   ·left;omega
   ·right
    refine⟨by omega,g2.trans e2,g4.trans e4,fun hgh cur hcur=>?_⟩
    obtain⟨cur',hcur',hsz⟩:=e3 hgh cur hcur
    rw[e2]at g3
    obtain⟨cur'',hcur'',hsz'⟩:=g3 (e4.trans hgh) cur' hcur'
    exact⟨cur'',hcur'',hsz'.trans hsz⟩
 map b es c hl hb:=by
  obtain⟨h1,es',c',h2⟩:=h.map b es c hl hb
  obtain⟨g1,es'',c'',g2⟩:=h'.map b es' c' hl h2
  exact⟨g1.trans h1,es'',c'',g2⟩
 iter b m n l hl hb:=by
  obtain⟨h1,l',h2⟩:=h.iter b m n l hl hb
  obtain⟨g1,l'',g2⟩:=h'.iter b m n l' hl h2
  exact⟨g1.trans h1,l'',g2⟩
 nw b hb hg:=by
  rcases h'.nw b hb hg with h1 | ⟨h1,h2,h3⟩
  ·exact .inl (Nat.le_trans h.frm.size h1)
  ·rw[h2];exact h.nw b h1 h3
theorem Rp.ev(h:Ev A X M X' M')(hs:Sim X M){d:D}{y:Value}(hr:Rp X d y):Rp X' d y:=by
 induction hr with
 | v x=>exact .v x
 | any x=>exact .any x
 | ptr hb hh=>
  refine .ptr (Nat.lt_of_lt_of_le hb h.len) fun T sz xs' hx'=>?_
  obtain⟨xs,hx,hc⟩:=h.arr _ T sz xs' hb hx'
  obtain⟨h1,h2⟩:=hh T sz xs hx
  rcases hc with hc | ⟨e1,e2,e4,_⟩
  ·exact⟨by omega,fun e=>by omega⟩
  ·refine⟨by omega,fun e=>?_⟩
   rw[e2,e4];exact h2 (by omega)
 | sl hb hh=>
  refine .sl (Nat.lt_of_lt_of_le hb h.len) fun T sz xs' hx'=>?_
  obtain⟨xs,hx,hc⟩:=h.arr _ T sz xs' hb hx'
  obtain⟨h1,h2⟩:=hh T sz xs hx
  rcases hc with hc | ⟨e1,e2,e4,e3⟩
  ·exact⟨by omega,fun e=>by omega⟩
  ·refine⟨by omega,fun e=>?_⟩
   rcases h2 (by omega)with h5 | ⟨h3,ha,hn,hm,cur,hcur,hsz⟩
   ·exact .inl h5
   ·obtain⟨cur',hcur',hsz'⟩:=e3 h3 cur hcur
    rw[e2]
    exact .inr ⟨e4.trans h3,ha,hn,hm,cur',hcur',by omega⟩
 | row vals hcl hle hsz hn hF hc hr ih=>
  refine .row vals hcl hle hsz hn (fun a0 ha hx=>h.ff _ (hF a0 ha hx)) (fun a0 i j d ha hd=>⟨?_,(hc a0 i j d ha hd).2⟩) ih
  refine cell_frm (hc a0 i j d ha hd).1 h.frm ?_
  rw[add_block]
  refine hs.dj _ (hF a0 ha fun e=>?_)
  rw[e]at hd;simp[at2]at hd
 | fp vals hF hc hr ih=>
  refine .fp vals (h.ff _ hF) (fun j d hd=>⟨?_,(hc j d hd).2⟩) ih
  refine cell_frm (hc j d hd).1 h.frm ?_
  rw[add_block];exact hs.dj _ hF
 | map hb hm=>
  obtain⟨es,c,hm⟩:=hm
  obtain⟨h1,es',c',h2⟩:=h.map _ es c hm
  rw[←h1]
  exact .map (Nat.lt_of_lt_of_le hb h.len) ⟨es',c',h2⟩
 | it hb hm=>
  obtain⟨m,n,l,hm⟩:=hm
  obtain⟨h1,l',h2⟩:=h.iter _ m n l hm
  rw[←h1]
  exact .it (Nat.lt_of_lt_of_le hb h.len) ⟨m,n,l',h2⟩
 | clo hl hr ih=>exact .clo hl ih
 | agg hl hr ih=>exact .agg hl ih
 | tup hl hr ih=>exact .tup hl ih
 | ifc h ih=>exact .ifc ih
 | fmap hF hw hl hd hr ih=>exact .fmap (h.ff _ hF) ((h.frm.blk _ (hs.flt _ hF) (hs.dj _ hF)).trans hw) hl hd ih
end
abbrev Cnd(b:Bool)(A B:Prop):Prop:=match b with | true=>A | false=>B
abbrev APost:=Exit→St→Prop
def Renv(X:Cx)(e:Nat→D)(ec:Env):Prop:=∀t,Rp X (e t) (ec t)
def lift(A:Nat→Bool)(b0:Nat)(X:Cx)(M:Nat→Prop)(K:APost):Post:=fun ex ec w=>
 ∃X' M' s,EvB b0 (fun b=>A b=true) X M X' M'∧Sim X' M'∧X'.w=w∧X'.H=s.H∧Renv X' s.e ec∧K ex s
structure AW(P:Program)(n:Nat)(A:Nat→Bool)(b0:Nat)(c:Code)(K:APost)(s:St):Prop where
 run:∀X M ec,Sim X M→b0≤X.H.length→X.H=s.H→Renv X s.e ec→W P n c (lift A b0 X M K) ec X.w
def dset(e:Nat→D)(t:Nat)(d:D):Nat→D:=fun u=>cond (Nat.beq u t) d (e u)
def dput(e:Nat→D):Option Nat→D→(Nat→D)
 | some t,d=>dset e t d
 | none,_=>e
def dupds(e:Nat→D):List (Nat × D)→(Nat→D)
 |[]=>e
 | p::l=>dupds (dset e p.1 p.2) l
def dev(e:Nat→D):Operand→D
 | .tmp t=>e t
 | .const x=> .v x
 | .global g=> .v (.pointer (some ⟨g,0,none⟩))
 | .func f=> .v (.func (.func f) #[] #[])
section
variable {P : Program} {n : Nat} {A : Nat → Bool} {b0 : Nat} {K K' : APost} {s : St} {X X' : Cx} {M M' : Nat → Prop}
theorem Renv.dev{e:Nat→D}{ec:Env}(h:Renv X e ec)(x:Operand):Rp X (dev e x) (evl ec x):=by
 cases x with
 | tmp t=>exact h t
 | _=>exact .v _
theorem Renv.ev{B:Nat→Prop}{e:Nat→D}{ec:Env}(h:Renv X e ec)(E:Ev B X M X' M')(hs:Sim X M):Renv X' e ec:=fun t=>(h t).ev E hs
theorem Renv.put{e:Nat→D}{ec:Env}(h:Renv X e ec){d:D}{y:Value}(hd:Rp X d y)(o:Option Nat):Renv X (dput e o d) (pute ec o y):=by
 cases o with
 | none=>exact h
 | some t=>
  intro u
  show Rp X (cond (Nat.beq u t) d (e u)) (cond (Nat.beq u t) y (ec u))
  cases Nat.beq u t
  ·exact h u
  ·exact hd
theorem lift_mono{ex:Exit}{ec:Env}{w:World}(h:lift A b0 X M K ex ec w)(hk:∀s,K ex s→K' ex s):lift A b0 X M K' ex ec w:=by
 obtain⟨X',M',s,h1,h2,h3,h4,h5,h6⟩:=h
 exact⟨X',M',s,h1,h2,h3,h4,h5,hk _ h6⟩
theorem AW_mono{c:Code}(h:AW P n A b0 c K s)(hk:∀ex s,K ex s→K' ex s):AW P n A b0 c K' s:=
 ⟨fun X M ec hs hl0 hH he=>W_mono (h.run X M ec hs hl0 hH he) fun ex e w hl=>lift_mono hl (hk ex)⟩
theorem lift_now{ec:Env}(hs:Sim X M)(hl0:b0≤X.H.length)(hH:X.H=s.H)(he:Renv X s.e ec){ex:Exit}(h:K ex s):lift A b0 X M K ex ec X.w:=⟨X,M,s,(Ev.refl _ _ _).b hl0,hs,rfl,hH,he,h⟩
theorem AW_skip(h:K .normal s):AW P n A b0 .skip K s:=⟨fun _ _ _ hs hl0 hH he=>W_skip (lift_now hs hl0 hH he h)⟩
theorem AW_ret(h:K .ret s):AW P n A b0 .ret K s:=⟨fun _ _ _ hs hl0 hH he=>W_ret (lift_now hs hl0 hH he h)⟩
theorem AW_exit{id:Nat}(h:K (.exit id) s):AW P n A b0 (.exit id) K s:=⟨fun _ _ _ hs hl0 hH he=>W_exit (lift_now hs hl0 hH he h)⟩
@[reducible] def sqK (B : St → Prop) (K : APost) : APost
 | .normal=>B
 | ex=>K ex
@[reducible] def blK (id : Nat) (K : APost) : APost
 | .exit id'=>fun s=>Cnd (Nat.beq id' id) (K .normal s) (K (.exit id') s)
 | ex=>K ex
theorem lift_seq{c:Code}{ex:Exit}{ec:Env}{w:World}(hs:Sim X M)(h:lift A b0 X M (sqK (AW P n A b0 c K) K) ex ec w):seqK (W P n c (lift A b0 X M K)) (lift A b0 X M K) ex ec w:=by
 obtain⟨X',M',s,h1,h2,h3,h4,h5,h6⟩:=h
 cases ex with
 | normal=>
  subst h3
  exact W_mono (h6.run X' M' ec h2 h1.len h4 h5) fun ex e w ⟨X2,M2,s2,g1,g2,g3,g4,g5,g6⟩=>⟨X2,M2,s2,h1.trans g1 hs,g2,g3,g4,g5,g6⟩
 | _=>exact⟨X',M',s,h1,h2,h3,h4,h5,h6⟩
theorem AW_seq{x y:Code}(h:AW P n A b0 x (sqK (AW P n A b0 y K) K) s):AW P n A b0 (.seq x y) K s:=
 ⟨fun X M ec hs hl0 hH he=>W_seq (W_mono (h.run X M ec hs hl0 hH he) fun _ _ _ hl=>lift_seq hs hl)⟩
theorem AW_cond{c:Operand}{x y:Code}{t:Bool}(hc:dev s.e c= .v (.bool t))(h:Ifb t (AW P n A b0 x K s) (AW P n A b0 y K s)):AW P n A b0 (.cond c x y) K s:=by
 refine⟨fun X M ec hs hl0 hH he=>?_⟩
 have hd:=he.dev c
 rw[hc]at hd
 generalize hy:evl ec c=y at hd
 cases hd
 exact W_condB hy (fun ht=>(h.1 ht).run X M ec hs hl0 hH he) fun hf=>(h.2 hf).run X M ec hs hl0 hH he
theorem AW_block{id:Nat}{c:Code}(h:AW P n A b0 c (blK id K) s):AW P n A b0 (.block id c) K s:=by
 refine⟨fun X M ec hs hl0 hH he=>?_⟩
 refine W_block (W_mono (h.run X M ec hs hl0 hH he) fun ex e w hl=>?_)
 obtain⟨X',M',s,h1,h2,h3,h4,h5,h6⟩:=hl
 cases ex with
 | exit id'=>
  simp only[blK]at h6
  simp only[blockK]
  by_cases hi:id'=id
  ·subst hi
   rw[if_pos rfl]
   simp at h6
   exact⟨X',M',s,h1,h2,h3,h4,h5,h6⟩
  ·rw[if_neg hi]
   simp only[beq_ne hi]at h6
   exact⟨X',M',s,h1,h2,h3,h4,h5,h6⟩
 | _=>exact⟨X',M',s,h1,h2,h3,h4,h5,h6⟩
theorem AW_loop{c:Code}(I:Nat→St→Prop)(k:Nat)(h0:∀s,I 0 s→False)(hI:I k s)(hr:∀k s,I (k+1) s→AW P n A b0 c (sqK (I k) K) s):AW P n A b0 (.loop c) K s:=by
 refine⟨fun X M ec hs hl0 hH he=>?_⟩
 refine W_loopI (fun k ec w=>lift A b0 X M (fun _=>I k) .normal ec w) k (fun ec w ⟨_,_,s,_,_,_,_,_,h⟩=>h0 s h) ⟨X,M,s,(Ev.refl _ _ _).b hl0,hs,rfl,hH,he,hI⟩ ?_
 rintro k ec w ⟨X',M',s',h1,h2,rfl,h4,h5,h6⟩
 refine W_mono ((hr k s' h6).run X' M' ec h2 h1.len h4 h5) fun ex e w hl=>?_
 obtain⟨X2,M2,s2,g1,g2,g3,g4,g5,g6⟩:=hl
 cases ex<;>exact⟨X2,M2,s2,h1.trans g1 hs,g2,g3,g4,g5,g6⟩
def AOs(P:Program)(n:Nat)(A:Nat→Bool)(b0:Nat)(ops:Array Oper)(K:St→Prop)(rest:List Oper)(s:St):Prop:=
 ∀X M ec,Sim X M→b0≤X.H.length→X.H=s.H→Renv X s.e ec→WO P n ops (fun ec w=>∃X' M' s',EvB b0 (fun b=>A b=true) X M X' M'∧Sim X' M'∧X'.w=w∧X'.H=s'.H∧Renv X' s'.e ec∧K s') rest ec X.w
def wantedD(ops:Array Oper)(o:Oper)(e:Nat→D):Option Bool:=
 match o.guard with
 | none=>some true
 | some (j,want)=>match(ops[j]?).bind (·.dst)with
  | some d=>(match e d with | .v (.bool b)=>some (b==want) | .v _=>some false | _=>none)
  | none=>some false
theorem wanted_of{ops:Array Oper}{o:Oper}{e:Nat→D}{ec:Env}{b:Bool}(he:Renv X e ec)(h:wantedD ops o e=some b):wantedE ops o ec=b:=by
 unfold wantedD at h
 unfold wantedE
 cases hg:o.guard with
 | none=>rw[hg]at h;simpa using h
 | some q=>
  obtain⟨j,want⟩:=q
  rw[hg]at h
  simp only at h ⊢
  cases hd:(ops[j]?).bind (·.dst)with
  | none=>rw[hd]at h;simpa using h
  | some d=>
   rw[hd]at h
   simp only at h ⊢
   have:=he d
   split at h
   ·rename_i b' hb
    rw[hb]at this
    generalize ec d=y at this ⊢
    cases this
    simpa using h
   ·rename_i x hb hx
    rw[hx]at this
    generalize ec d=y at this ⊢
    cases this
    have hf:b=false:=by simpa using h.symm
    rw[hf]
    cases x<;>first | rfl | exact(hb _ rfl).elim
   ·cases h
variable {ops : Array Oper} {L : St → Prop} {rest : List Oper} {o : Oper}
theorem AOs_nil(h:L s):AOs P n A b0 ops L [] s:=fun X M _ hs hl0 hH he=>WO_nil ⟨X,M,s,(Ev.refl _ _ _).b hl0,hs,rfl,hH,he,h⟩
theorem AOs_skip(hw:wantedD ops o s.e=some false)(hd:dstB n o.dst=true)(h:AOs P n A b0 ops L rest ⟨dput s.e o.dst (.v undef),s.H⟩):AOs P n A b0 ops L (o::rest) s:=by
 intro X M ec hs hl0 hH he
 exact WO_skip (wanted_of he hw) hd (h X M _ hs hl0 hH (he.put (.v _) _))
theorem AW_region{id:Nat}(h:AOs P n A b0 ops (K .normal) ops.toList s):AW P n A b0 (.region id ops false) K s:=
 ⟨fun X M ec hs hl0 hH he=>W_region (h X M ec hs hl0 hH he)⟩
end
end Go.Ax
namespace Go.Ax
open Go Go.Wx
variable [Globs]
section
variable {P : Program} {A : Nat → Prop} {X X' : Cx} {M M' : Nat → Prop}
theorem Sim.lt(hs:Sim X M){b:Nat}(hb:b<X.H.length)(hg:X.gh b=false):X.ρ b<X.w.heap.size:=hs.mlt _ (hs.im b hb hg)
theorem Blk.ev(h:Ev A X M X' M')(hs:Sim X M){b:Nat}{o:AO}(hb:b<X.H.length)(hn:¬A b)(hB:Blk X b o):Blk X' b o:=by
 obtain⟨h1,h2,h3,h4⟩:=h.old b hb hn
 cases o with
 | arr T sz xs=>
  rcases hB with⟨hg,hx⟩ | ⟨hg,cur,hc,hl,hz,hv⟩
  ·exact .inl ⟨h3.trans hg,hx⟩
  ·refine .inr ⟨h3.trans hg,cur,by rw[h2,h4 hg];exact hc,hl,hz,fun i j d hd=>?_⟩
   obtain⟨x,hx,ho,hr⟩:=hv i j d hd
   exact⟨x,hx,ho,hr.ev h hs⟩
 | map es c=>
  obtain⟨hg,l,hc,hl,hd,hv⟩:=hB
  exact⟨h3.trans hg,l,by rw[h2,h4 hg];exact hc,hl,hd,fun i d m hm hm'=>(hv i d m hm hm').ev h hs⟩
 | iter m n l=>
  obtain⟨hg,k,hc,hr⟩:=hB
  exact⟨h3.trans hg,k,by rw[h2,h4 hg];exact hc,hr.ev h hs⟩
theorem Sim.step (hs : Sim X M) (h : Ev A X M X' M') (h1 : ∀ k, M' k → k < X'.w.heap.size) (h2 : ∀ k, X'.F k → k < X'.w.heap.size) (h3 : ∀ k, X'.F k → ¬ M' k)
    (h4 : ∀ b, b < X'.H.length → X'.gh b = false → M' (X'.ρ b)) (h5 : ∀ b b', b < X'.H.length → b' < X'.H.length → X'.gh b = false → X'.gh b' = false → X'.ρ b = X'.ρ b' → b = b')
    (hB : ∀ b o, X'.H[b]? = some o → b < X.H.length ∧ ¬ A b ∨ Blk X' b o) : Sim X' M' := by
  refine ⟨⟨Globs.cong hs.gl.1 fun k hk => h.frm.blk k (hs.flt k (hs.gl.2 k hk)) (hs.dj k (hs.gl.2 k hk)), fun k hk => h.ff k (hs.gl.2 k hk)⟩, h1, h2, h3, h4, h5, fun b o hb => ?_⟩
  rcases hB b o hb with ⟨hl, hn⟩ | hB
  · exact (hs.blk b o ((h.old b hl hn).1.symm.trans hb)).ev h hs hl hn
  · exact hB
def newX(X:Cx)(w':World)(k:Nat)(o:AO):Cx:=⟨w',X.F,fun b=>cond (Nat.beq b X.H.length) k (X.ρ b),fun b=>cond (Nat.beq b X.H.length) false (X.gh b),X.H++[o]⟩
def newM(M:Nat→Prop)(k:Nat):Nat→Prop:=fun j=>M j∨j=k
theorem newX_old{w':World}{k:Nat}{o:AO}{b:Nat}(hb:b<X.H.length):(newX X w' k o).H[b]? =X.H[b]? ∧(newX X w' k o).ρ b=X.ρ b∧(newX X w' k o).gh b=X.gh b:=by
 refine⟨List.getElem?_append_left hb,?_,?_⟩<;>simp only[newX,beq_ne (Nat.ne_of_lt hb),cond_false]
theorem newX_new{w':World}{k:Nat}{o:AO}:(newX X w' k o).H[X.H.length]? =some o∧(newX X w' k o).ρ X.H.length=k∧(newX X w' k o).gh X.H.length=false:=by
 refine⟨by simp[newX],?_,?_⟩<;>simp[newX]
theorem lt_of_some{H:Heap}{b:Nat}{o:AO}(h:H[b]? =some o):b<H.length:=(List.getElem?_eq_some_iff.1 h).1
theorem new_ev(hs:Sim X M){w':World}{k:Nat}{o:AO}(E:Ext X.w w')(hk:X.w.heap.size≤k):Ev (fun b=>b∈([]:List Nat)) X M (newX X w' k o) (newM M k) where
 frm:=Ext.frm E
 mn j h:=h.imp id fun e=>by omega
 ff _ h:=h
 fn _ h:= .inl h
 len:=by simp[newX]
 old b hb _:=by
  obtain⟨h1,h2,h3⟩:=newX_old (X:=X) (w':=w') (k:=k) (o:=o) hb
  exact⟨h1,h2,h3,fun hg=>E.blk _ (hs.lt hb hg) id⟩
 arr b T sz xs' hb hx:=by
  obtain⟨h1,h2,h3⟩:=newX_old (X:=X) (w':=w') (k:=k) (o:=o) hb
  rw[h1]at hx
  exact⟨xs',hx,.inr ⟨rfl,h2,h3,fun _ cur hc=>⟨cur,(E.blk _ (At.lt hc) id).trans hc,rfl⟩⟩⟩
 map b es c hb:=by
  obtain⟨h1,h2,h3⟩:=newX_old (X:=X) (w':=w') (k:=k) (o:=o) (lt_of_some hb)
  exact⟨h2,es,c,h1.trans hb⟩
 iter b m n l hb:=by
  obtain⟨h1,h2,h3⟩:=newX_old (X:=X) (w':=w') (k:=k) (o:=o) (lt_of_some hb)
  exact⟨h2,l,h1.trans hb⟩
 nw b hb hg:=by
  by_cases hl:b<X.H.length
  ·obtain⟨_,h2,h3⟩:=newX_old (X:=X) (w':=w') (k:=k) (o:=o) hl
   rw[h3]at hg
   exact .inr ⟨hl,h2,hg⟩
  ·simp only[newX,List.length_append,List.length_singleton]at hb
   obtain rfl:b=X.H.length:=by omega
   rw[newX_new.2.1]
   exact .inl hk
theorem new_sim(hs:Sim X M){w':World}{k:Nat}{o:AO}(E:Ext X.w w')(hk:X.w.heap.size≤k)(hk':k<w'.heap.size)(hB:Blk (newX X w' k o) X.H.length o):Sim (newX X w' k o) (newM M k):=by
 refine hs.step (new_ev hs E hk) ?_ (fun j hj=>Nat.lt_of_lt_of_le (hs.flt j hj) E.size) ?_ ?_ ?_ ?_
 ·rintro j (hj | rfl)
  ·exact Nat.lt_of_lt_of_le (hs.mlt j hj) E.size
  ·exact hk'
 ·rintro j hj (hm | rfl)
  ·exact hs.dj j hj hm
  ·have:=hs.flt _ hj;omega
 ·intro b hb hg
  by_cases hl:b<X.H.length
  ·obtain⟨_,h2,h3⟩:=newX_old (X:=X) (w':=w') (k:=k) (o:=o) hl
   rw[h2];rw[h3]at hg;exact .inl (hs.im b hl hg)
  ·have:b=X.H.length:=by simp[newX]at hb;omega
   subst this
   exact .inr newX_new.2.1
 ·intro b b' hb hb' hg hg' he
  have hlen:(newX X w' k o).H.length=X.H.length+1:=by simp[newX]
  by_cases hl:b<X.H.length<;>by_cases hl':b'<X.H.length
  ·obtain⟨_,h2,h3⟩:=newX_old (X:=X) (w':=w') (k:=k) (o:=o) hl
   obtain⟨_,h2',h3'⟩:=newX_old (X:=X) (w':=w') (k:=k) (o:=o) hl'
   rw[h2,h2']at he;rw[h3]at hg;rw[h3']at hg'
   exact hs.inj b b' hl hl' hg hg' he
  ·have:b'=X.H.length:=by omega
   subst this
   obtain⟨_,h2,h3⟩:=newX_old (X:=X) (w':=w') (k:=k) (o:=o) hl
   rw[h2,newX_new.2.1]at he;rw[h3]at hg
   have:=hs.lt hl hg;omega
  ·have:b=X.H.length:=by omega
   subst this
   obtain⟨_,h2',h3'⟩:=newX_old (X:=X) (w':=w') (k:=k) (o:=o) hl'
   rw[h2',newX_new.2.1]at he;rw[h3']at hg'
   have:=hs.lt hl' hg';omega
  ·omega
 ·intro b o' hb
  by_cases hl:b<X.H.length
  ·exact .inl ⟨hl,by simp⟩
  ·have hlt:=lt_of_some hb
   have:b=X.H.length:=by simp[newX]at hlt;omega
   subst this
   rw[newX_new.1]at hb
   cases hb
   exact .inr hB
def setX(X:Cx)(w':World)(b:Nat)(o:AO):Cx:=⟨w',X.F,X.ρ,X.gh,X.H.set b o⟩
theorem setX_old{w':World}{b b':Nat}{o:AO}(h:b'≠b):(setX X w' b o).H[b']? =X.H[b']? :=by simp[setX,List.getElem?_set,Ne.symm h]
theorem setX_new{w':World}{b:Nat}{o:AO}(h:b<X.H.length):(setX X w' b o).H[b]? =some o:=by simp[setX,h]
theorem set_ev (hs : Sim X M) {b T sz : Nat} {xs xs' : List (List D)} {cur cur' : Array Value} (hb : X.H[b]? = some (.arr T sz xs)) (hg : X.gh b = false) (hl : xs'.length = xs.length ∨ xs.length < xs'.length)
    (hc : X.w.heap[X.ρ b]? = some (.cells cur T (0, 0))) (hsz : cur'.size = cur.size) : Ev (fun k => k ∈ [b]) X M (setX X (setB X.w (X.ρ b) (.cells cur' T (0, 0))) b (.arr T sz xs')) M where
  frm := frm_setB.mono fun k _ e => by subst e; exact hs.im b (lt_of_some hb) hg
  mn _ h := .inl h
  ff _ h := h
  fn _ h := .inl h
  len := by simp [setX]
  old b' hb' hn := by
    have hne : b' ≠ b := by simpa using hn
    refine ⟨setX_old hne, rfl, rfl, fun hg' => getElem_setB_ne fun e => hne ?_⟩
    exact hs.inj b' b hb' (lt_of_some hb) hg' hg e
  arr b' T' sz' xs2 hb' hx := by
    by_cases hne : b' = b
    · subst hne
      rw [setX_new hb'] at hx
      cases hx
      refine ⟨xs, hb, ?_⟩
      rcases hl with hl | hl
      · refine .inr ⟨hl, rfl, rfl, fun _ c hc' => ?_⟩
        rw [hc] at hc'
        cases hc'
        exact ⟨cur', getElem_setB_self hc, hsz⟩
      · exact .inl hl
    · rw [setX_old hne] at hx
      refine ⟨xs2, hx, .inr ⟨rfl, rfl, rfl, fun _ c hc' => ?_⟩⟩
      by_cases he : X.ρ b' = X.ρ b
      · rw [he] at hc' ⊢
        rw [hc] at hc'
        cases hc'
        exact ⟨cur', getElem_setB_self hc, hsz⟩
      · exact ⟨c, (getElem_setB_ne he).trans hc', rfl⟩
  map b' es c hb' := by
    have hne : b' ≠ b := fun e => by subst e; rw [hb] at hb'; cases hb'
    exact ⟨rfl, es, c, (setX_old hne).trans hb'⟩
  iter b' m n l hb' := by
    have hne : b' ≠ b := fun e => by subst e; rw [hb] at hb'; cases hb'
    exact ⟨rfl, l, (setX_old hne).trans hb'⟩
  nw b' hb' hg' := .inr ⟨by simpa [setX] using hb', rfl, hg'⟩
theorem set_sim (hs : Sim X M) {b T sz : Nat} {xs xs' : List (List D)} {cur cur' : Array Value} (hb : X.H[b]? = some (.arr T sz xs)) (hg : X.gh b = false) (hl : xs'.length = xs.length ∨ xs.length < xs'.length)
    (hc : X.w.heap[X.ρ b]? = some (.cells cur T (0, 0))) (hsz : cur'.size = cur.size) (hB : Blk (setX X (setB X.w (X.ρ b) (.cells cur' T (0, 0))) b (.arr T sz xs')) b (.arr T sz xs')) :
    Sim (setX X (setB X.w (X.ρ b) (.cells cur' T (0, 0))) b (.arr T sz xs')) M := by
  have hlen : (setX X (setB X.w (X.ρ b) (.cells cur' T (0, 0))) b (.arr T sz xs')).H.length = X.H.length := by simp [setX]
  refine hs.step (set_ev hs hb hg hl hc hsz) (fun k hk => by rw [show (setX X (setB X.w (X.ρ b) (.cells cur' T (0, 0))) b (.arr T sz xs')).w = setB X.w (X.ρ b) (.cells cur' T (0, 0)) from rfl, size_setB]; exact hs.mlt k hk)
    (fun k hk => by rw [show (setX X (setB X.w (X.ρ b) (.cells cur' T (0, 0))) b (.arr T sz xs')).w = setB X.w (X.ρ b) (.cells cur' T (0, 0)) from rfl, size_setB]; exact hs.flt k hk) hs.dj
    (fun b' hb' hg' => hs.im b' (hlen ▸ hb') hg') (fun b1 b2 h1 h2 g1 g2 => hs.inj b1 b2 (hlen ▸ h1) (hlen ▸ h2) g1 g2) ?_
  intro b' o hb'
  by_cases hne : b' = b
  · subst hne
    rw [setX_new (lt_of_some hb)] at hb'
    cases hb'
    exact .inr hB
  · exact .inl ⟨hlen ▸ lt_of_some hb', by simpa using hne⟩
def regX(X:Cx)(w':World)(b k:Nat)(o:AO):Cx:=⟨w',X.F,fun b'=>cond (Nat.beq b' b) k (X.ρ b'),fun b'=>cond (Nat.beq b' b) false (X.gh b'),X.H.set b o⟩
theorem regX_old{w':World}{b k b':Nat}{o:AO}(h:b'≠b):(regX X w' b k o).H[b']? =X.H[b']? ∧(regX X w' b k o).ρ b'=X.ρ b'∧(regX X w' b k o).gh b'=X.gh b':=by
 refine⟨by simp[regX,List.getElem?_set,Ne.symm h],?_,?_⟩<;>simp only[regX,beq_ne h,cond_false]
theorem regX_new{w':World}{b k:Nat}{o:AO}(h:b<X.H.length):(regX X w' b k o).H[b]? =some o∧(regX X w' b k o).ρ b=k∧(regX X w' b k o).gh b=false:=by
 refine⟨by simp[regX,h],?_,?_⟩<;>simp[regX]
theorem reg_ev(hs:Sim X M){w':World}{k b T sz:Nat}{xs xs':List (List D)}(E:Ext X.w w')(hk:X.w.heap.size≤k)(hb:X.H[b]? =some (.arr T sz xs))(hl:xs.length<xs'.length):Ev (fun k=>k∈[b]) X M (regX X w' b k (.arr T sz xs')) (newM M k) where
 frm:=Ext.frm E
 mn j h:=h.imp id fun e=>by omega
 ff _ h:=h
 fn _ h:= .inl h
 len:=by simp[regX]
 old b' hb' hn:=by
  have hne:b'≠b:=by simpa using hn
  obtain⟨h1,h2,h3⟩:=regX_old (X:=X) (w':=w') (k:=k) (o:= .arr T sz xs') hne
  exact⟨h1,h2,h3,fun hg=>E.blk _ (hs.lt hb' hg) id⟩
 arr b' T' sz' xs2 hb' hx:=by
  by_cases hne:b'=b
  ·subst hne
   rw[(regX_new hb').1]at hx
   cases hx
   exact⟨xs,hb,.inl hl⟩
  ·obtain⟨h1,h2,h3⟩:=regX_old (X:=X) (w':=w') (k:=k) (o:= .arr T sz xs') hne
   rw[h1]at hx
   exact⟨xs2,hx,.inr ⟨rfl,h2,h3,fun _ cur hc=>⟨cur,(E.blk _ (At.lt hc) id).trans hc,rfl⟩⟩⟩
 map b' es c hb':=by
  have hne:b'≠b:=fun e=>by subst e;rw[hb]at hb';cases hb'
  obtain⟨h1,h2,h3⟩:=regX_old (X:=X) (w':=w') (k:=k) (o:= .arr T sz xs') hne
  exact⟨h2,es,c,h1.trans hb'⟩
 iter b' m n l hb':=by
  have hne:b'≠b:=fun e=>by subst e;rw[hb]at hb';cases hb'
  obtain⟨h1,h2,h3⟩:=regX_old (X:=X) (w':=w') (k:=k) (o:= .arr T sz xs') hne
  exact⟨h2,l,h1.trans hb'⟩
 nw b' hb' hg':=by
  by_cases hne:b'=b
  ·subst hne
   rw[(regX_new (lt_of_some hb)).2.1]
   exact .inl hk
  ·obtain⟨_,h2,h3⟩:=regX_old (X:=X) (w':=w') (k:=k) (o:= .arr T sz xs') hne
   rw[h3]at hg'
   exact .inr ⟨by simpa[regX]using hb',h2,hg'⟩
theorem reg_sim (hs : Sim X M) {w' : World} {k b T sz : Nat} {xs xs' : List (List D)} (E : Ext X.w w') (hk : X.w.heap.size ≤ k) (hk' : k < w'.heap.size) (hb : X.H[b]? = some (.arr T sz xs)) (hl : xs.length < xs'.length)
    (hB : Blk (regX X w' b k (.arr T sz xs')) b (.arr T sz xs')) : Sim (regX X w' b k (.arr T sz xs')) (newM M k) := by
  have hlen : (regX X w' b k (.arr T sz xs')).H.length = X.H.length := by simp [regX]
  refine hs.step (reg_ev hs E hk hb hl) ?_ (fun j hj => Nat.lt_of_lt_of_le (hs.flt j hj) E.size) ?_ ?_ ?_ ?_
  · rintro j (hj | rfl)
    · exact Nat.lt_of_lt_of_le (hs.mlt j hj) E.size
    · exact hk'
  · rintro j hj (hm | rfl)
    · exact hs.dj j hj hm
    · have := hs.flt _ hj; omega
  · intro b' hb' hg
    by_cases hne : b' = b
    · subst hne; exact .inr (regX_new (lt_of_some hb)).2.1
    · obtain ⟨_, h2, h3⟩ := regX_old (X := X) (w' := w') (k := k) (o := .arr T sz xs') hne
      rw [h2]; rw [h3] at hg; exact .inl (hs.im b' (hlen ▸ hb') hg)
  · intro b1 b2 h1 h2 g1 g2 he
    by_cases n1 : b1 = b <;> by_cases n2 : b2 = b
    · omega
    · subst n1
      obtain ⟨_, e2, e3⟩ := regX_old (X := X) (w' := w') (k := k) (o := .arr T sz xs') n2
      rw [e2, (regX_new (lt_of_some hb)).2.1] at he; rw [e3] at g2
      have := hs.lt (hlen ▸ h2) g2; omega
    · subst n2
      obtain ⟨_, e2, e3⟩ := regX_old (X := X) (w' := w') (k := k) (o := .arr T sz xs') n1
      rw [e2, (regX_new (lt_of_some hb)).2.1] at he; rw [e3] at g1
      have := hs.lt (hlen ▸ h1) g1; omega
    · obtain ⟨_, e2, e3⟩ := regX_old (X := X) (w' := w') (k := k) (o := .arr T sz xs') n1
      obtain ⟨_, e4, e5⟩ := regX_old (X := X) (w' := w') (k := k) (o := .arr T sz xs') n2
      rw [e2, e4] at he; rw [e3] at g1; rw [e5] at g2
      exact hs.inj b1 b2 (hlen ▸ h1) (hlen ▸ h2) g1 g2 he
  · intro b' o hb'
    by_cases hne : b' = b
    · subst hne
      rw [(regX_new (lt_of_some hb)).1] at hb'
      cases hb'
      exact .inr hB
    · exact .inl ⟨hlen ▸ lt_of_some hb', by simpa using hne⟩
end
section
variable {X : Cx} {M : Nat → Prop}
def ghX(X:Cx)(o:AO):Cx:=⟨X.w,X.F,X.ρ,fun b=>cond (Nat.beq b X.H.length) true (X.gh b),X.H++[o]⟩
theorem ghX_old{o:AO}{b:Nat}(hb:b<X.H.length):(ghX X o).H[b]? =X.H[b]? ∧(ghX X o).gh b=X.gh b:=by
 refine⟨List.getElem?_append_left hb,?_⟩
 simp only[ghX,beq_ne (Nat.ne_of_lt hb),cond_false]
theorem gh_ev{o:AO}{B:Nat→Prop}:Ev B X M (ghX X o) M where
 frm:=Frm.refl _ _
 mn _ h:= .inl h
 ff _ h:=h
 fn _ h:= .inl h
 len:=by simp[ghX]
 old b hb _:=⟨(ghX_old hb).1,rfl,(ghX_old hb).2,fun _=>rfl⟩
 arr b T sz xs' hb hx:=⟨xs',(ghX_old hb).1.symm.trans hx,.inr ⟨rfl,rfl,(ghX_old hb).2,fun _ cur hc=>⟨cur,hc,rfl⟩⟩⟩
 map b es c hb:=⟨rfl,es,c,(ghX_old (lt_of_some hb)).1.trans hb⟩
 iter b m n l hb:=⟨rfl,l,(ghX_old (lt_of_some hb)).1.trans hb⟩
 nw b hb hg:=by
  simp only[ghX,List.length_append,List.length_singleton]at hb hg
  by_cases h:b=X.H.length
  ·subst h;simp at hg
  ·rw[beq_ne h,cond_false]at hg
   exact .inr ⟨by omega,rfl,hg⟩
theorem gh_sim(hs:Sim X M){T sz:Nat}:Sim (ghX X (.arr T sz [])) M:=by
 have hlt:∀{b:Nat},b<(ghX X (.arr T sz [])).H.length→(ghX X (.arr T sz [])).gh b=false→b<X.H.length∧X.gh b=false:=fun{b} hb hg=>by
  simp only[ghX,List.length_append,List.length_singleton]at hb hg
  by_cases h:b=X.H.length
  ·subst h;simp at hg
  ·rw[beq_ne h,cond_false]at hg
   exact⟨by omega,hg⟩
 refine hs.step (gh_ev (B:=fun b=>b∈([]:List Nat))) hs.mlt hs.flt hs.dj (fun b hb hg=>hs.im b (hlt hb hg).1 (hlt hb hg).2) (fun b b' hb hb' hg hg' he=>hs.inj b b' (hlt hb hg).1 (hlt hb' hg').1 (hlt hb hg).2 (hlt hb' hg').2 he) fun b o hb=>?_
 by_cases h:b<X.H.length
 ·exact .inl ⟨h,by simp⟩
 ·have hb':=lt_of_some hb
  simp only[ghX,List.length_append,List.length_singleton]at hb'
  obtain rfl:b=X.H.length:=by omega
  simp[ghX]at hb
  subst hb
  exact .inr (.inl ⟨by simp[ghX],rfl⟩)
theorem rp_gh{T sz:Nat}{a:Option Addr}:Rp (ghX X (.arr T sz [])) (.sl X.H.length 0 0 0) (.slice a 0 0):=by
 refine .sl (by simp[ghX]) fun T' sz' xs hx=>?_
 simp[ghX]at hx
 obtain⟨_,_,rfl⟩:=hx
 exact⟨Nat.le_refl _,fun _=> .inl ⟨rfl,rfl⟩⟩
end
end Go.Ax
namespace Go.Ax
open Go Go.Wx
variable [Globs]
abbrev If(b:Bool)(A B:Prop):Prop:=match b with | true=>A | false=>B
theorem if_{b:Bool}{A B:Prop}(h:b=true→A)(h':b=false→B):If b A B:=by
 cases b
 ·exact h' rfl
 ·exact h rfl
theorem ift{b:Bool}{A B:Prop}(h:b=true)(k:A):If b A B:=by subst h;exact k
theorem iff_{b:Bool}{A B:Prop}(h:b=false)(k:B):If b A B:=by subst h;exact k
theorem If.elim{b:Bool}{A B:Prop}(h:If b A B):b=true∧A∨b=false∧B:=by
 cases b
 ·exact .inr ⟨rfl,h⟩
 ·exact .inl ⟨rfl,h⟩
abbrev Ck(b:Bool)(A:Prop):Prop:=match b with | true=>A | false=>False
theorem ck{b:Bool}{A:Prop}(h:b=true)(k:A):Ck b A:=by subst h;exact k
theorem Ck.t{b:Bool}{A:Prop}(h:Ck b A):b=true∧A:=by
 cases b
 ·exact h.elim
 ·exact⟨rfl,h⟩
abbrev OpK:=D→Heap→List Nat→Prop
def dcells:D→Option (List D)
 | .v x=>some (x.cells.toList.map .v)
 | .agg ds=>some ds
 | .any=>none
 | d=>some [d]
def one:D→Bool
 | .v x=>x.oneCell'
 | .agg _=>false
 | .tup _=>false
 | .any=>false
 | _=>true
def RpL(X:Cx)(ds:List D)(vs:List Value):Prop:=vs.length=ds.length∧∀(j:Nat) d x,ds[j]? =some d→vs[j]? =some x→Rp X d x
section
variable {P : Program} {X X' : Cx} {M M' : Nat → Prop} {e : Nat → D} {H : Heap} {K : OpK} {o : Oper}
theorem Rp.v_inv{x y:Value}(h:Rp X (.v x) y):y=x:=by cases h;rfl
theorem Rp.cells{d:D}{ds:List D}{y:Value}(hd:dcells d=some ds)(h:Rp X d y):RpL X ds y.cells.toList:=by
 have sing:∀{d:D} {y:Value},Rp X d y→RpL X [d] [y]:=fun{d y} h=>⟨rfl,fun j d' x h1 h2=>by
  cases j with
  | zero=>simp at h1 h2;subst h1;subst h2;exact h
  | succ j=>simp at h1⟩
 cases h with
 | v x=>
  cases hd
  refine⟨by simp,fun j d' x' h1 h2=>?_⟩
  rw[List.getElem?_map,h2]at h1
  cases h1;exact .v _
 | any x=>cases hd
 | agg hl hr=>cases hd;exact⟨by simpa[Value.cells]using hl,fun j d x h1 h2=>hr j d x h1 (by simpa[Value.cells]using h2)⟩
 | ptr hb hh=>cases hd;exact sing (.ptr hb hh)
 | sl hb hh=>cases hd;exact sing (.sl hb hh)
 | row vals h1 h2 h3 h4 h5 h6 h7=>cases hd;exact sing (.row vals h1 h2 h3 h4 h5 h6 h7)
 | fp vals h1 h2 h3=>cases hd;exact sing (.fp vals h1 h2 h3)
 | map hb hm=>cases hd;exact sing (.map hb hm)
 | it hb hm=>cases hd;exact sing (.it hb hm)
 | clo hl hr=>cases hd;exact sing (.clo hl hr)
 | tup hl hr=>cases hd;exact sing (.tup hl hr)
 | ifc h=>cases hd;exact sing (.ifc h)
 | fmap h1 h2 h3 h4 h5=>cases hd;exact sing (.fmap h1 h2 h3 h4 h5)
theorem Rp.one{d:D}{y:Value}(h:Rp X d y)(ho:one d=true):y.oneCell'=true:=by
 cases h<;>first | exact ho | rfl | cases ho
theorem RpL.ev{A:Nat→Prop}{ds:List D}{vs:List Value}(h:RpL X ds vs)(E:Ev A X M X' M')(hs:Sim X M):RpL X' ds vs:=⟨h.1,fun j d x h1 h2=>(h.2 j d x h1 h2).ev E hs⟩
theorem RpL.get{ds:List D}{vs:List Value}(h:RpL X ds vs){j:Nat}{d:D}(hd:ds[j]? =some d):∃x,vs[j]? =some x∧Rp X d x:=by
 have hl:=(List.getElem?_eq_some_iff.1 hd).1
 exact⟨vs[j]'(by rw[h.1];exact hl),List.getElem?_eq_getElem _,h.2 j d _ hd (List.getElem?_eq_getElem _)⟩
theorem RpL.nil:RpL X [] []:=⟨rfl,fun _ _ _ h=>by simp at h⟩
theorem RpL.cons{d:D}{y:Value}{ds:List D}{vs:List Value}(h:Rp X d y)(hs:RpL X ds vs):RpL X (d::ds) (y::vs):=by
 refine⟨by simp[hs.1],fun j d' x h1 h2=>?_⟩
 cases j with
 | zero=>simp at h1 h2;subst h1;subst h2;exact h
 | succ j=>exact hs.2 j d' x (by simpa using h1) (by simpa using h2)
theorem RpL.app{ds ds':List D}{vs vs':List Value}(h:RpL X ds vs)(h':RpL X ds' vs'):RpL X (ds++ds') (vs++vs'):=by
 refine⟨by simp[h.1,h'.1],fun j d x h1 h2=>?_⟩
 by_cases hj:j<ds.length
 ·rw[List.getElem?_append_left hj]at h1
  rw[List.getElem?_append_left (by rw[h.1];exact hj)]at h2
  exact h.2 j d x h1 h2
 ·rw[List.getElem?_append_right (by omega)]at h1
  rw[List.getElem?_append_right (by rw[h.1];omega),h.1]at h2
  exact h'.2 _ d x h1 h2
theorem RpL.take{ds:List D}{vs:List Value}(h:RpL X ds vs)(n:Nat):RpL X (ds.take n) (vs.take n):=by
 refine⟨by simp[h.1],fun j d x h1 h2=>?_⟩
 rw[List.getElem?_take]at h1 h2
 split at h1
 ·rename_i hj
  rw[if_pos hj]at h2
  exact h.2 j d x h1 h2
 ·cases h1
theorem RpL.drop{ds:List D}{vs:List Value}(h:RpL X ds vs)(n:Nat):RpL X (ds.drop n) (vs.drop n):=by
 refine⟨by simp[h.1],fun j d x h1 h2=>?_⟩
 rw[List.getElem?_drop]at h1 h2
 exact h.2 _ d x h1 h2
theorem RpL.map{f:Operand→D}{g:Operand→Value}(h:∀x,Rp X (f x) (g x)):∀(l:List Operand),RpL X (l.map f) (l.map g)
 |[]=> .nil
 | x::l=> .cons (h x) (RpL.map h l)
theorem RpL.one{ds:List D}{vs:List Value}(h:RpL X ds vs)(ho:ds.all Ax.one=true):∀u∈vs,u.oneCell'=true:=by
 intro u hu
 obtain⟨j,hj,rfl⟩:=List.getElem_of_mem hu
 have hl:j<ds.length:=by rw[←h.1];exact hj
 exact(h.2 j _ _ (List.getElem?_eq_getElem hl) (List.getElem?_eq_getElem hj)).one (List.all_eq_true.1 ho _ (List.getElem_mem hl))
def AO1(P:Program)(o:Oper)(K:OpK)(e:Nat→D)(H:Heap):Prop:=∀X M ec,Sim X M→X.H=H→Renv X e ec→
 stepE P (execOp (evl ec) o) X.w fun v w'=>∃X' M' d ms,Ev (fun b=>b∈ms) X M X' M'∧Sim X' M'∧X'.w=w'∧Rp X' d v∧K d X'.H ms
def AOP(P:Program)(o:Oper)(K:D→Prop)(e:Nat→D)(H:Heap):Prop:=∃d,K d∧∀X ec,X.H=H→Renv X e ec→∃y,pureRun P (execOp (evl ec) o)=some (.value y)∧Rp X d y
def AOL(P:Program)(o:Oper)(K:D→Option Nat→Prop)(e:Nat→D)(H:Heap):Prop:=∃d ob,K d ob∧(∀b,ob=some b→b<H.length)∧∀X M ec,Sim X M→X.H=H→Renv X e ec→∃y,Rp X d y∧
 ∀B X' M',Ev B X M X' M'→(∀b,ob=some b→¬B b)→(execOp (evl ec) o).run P X'.w= .ok (.value y) X'.w
theorem AOP.mk{K:D→Prop}{d:D}(hK:K d)(h:∀X ec,X.H=H→Renv X e ec→∃y,pureRun P (execOp (evl ec) o)=some (.value y)∧Rp X d y):AOP P o K e H:=⟨d,hK,h⟩
theorem AOP.l{K:D→Option Nat→Prop}(h:AOP P o (fun d=>K d none) e H):AOL P o K e H:=by
 obtain⟨d,hK,h⟩:=h
 refine⟨d,none,hK,fun b hb=>(by cases hb),fun X M ec hs hH he=>?_⟩
 obtain⟨y,hy,hr⟩:=h X ec hH he
 exact⟨y,hr,fun _ X' _ _ _=>pureRun_run P _ hy X'.w⟩
theorem AOL.run1(h:AOL P o (fun d _=>K d H []) e H):AO1 P o K e H:=by
 obtain⟨d,ob,hK,_,h⟩:=h
 intro X M ec hs hH he
 obtain⟨y,hr,hy⟩:=h X M ec hs hH he
 exact stepE_val (hy (fun _=>False) X M (Ev.refl _ _ _) fun _ _=>id) ⟨X,M,d,[],Ev.refl _ _ _,hs,rfl,hr,by rw[hH];exact hK⟩
theorem AOs_step {n : Nat} {A : Nat → Bool} {b0 : Nat} {ops : Array Oper} {L : St → Prop} {rest : List Oper} {s : St} (hw : wantedD ops o s.e = some true) (hd : dstB n o.dst = true)
    (h : AO1 P o (fun d H ms => ms.all A = true ∧ AOs P n A b0 ops L rest ⟨dput s.e o.dst d, H⟩) s.e s.H) : AOs P n A b0 ops L (o :: rest) s := by
  intro X M ec hs hl0 hH he
  refine WO_step (wanted_of he hw) hd (stepE_mono (h X M ec hs hH he) ?_)
  rintro v w' ⟨X', M', d, ms, h1, h2, rfl, h4, hA, h5⟩
  refine WO_conv _ (h5 X' M' (pute ec o.dst v) h2 (Nat.le_trans hl0 h1.len) rfl ((he.ev h1 hs).put h4 _)) ?_
  rintro ec2 w2 ⟨X2, M2, s2, g1, g2, g3, g4, g5, g6⟩
  exact ⟨X2, M2, s2, ((h1.weak fun b _ hb => List.all_eq_true.1 hA b hb).b hl0).trans g1 hs, g2, g3, g4, g5, g6⟩
def nonneg:Int→Bool
 | .ofNat _=>true
 | .negSucc _=>false
theorem nonneg_iff{i:Int}:nonneg i=true↔0≤i:=by cases i<;>simp[nonneg]<;>omega
def kEq(a b:IntKind):Bool:=decide (a=b)
def bS(b:Bool):Option Value:=some (.bool b)
def binI(op:BinOp)(k:IntKind)(a b:Int):Option Value:=
 match op with
 | .add=>some (.int k (k.wrap (a+b)))
 | .sub=>some (.int k (k.wrap (a-b)))
 | .mul=>some (.int k (k.wrap (a*b)))
 | .eql=>bS (a==b)
 | .neq=>bS (a !=b)
 | .lss=>bS (decide (a<b))
 | .leq=>bS (decide (a≤b))
 | .gtr=>bS (decide (a>b))
 | .geq=>bS (decide (a≥b))
 | _=>none
def binS(op:BinOp)(a b:ByteArray):Option Value:=
 match op with
 | .eql=>bS (strEq a b)
 | .neq=>bS (!strEq a b)
 | .lss=>bS (strLt a b)
 | .leq=>bS (strLt a b||strEq a b)
 | .gtr=>bS (!(strLt a b||strEq a b))
 | .geq=>bS (!strLt a b)
 | _=>none
def binR(P:Program)(op:BinOp)(t:TypeId)(x y:Operand)(a b:Value):Option Value:=pureRun P (do eqGuard op t x y a b;binOp op t a b)
abbrev opt(r:Option Value)(K:Value→Prop):Prop:=match r with | some v=>K v | none=>False
theorem opt_some{r:Option Value}{K:Value→Prop}(h:opt r K):∃v,r=some v∧K v:=by
 cases r with
 | none=>exact h.elim
 | some v=>exact⟨v,rfl,h⟩
def dbin(P:Program)(op:BinOp)(t:TypeId)(x y:Operand)(a b:D)(K:Value→Prop):Prop:=
 match a,b with
 | .v (.int k m),.v (.int k' n)=>(match op with
  | .quo=>Ck (kEq k k') (Ck (n !=0) (K (.int k (k.wrap (m.tdiv n)))))
  | .rem=>Ck (kEq k k') (Ck (n !=0) (K (.int k (m.tmod n))))
  | op=>match binI op k m n with
   | some r=>Ck (kEq k k') (K r)
   | none=>opt (binR P op t x y (.int k m) (.int k' n)) K)
 | .v (.string s),.v (.string u)=>(match op with
  | .add=>Ck (Nat.ble (s.size+u.size) 9223372036854775807) (K (.string (s++u)))
  | op=>opt (binS op s u) K)
 | .v p,.v q=>opt (binR P op t x y p q) K
 | _,_=>False
theorem exec_bin{op:BinOp}{t t':TypeId}{x y:Operand}{ec:Env}{r:Value}(ho:o.op= .binOp op t x y t')(h:binR P op t x y (evl ec x) (evl ec y)=some r):pureRun P (execOp (evl ec) o)=some (.value r):=by
 unfold execOp
 simp only[ho]
 rw[pr_bind]
 unfold binR at h
 rw[h];rfl
theorem binR_int{op:BinOp}{t:TypeId}{x y:Operand}{k:IntKind}{m n:Int}{r:Value}(h:binI op k m n=some r):binR P op t x y (.int k m) (.int k n)=some r:=by
 cases op<;>first | (cases h;done) | (cases h;unfold binR;simp[binOp,eqGuard,pr_bind,Op.intArith,Op.intCmp];rfl) | (cases h;unfold binR;simp[binOp,eqGuard,pr_bind,Op.intArith,Op.intCmp,pr_pure])
theorem binR_str{op:BinOp}{t:TypeId}{x y:Operand}{s u:ByteArray}{r:Value}(h:binS op s u=some r):binR P op t x y (.string s) (.string u)=some r:=by
 cases op<;>first | (cases h;done) | (cases h;unfold binR;simp[binOp,eqGuard,pr_bind,Op.stringOp,strEq,strLt];rfl) | (cases h;unfold binR;simp[binOp,eqGuard,pr_bind,Op.stringOp,pr_pure,strEq,strLt])
theorem kEq_eq{k k':IntKind}(h:kEq k k'=true):k=k':=of_decide_eq_true h
theorem dbin_val{op:BinOp}{t:TypeId}{x y:Operand}{a b:D}{K:Value→Prop}(h:dbin P op t x y a b K):∃p q r,a= .v p∧b= .v q∧binR P op t x y p q=some r∧K r:=by
 unfold dbin at h
 split at h
 ·rename_i k m k' n
  split at h
  ·obtain⟨hk,h1⟩:=h.t
   obtain⟨hn,h2⟩:=h1.t
   obtain rfl:=kEq_eq hk
   have hn':n≠0:=by simpa using hn
   exact⟨_,_,_,rfl,rfl,by unfold binR;simp[binOp,eqGuard,pr_bind,Op.intDiv,hn',pr_pure],h2⟩
  ·obtain⟨hk,h1⟩:=h.t
   obtain⟨hn,h2⟩:=h1.t
   obtain rfl:=kEq_eq hk
   have hn':n≠0:=by simpa using hn
   exact⟨_,_,_,rfl,rfl,by unfold binR;simp[binOp,eqGuard,pr_bind,Op.intDiv,hn',pr_pure],h2⟩
  ·split at h
   ·rename_i r hr
    obtain⟨hk,h1⟩:=h.t
    obtain rfl:=kEq_eq hk
    exact⟨_,_,r,rfl,rfl,binR_int hr,h1⟩
   ·obtain⟨r,hr,h⟩:=opt_some h
    exact⟨_,_,r,rfl,rfl,hr,h⟩
 ·rename_i s u
  split at h
  ·obtain⟨hk,h⟩:=h.t
   have hk:=Nat.le_of_ble_eq_true hk
   have hc:¬(((s.size+u.size:Nat):Int)>IntKind.i64.max):=by
    rw[show IntKind.i64.max=9223372036854775807 from rfl];omega
   refine⟨_,_,_,rfl,rfl,?_,h⟩
   unfold binR
   simp only[binOp,eqGuard,pr_bind,Op.stringOp,if_neg hc]
   simp[pr_pure]
  ·obtain⟨r,hr,h⟩:=opt_some h
   exact⟨_,_,r,rfl,rfl,binR_str hr,h⟩
 ·obtain⟨r,hr,h⟩:=opt_some h
  exact⟨_,_,r,rfl,rfl,hr,h⟩
 ·exact h.elim
theorem dbin_ok{op:BinOp}{t t':TypeId}{x y:Operand}(ho:o.op= .binOp op t x y t'){K:D→Prop}(h:dbin P op t x y (dev e x) (dev e y) fun r=>K (.v r)):AOP P o K e H:=by
 obtain⟨p,q,r,hp,hq,hr,h⟩:=dbin_val h
 refine AOP.mk h fun X ec hH he=>⟨r,exec_bin ho ?_,.v r⟩
 have h1:=he.dev x
 have h2:=he.dev y
 rw[hp]at h1;rw[hq]at h2
 rw[h1.v_inv,h2.v_inv];exact hr
end
end Go.Ax
namespace Go.Ax
open Go Go.Wx
variable [Globs]
section
variable {P : Program} {X X' : Cx} {M M' : Nat → Prop} {e : Nat → D} {H : Heap} {K : OpK} {o : Oper}
abbrev ptr?(r:Option D)(K:D→Prop):Prop:=match r with | some v=>K v | none=>False
theorem ptr?_some{r:Option D}{K:D→Prop}(h:ptr? r K):∃v,r=some v∧K v:=by
 cases r with
 | none=>exact h.elim
 | some v=>exact⟨v,rfl,h⟩
theorem exec_val{f:Env→Sem Value}{ec:Env}{v:Value}(ho:execOp (evl ec) o=(do pure (.value (←f ec))))(h:pureRun P (f ec)=some v):pureRun P (execOp (evl ec) o)=some (.value v):=by
 rw[ho,pr_bind,h];rfl
theorem dmove_ok{x:Operand}(ho:o.op= .move x∨o.op= .assign x){K:D→Prop}(h:K (dev e x)):AOP P o K e H:=
 AOP.mk h fun X ec _ he=>⟨_,by unfold execOp;rcases ho with ho | ho<;>rw[ho]<;>rfl,he.dev x⟩
def dpick(c a b:D)(K:D→Prop):Prop:=match c with | .v (.bool t)=>If t (K a) (K b) | _=>False
theorem dpick_ok{c x y:Operand}(ho:o.op= .pick c x y){K:D→Prop}(h:dpick (dev e c) (dev e x) (dev e y) K):AOP P o K e H:=by
 unfold dpick at h
 split at h
 ·rename_i t hc
  have key:∀X ec,Renv X e ec→pureRun P (execOp (evl ec) o)=some (.value (if t then evl ec x else evl ec y)):=fun X ec he=>by
   have h1:=he.dev c
   rw[hc]at h1
   unfold execOp
   simp only[ho,h1.v_inv,asBool]
   rfl
  rcases h.elim with⟨rfl,h⟩ | ⟨rfl,h⟩
  ·exact AOP.mk h fun X ec _ he=>⟨_,key X ec he,he.dev x⟩
  ·exact AOP.mk h fun X ec _ he=>⟨_,key X ec he,he.dev y⟩
 ·exact h.elim
def dun(P:Program)(op:UnOp)(a:D)(K:Value→Prop):Prop:=match a with | .v a=>opt (pureRun P (Op.unary op a)) K | _=>False
theorem dun_ok{op:UnOp}{t:TypeId}{x:Operand}(ho:o.op= .unOp op t x){K:D→Prop}(h:dun P op (dev e x) fun r=>K (.v r)):AOP P o K e H:=by
 unfold dun at h
 split at h
 ·rename_i a ha
  obtain⟨r,hr,h⟩:=opt_some h
  refine AOP.mk h fun X ec _ he=>⟨r,?_,.v r⟩
  have h1:=he.dev x
  rw[ha]at h1
  refine exec_val (f:=fun ec=>Op.unary op (evl ec x)) (by unfold execOp;simp only[ho]) ?_
  rw[h1.v_inv];exact hr
 ·exact h.elim
theorem dextract_ok{x:Operand}{i:Nat}{ds:List D}{d:D}(ho:o.op= .extract x i)(hx:dev e x= .tup ds)(hd:ds[i]? =some d){K:D→Prop}(h:K d):AOP P o K e H:=by
 refine AOP.mk h fun X ec _ he=>?_
 have h1:=he.dev x
 rw[hx]at h1
 generalize hy:evl ec x=y at h1
 cases h1 with
 | tup hl hr=>
  rename_i vs
  have hlt:=(List.getElem?_eq_some_iff.1 hd).1
  have hv:vs[i]? =some (vs[i]'(by omega)):=List.getElem?_eq_getElem _
  refine⟨_,exec_val (f:=fun ec=>Instr.extract (evl ec x) i) (by unfold execOp;simp only[ho]) ?_,hr i d _ hd hv⟩
  rw[hy]
  unfold Instr.extract
  simp only[List.getElem?_toArray,hv]
  rfl
theorem dextractv_ok{x:Operand}{i:Nat}{vs:Array Value}{v:Value}(ho:o.op= .extract x i)(hx:dev e x= .v (.tuple vs))(hd:vs[i]? =some v){K:D→Prop}(h:K (.v v)):AOP P o K e H:=by
 refine AOP.mk h fun X ec _ he=>⟨v,?_,.v v⟩
 have h1:=he.dev x
 rw[hx]at h1
 refine exec_val (f:=fun ec=>Instr.extract (evl ec x) i) (by unfold execOp;simp only[ho]) ?_
 rw[h1.v_inv]
 unfold Instr.extract
 simp only[hd]
 rfl
def dextract(t:D)(i:Nat)(K:D→Prop):Prop:=match t with
 | .tup ds=>ptr? ds[i]? K
 | .v (.tuple vs)=>opt vs[i]? fun v=>K (.v v)
 | _=>False
theorem dextract_ok'{x:Operand}{i:Nat}(ho:o.op= .extract x i){K:D→Prop}(h:dextract (dev e x) i K):AOP P o K e H:=by
 unfold dextract at h
 split at h
 ·obtain⟨d,hd,h⟩:=ptr?_some h
  exact dextract_ok ho (by assumption) hd h
 ·obtain⟨d,hd,h⟩:=opt_some h
  exact dextractv_ok ho (by assumption) hd h
 ·exact h.elim
def dpart(P:Program)(t:TypeId)(ds:List D)(off:Nat):Option D:=match tyk P t with
 | some (true,n)=>some (.agg ((ds.drop off).take n))
 | some (false,_)=>ds[off]?
 | none=>none
theorem pr_isAgg{t:TypeId}{b:Bool}{n:Nat}(h:tyk P t=some (b,n)):pureRun P (isAgg t)=some b∧pureRun P (sizeOf t)=some n:=by
 unfold tyk at h
 unfold isAgg sizeOf underlying typeInfo
 cases hu:P.underlying t with
 | none=>simp[hu]at h
 | some d=>
  cases hi:P.info? t with
  | none=>simp[hu,hi]at h
  | some i=>
   have e1:pureRun P (program>>=fun p=>match p.underlying t with | some d=>Pure.pure d | none=>stuck "no such type")=some d:=by
    rw[pr_bind];simp only[program,pureRun,Option.bind_some,hu];rfl
   cases d<;>simp_all[pr_bind,program,pureRun,pr_pure,Option.bind_some]
theorem pr_part{t off:Nat}{ds:List D}{cs:Array Value}{d:D}(hd:dpart P t ds off=some d)(h:RpL X ds cs.toList):∃v,pureRun P (part t cs off)=some v∧Rp X d v:=by
 unfold dpart at hd
 split at hd
 ·rename_i n ht
  cases hd
  obtain⟨h1,h2⟩:=pr_isAgg ht
  refine⟨.agg (cs.extract off (off+n)),?_,?_⟩
  ·unfold part
   simp only[pr_bind,h1,h2,Option.bind_some,if_true]
   rfl
  ·have:=(h.drop off).take n
   have e:cs.extract off (off+n)=((cs.toList.drop off).take n).toArray:=by
    apply Array.toList_inj.1
    simp[List.extract_eq_take_drop]
   rw[e]
   exact .agg this.1 this.2
 ·rename_i n ht
  obtain⟨h1,h2⟩:=pr_isAgg ht
  obtain⟨v,hv,hr⟩:=h.get hd
  refine⟨v,?_,hr⟩
  unfold part
  simp only[pr_bind,h1,Option.bind_some,if_false,Bool.false_eq_true]
  rw[Array.getElem?_toList]at hv
  simp only[hv]
  rfl
 ·cases hd
def dfield(P:Program)(t:TypeId)(x:D)(f:Nat)(K:D→Prop):Prop:=match P.underlying t with
 | some (.struct fs)=>(match fs.toList[f]? with
  | some fl=>(match x with
   | .agg ds=>ptr? (dpart P fl.type ds fl.offset) K
   | .v (.agg cs)=>ptr? (dpart P fl.type (cs.toList.map .v) fl.offset) K
   | _=>False)
  | none=>False)
 | _=>False
theorem exec_field {t : TypeId} {x : Operand} {f : Nat} {ec : Env} {fs : Array Field} {fl : Field} {cs : Array Value} {v : Value} (ho : o.op = .field t x f) (hu : P.underlying t = some (.struct fs)) (hf : fs.toList[f]? = some fl) (hx : evl ec x = .agg cs)
    (h : pureRun P (part fl.type cs fl.offset) = some v) : pureRun P (execOp (evl ec) o) = some (.value v) := by
  refine exec_val (f := fun ec => Instr.field t (evl ec x) f) (by unfold execOp; simp only [ho]) ?_
  rw [Array.getElem?_toList] at hf
  unfold Instr.field
  rw [hx]
  simp only [pr_bind, pr_underlying hu, Option.bind_some, hf, asAgg, pr_pure, h]
theorem dfield_ok{t:TypeId}{x:Operand}{f:Nat}(ho:o.op= .field t x f){K:D→Prop}(h:dfield P t (dev e x) f K):AOP P o K e H:=by
 unfold dfield at h
 split at h
 case h_2=>exact h.elim
 rename_i fs hu
 split at h
 case h_2=>exact h.elim
 rename_i fl hf
 split at h
 ·rename_i ds hx
  obtain⟨d,hd,h⟩:=ptr?_some h
  refine AOP.mk h fun X ec _ he=>?_
  have h1:=he.dev x
  rw[hx]at h1
  generalize hy:evl ec x=y at h1
  cases h1 with
  | agg hl hr=>
   rename_i vs
   obtain⟨v,hv,hr'⟩:=pr_part (cs:=vs.toArray) hd ⟨hl,hr⟩
   exact⟨v,exec_field ho hu hf hy hv,hr'⟩
 ·rename_i cs hx
  obtain⟨d,hd,h⟩:=ptr?_some h
  refine AOP.mk h fun X ec _ he=>?_
  have h1:=he.dev x
  rw[hx]at h1
  obtain⟨v,hv,hr'⟩:=pr_part (X:=X) (cs:=cs) hd (Rp.cells (y:= .agg cs) rfl (.v (.agg cs)))
  exact⟨v,exec_field ho hu hf h1.v_inv hv,hr'⟩
 ·exact h.elim
def dindexA(P:Program)(t:TypeId)(x j:D)(K:D→Prop):Prop:=match P.underlying t,j with
 | some (.array len el),.v (.int _ j)=>(match tyk P el with
  | some (_,sz)=>Ck (nonneg j&&Nat.blt j.toNat len) (match x with
   | .agg ds=>ptr? (dpart P el ds (j.toNat*sz)) K
   | .v (.agg cs)=>ptr? (dpart P el (cs.toList.map .v) (j.toNat*sz)) K
   | _=>False)
  | none=>False)
 | _,_=>False
def byteAt(s:ByteArray)(j:Nat):Nat:=(s.data.toList.getD j 0).toNat
def dindexS(s:ByteArray)(j:D)(K:Value→Prop):Prop:=match j with
 | .v (.int _ j)=>Ck (nonneg j&&Nat.blt j.toNat s.size) (K (.int .u8 (byteAt s j.toNat)))
 | _=>False
theorem byteAt_eq{s:ByteArray}{j:Nat}(h:j<s.size):(s[j]'h).toNat=byteAt s j:=by
 unfold byteAt
 congr 1
 rw[List.getD_eq_getElem?_getD,List.getElem?_eq_getElem (by simpa using h)]
 rfl
def dindex(P:Program)(t:TypeId)(x j:D)(K:D→Prop):Prop:=match x with
 | .v (.string s)=>Ck (match P.underlying t with | some .string=>true | _=>false) (dindexS s j fun r=>K (.v r))
 | x=>dindexA P t x j K
theorem dindex_ok{t:TypeId}{x j:Operand}(ho:o.op= .index t x j){K:D→Prop}(h:dindex P t (dev e x) (dev e j) K):AOP P o K e H:=by
 have hx:∀ec,execOp (evl ec) o=(do pure (.value (←(fun ec=>Instr.index t (evl ec x) (evl ec j)) ec))):=fun ec=>by unfold execOp;simp only[ho]
 unfold dindex at h
 split at h
 ·rename_i s hs
  obtain⟨hu,h⟩:=h.t
  have hu':P.underlying t=some .string:=by
   split at hu
   ·assumption
   ·cases hu
  unfold dindexS at h
  split at h
  ·rename_i k j' hj
   obtain⟨hb,h⟩:=h.t
   simp only[Bool.and_eq_true,Nat.blt_eq,nonneg_iff]at hb
   refine AOP.mk h fun X ec _ he=>⟨_,exec_val (f:=fun ec=>Instr.index t (evl ec x) (evl ec j)) (hx ec) ?_,.v _⟩
   have h1:=he.dev x
   have h2:=he.dev j
   rw[hs]at h1;rw[hj]at h2
   have hlt:j'.toNat<s.size:=hb.2
   unfold Instr.index
   rw[h1.v_inv,h2.v_inv]
   simp only[asIntOf,pr_bind,pr_pure,Option.bind_some,pr_underlying hu',if_pos hb.1]
   rw[getElem?_pos s _ hlt,←byteAt_eq hlt]
   rfl
  ·exact h.elim
 ·unfold dindexA at h
  split at h
  case h_2=>exact h.elim
  rename_i len el k j' hu hj
  split at h
  case h_2=>exact h.elim
  rename_i g sz ht
  obtain⟨hb,h⟩:=h.t
  simp only[Bool.and_eq_true,Nat.blt_eq,nonneg_iff]at hb
  have key:∀{X:Cx} {ec:Env} {cs:Array Value} {v:Value},Renv X e ec→evl ec x= .agg cs→pureRun P (part el cs (j'.toNat*sz))=some v→pureRun P (execOp (evl ec) o)=some (.value v):=by
   intro X ec cs v he hcs hv
   refine exec_val (f:=fun ec=>Instr.index t (evl ec x) (evl ec j)) (hx ec) ?_
   have h2:=he.dev j
   rw[hj]at h2
   unfold Instr.index
   rw[hcs,h2.v_inv]
   simp only[asIntOf,pr_bind,pr_pure,Option.bind_some,pr_underlying hu,if_pos (show 0≤j'∧j'<(len:Int) by omega),(pr_isAgg ht).2,hv]
  split at h
  ·rename_i ds hxx
   obtain⟨d,hd,h⟩:=ptr?_some h
   refine AOP.mk h fun X ec _ he=>?_
   have h1:=he.dev x
   rw[hxx]at h1
   generalize hy:evl ec x=y at h1
   cases h1 with
   | agg hl hr=>
    rename_i vs
    obtain⟨v,hv,hr'⟩:=pr_part (cs:=vs.toArray) hd ⟨hl,hr⟩
    exact⟨v,key he hy hv,hr'⟩
  ·rename_i cs hxx
   obtain⟨d,hd,h⟩:=ptr?_some h
   refine AOP.mk h fun X ec _ he=>?_
   have h1:=he.dev x
   rw[hxx]at h1
   obtain⟨v,hv,hr'⟩:=pr_part (X:=X) (cs:=cs) hd (Rp.cells (y:= .agg cs) rfl (.v (.agg cs)))
   exact⟨v,key he h1.v_inv hv,hr'⟩
  ·exact h.elim
end
end Go.Ax
namespace Go.Ax
open Go Go.Wx
variable [Globs]
section
variable {P : Program} {X X' : Cx} {M M' : Nat → Prop} {e : Nat → D} {H : Heap} {K : OpK} {o : Oper}
abbrev datarr(H:Heap)(b:Nat)(K:Nat→Nat→List (List D)→Prop):Prop:=match H[b]? with | some (.arr T sz xs)=>K T sz xs | _=>False
theorem datarr_some{b:Nat}{K:Nat→Nat→List (List D)→Prop}(h:datarr H b K):∃T sz xs,H[b]? =some (.arr T sz xs)∧K T sz xs:=by
 unfold datarr at h
 split at h
 ·exact⟨_,_,_,by assumption,h⟩
 ·exact h.elim
theorem datarr_at{b T sz:Nat}{xs:List (List D)}{K:Nat→Nat→List (List D)→Prop}(h:H[b]? =some (.arr T sz xs))(k:K T sz xs):datarr H b K:=by unfold datarr;rw[h];exact k
abbrev lst(r:Option (List D))(K:List D→Prop):Prop:=match r with | some v=>K v | none=>False
theorem lst_some{r:Option (List D)}{K:List D→Prop}(h:lst r K):∃v,r=some v∧K v:=by
 cases r with
 | none=>exact h.elim
 | some v=>exact⟨v,rfl,h⟩
theorem lst_at{r:Option (List D)}{ds:List D}{K:List D→Prop}(h:r=some ds)(k:K ds):lst r K:=by subst h;exact k
theorem choose_lt'{n:Nat}{p:Nat→Value→Prop}(h:∀i,i<n→∃x,p i x):∃f:Nat→Value,∀i,i<n→p i (f i):=
 ⟨fun i=>if hi:i<n then Classical.choose (h i hi)else undef,fun i hi=>by simp only[dif_pos hi];exact Classical.choose_spec (h i hi)⟩
def dread(P:Program)(t:TypeId)(ds:List D):Option D:=match tyk P t with
 | some (true,n)=>cond (Nat.ble n ds.length) (some (.agg (ds.take n))) none
 | some (false,_)=>ds.head?
 | none=>none
theorem run_read {t : TypeId} {ds : List D} {d : D} (hd : dread P t ds = some d) {w : World} {a : Addr} (h : ∀ j d, ds[j]? = some d → ∃ x, w.cell? (a.add j) = some x ∧ Rp X d x) :
    ∃ y, (∀ w', (∀ j x, j < ds.length → w.cell? (a.add j) = some x → w'.cell? (a.add j) = some x) → (loadVar t a).run P w' = .ok y w') ∧ Rp X d y := by
  unfold dread at hd
  split at hd
  · rename_i n ht
    cases hl : Nat.ble n ds.length with
    | false => rw [hl] at hd; cases hd
    | true =>
      rw [hl] at hd
      cases hd
      have hn := Nat.le_of_ble_eq_true hl
      have each : ∀ i, i < n → ∃ x, w.cell? (a.add i) = some x ∧ ∀ d, ds[i]? = some d → Rp X d x := fun i hi => by
        obtain ⟨x, hx, hr⟩ := h i _ (List.getElem?_eq_getElem (by omega))
        exact ⟨x, hx, fun d hd => by rw [List.getElem?_eq_getElem (by omega)] at hd; cases hd; exact hr⟩
      obtain ⟨f, hf⟩ := choose_lt' each
      refine ⟨.agg ((List.range n).map f).toArray, fun w' hw => run_loadVarN ht (by simp) fun i v hv => ?_, .agg (by simp; omega) fun j d x h1 h2 => ?_⟩
      · rw [List.getElem?_map, Option.map_eq_some_iff] at hv
        obtain ⟨j, hj, rfl⟩ := hv
        obtain ⟨h1, h2⟩ := List.getElem?_eq_some_iff.1 hj
        rw [List.length_range] at h1
        rw [List.getElem_range] at h2
        subst h2
        exact hw i _ (by omega) (hf i h1).1
      · rw [List.getElem?_map, Option.map_eq_some_iff] at h2
        obtain ⟨k, hk, rfl⟩ := h2
        obtain ⟨g1, g2⟩ := List.getElem?_eq_some_iff.1 hk
        rw [List.length_range] at g1
        rw [List.getElem_range] at g2
        subst g2
        rw [List.getElem?_take_of_lt g1] at h1
        exact (hf j g1).2 d h1
  · rename_i n ht
    cases ds with
    | nil => cases hd
    | cons d' ds =>
      cases hd
      obtain ⟨x, hx, hr⟩ := h 0 _ rfl
      exact ⟨x, fun w' hw => run_loadVar1 ht (hw 0 x (by simp) hx), hr⟩
  · cases hd
theorem exec_load{t:TypeId}{x:Operand}{ec:Env}{w:World}{a:Addr}{y:Value}(ho:o.op= .load t x)(hx:evl ec x= .pointer (some a))(h:(loadVar t a).run P w= .ok y w):(execOp (evl ec) o).run P w= .ok (.value y) w:=ex_load ho hx h
theorem Sim.cell (hs : Sim X M) {b T sz i j : Nat} {xs : List (List D)} {ds : List D} {d : D} (hb : X.H[b]? = some (.arr T sz xs)) (hi : xs[i]? = some ds) (hj : ds[j]? = some d) :
    X.gh b = false ∧ ∃ cur x, X.w.heap[X.ρ b]? = some (.cells cur T (0, 0)) ∧ xs.length * sz ≤ cur.size ∧ ds.length = sz ∧ cur[i * sz + j]? = some x ∧ x.oneCell' = true ∧ Rp X d x := by
  rcases hs.blk b _ hb with ⟨_, rfl⟩ | ⟨hg, cur, hc, hl, hz, hv⟩
  · simp at hi
  · obtain ⟨x, hx, ho, hr⟩ := hv i j d (at2_some.2 ⟨ds, hi, hj⟩)
    exact ⟨hg, cur, x, hc, hl, hz ds (List.mem_of_getElem? hi), hx, ho, hr⟩
def dload(P:Program)(t:TypeId)(x:D)(H:Heap)(K:D→Option Nat→Prop):Prop:=match x with
 | .fp ds=>ptr? (dread P t ds) fun d=>K d none
 | .ptr b i o h=>datarr H b fun _ _ xs=>Ck (Nat.beq xs.length h) (lst xs[i]? fun ds=>ptr? (dread P t (ds.drop o)) fun d=>K d (some b))
 | _=>False
theorem add_mk(b o n:Nat):(⟨b,o,none⟩:Addr).add n=⟨b,o+n,none⟩:=Addr_add_none b o n
theorem dload_ok{t:TypeId}{x:Operand}(ho:o.op= .load t x){K:D→Option Nat→Prop}(h:dload P t (dev e x) H K):AOL P o K e H:=by
 unfold dload at h
 split at h
 ·rename_i ds hx
  obtain⟨d,hd,h⟩:=ptr?_some h
  refine⟨d,none,h,fun b hb=>(by cases hb),fun X M ec hs hH he=>?_⟩
  have h1:=he.dev x
  rw[hx]at h1
  generalize hy:evl ec x=y at h1
  cases h1 with
  | fp vals hF hc hr=>
   obtain⟨y,hl,hr'⟩:=run_read (w:=X.w) hd fun j d hj=>⟨_,(hc j d hj).1,hr j d hj⟩
   refine⟨y,hr',fun B X' M' E _=>exec_load ho hy (hl X'.w fun j x hj hx=>cell_frm hx E.frm ?_)⟩
   rw[add_block];exact hs.dj _ hF
 ·rename_i b i off hh hx
  obtain⟨T,sz,xs,hb,h⟩:=datarr_some h
  obtain⟨hl,h⟩:=h.t
  obtain⟨ds,hi,h⟩:=lst_some h
  obtain⟨d,hd,h⟩:=ptr?_some h
  have hl:=Nat.eq_of_beq_eq_true hl
  refine⟨d,some b,h,fun b' hb'=>(by cases hb';exact lt_of_some hb),fun X M ec hs hH he=>?_⟩
  have h1:=he.dev x
  rw[hx]at h1
  generalize hy:evl ec x=y at h1
  subst hH
  cases h1 with
  | ptr hb' hh'=>
   obtain⟨_,h2⟩:=hh' T sz xs hb
   obtain⟨hg,rfl⟩:=h2 hl
   obtain⟨y,hl,hr'⟩:=run_read (X:=X) (w:=X.w) (a:=⟨X.ρ b,i*sz+off,none⟩) hd fun j d hj=>by
    rw[List.getElem?_drop]at hj
    obtain⟨_,cur,x,hc,_,_,hx,_,hr⟩:=hs.cell hb hi hj
    refine⟨x,?_,hr⟩
    rw[add_mk,Nat.add_assoc]
    exact cell_blk hc hx
   refine⟨y,hr',fun B X' M' E hn=>exec_load ho hy (hl X'.w fun j x hj hx=>?_)⟩
   have:=(E.old b hb' (hn b rfl)).2.2.2 hg
   rw[add_mk]at hx ⊢
   exact(World.cell?_of_block (a:=⟨X.ρ b,i*sz+off+j,none⟩) this).trans hx
 ·exact h.elim
def putL(ds:List D)(o:Nat)(us:List D):List D:=ds.take o++(us++ds.drop (o+us.length))
theorem putL_len{ds us:List D}{o:Nat}(h:o+us.length≤ds.length):(putL ds o us).length=ds.length:=by simp[putL];omega
theorem putL_get{ds us:List D}{o j:Nat}(h:o+us.length≤ds.length):(putL ds o us)[j]? =if o≤j∧j<o+us.length then us[j-o]? else ds[j]? :=by
 unfold putL
 have hl:(ds.take o).length=o:=by simp;omega
 by_cases h1:j<o
 ·rw[List.getElem?_append_left (by omega),List.getElem?_take_of_lt h1,if_neg (by omega)]
 ·rw[List.getElem?_append_right (by omega),hl]
  by_cases h2:j<o+us.length
  ·rw[List.getElem?_append_left (by omega),if_pos (by omega)]
  ·rw[List.getElem?_append_right (by omega),List.getElem?_drop,if_neg (by omega)]
   congr 1;omega
theorem store_step (hs : Sim X M) {b T sz i o : Nat} {xs : List (List D)} {ds us : List D} {vs : List Value} (hb : X.H[b]? = some (.arr T sz xs)) (hi : xs[i]? = some ds) (ho : o + us.length ≤ ds.length) (hu : RpL X us vs) (h1 : ∀ u ∈ vs, u.oneCell' = true) :
    X.gh b = false ∧ ∃ cur, X.w.heap[X.ρ b]? = some (.cells cur T (0, 0)) ∧ i * sz + o + vs.length ≤ cur.size ∧
      Ev (fun k => k ∈ [b]) X M (setX X (setB X.w (X.ρ b) (.cells (putAt cur (i * sz + o) vs) T (0, 0))) b (.arr T sz (xs.set i (putL ds o us)))) M ∧
      Sim (setX X (setB X.w (X.ρ b) (.cells (putAt cur (i * sz + o) vs) T (0, 0))) b (.arr T sz (xs.set i (putL ds o us)))) M := by
  rcases hs.blk b _ hb with ⟨_, rfl⟩ | ⟨hg, cur, hc, hl, hz, hv⟩
  · simp at hi
  have hlt := (List.getElem?_eq_some_iff.1 hi).1
  have hsz := hz ds (List.mem_of_getElem? hi)
  have hfit : i * sz + o + vs.length ≤ cur.size := by
    have : (i + 1) * sz ≤ xs.length * sz := Nat.mul_le_mul_right _ hlt
    rw [Nat.succ_mul] at this
    have := hu.1
    omega
  have E := set_ev (xs' := xs.set i (putL ds o us)) (cur' := putAt cur (i * sz + o) vs) hs hb hg (.inl (by simp)) hc (size_putAt _ _ _)
  refine ⟨hg, cur, hc, hfit, E, set_sim hs hb hg (.inl (by simp)) hc (size_putAt _ _ _) (.inr ⟨hg, _, getElem_setB_self hc, by rw [size_putAt]; simpa using hl, fun ds' hd' => ?_, fun i' j' d hd => ?_⟩)⟩
  · rcases List.mem_or_eq_of_mem_set hd' with h | h
    · exact hz ds' h
    · rw [h, putL_len ho, hsz]
  · obtain ⟨ds', hi', hj'⟩ := at2_some.1 hd
    have hj'l : j' < sz := by
      have hl' := (List.getElem?_eq_some_iff.1 hj').1
      rcases List.mem_or_eq_of_mem_set (List.mem_of_getElem? hi') with h | h
      · rw [hz ds' h] at hl'; exact hl'
      · rw [h, putL_len ho, hsz] at hl'; exact hl'
    rw [get_putAt _ _ _ _ hfit]
    by_cases hii : i' = i
    · subst hii
      rw [List.getElem?_set_self hlt] at hi'
      cases hi'
      rw [putL_get ho] at hj'
      by_cases hr : o ≤ j' ∧ j' < o + us.length
      · rw [if_pos hr] at hj'
        rw [if_pos (by have := hu.1; omega), show i' * sz + j' - (i' * sz + o) = j' - o by omega]
        obtain ⟨x, hx, hr'⟩ := hu.get hj'
        exact ⟨x, hx, h1 x (List.mem_of_getElem? hx), hr'.ev E hs⟩
      · rw [if_neg hr] at hj'
        rw [if_neg (by have := hu.1; omega)]
        obtain ⟨x, hx, ho', hr'⟩ := hv i' j' d (at2_some.2 ⟨ds, hi, hj'⟩)
        exact ⟨x, hx, ho', hr'.ev E hs⟩
    · rw [List.getElem?_set_ne (Ne.symm hii)] at hi'
      obtain ⟨x, hx, ho', hr'⟩ := hv i' j' d (at2_some.2 ⟨ds', hi', hj'⟩)
      rw [if_neg ?_]
      · exact ⟨x, hx, ho', hr'.ev E hs⟩
      · have := hu.1
        rcases Nat.lt_or_gt_of_ne hii with h | h
        · have : (i' + 1) * sz ≤ i * sz := Nat.mul_le_mul_right _ h
          rw [Nat.succ_mul] at this
          omega
        · have : (i + 1) * sz ≤ i' * sz := Nat.mul_le_mul_right _ h
          rw [Nat.succ_mul] at this
          omega
def dstore (P : Program) (t : TypeId) (x y : D) (H : Heap) (K : OpK) : Prop := match x with
  | .ptr b i o h => datarr H b fun T sz xs => Ck (Nat.beq xs.length h) (lst xs[i]? fun ds => lst (dcells y) fun us =>
      Ck (us.all one && (Nat.ble (o + us.length) ds.length && (match tyk P t with | some (_, n) => Nat.beq us.length n | none => false))) (K (.v undef) (H.set b (.arr T sz (xs.set i (putL ds o us)))) [b]))
  | _ => False
theorem dstore_ok{t:TypeId}{x y:Operand}(ho:o.op= .store t x y)(h:dstore P t (dev e x) (dev e y) H K):AO1 P o K e H:=by
 unfold dstore at h
 split at h
 case h_2=>exact h.elim
 rename_i b i off hh hx
 obtain⟨T,sz,xs,hb,h⟩:=datarr_some h
 obtain⟨hl,h⟩:=h.t
 obtain⟨ds,hi,h⟩:=lst_some h
 obtain⟨us,hus,h⟩:=lst_some h
 obtain⟨hc,h⟩:=h.t
 simp only[Bool.and_eq_true]at hc
 obtain⟨hone,hle,hty⟩:=hc
 have hl:=Nat.eq_of_beq_eq_true hl
 have hle:=Nat.le_of_ble_eq_true hle
 split at hty
 case h_2=>cases hty
 rename_i g n ht
 have hn:=Nat.eq_of_beq_eq_true hty
 intro X M ec hs hH he
 subst hH
 have h1:=he.dev x
 rw[hx]at h1
 have hu:=(he.dev y).cells hus
 generalize hy:evl ec x=y' at h1
 cases h1 with
 | ptr hb' hh'=>
  obtain⟨_,h2⟩:=hh' T sz xs hb
  obtain⟨_,rfl⟩:=h2 hl
  have h1c:=hu.one hone
  obtain⟨hg,cur,hcur,hfit,E,S⟩:=store_step hs hb hi hle hu h1c
  refine stepE_skip (ex_store ht ho hy rfl hcur rfl (by rw[hu.1];exact hn) hfit h1c) ⟨_,M,_,[b],E,S,rfl,.v _,h⟩
def fieldOff(P:Program)(s:TypeId)(f:Nat):Option Nat:=match P.underlying s with
 | some (.struct fs)=>(match fs.toList[f]? with
  | some fl=>(match tyk P fl.type with | some (_,0)=>none | some _=>some fl.offset | none=>none)
  | none=>none)
 | _=>none
theorem fieldOff_run{s:TypeId}{f off:Nat}(h:fieldOff P s f=some off)(a:Addr):pureRun P (Instr.fieldAt s (.pointer (some a)) f)=some (.pointer (some (a.add off))):=by
 unfold fieldOff at h
 split at h
 case h_2=>cases h
 rename_i fs hu
 split at h
 case h_2=>cases h
 rename_i fl hf
 rw[Array.getElem?_toList]at hf
 split at h
 ·cases h
 ·rename_i gn hn0 ht
  cases h
  obtain⟨g,n⟩:=gn
  have hn:n≠0:=fun e=>hn0 g (by rw[e])
  unfold Instr.fieldAt
  simp only[pr_bind,pr_underlying hu,Option.bind_some,hf,Instr.sureAddr,pr_pure,fieldPlace,(pr_isAgg ht).2,if_neg hn]
 ·cases h
theorem dev_ptr {x : Operand} {ec : Env} (he : Renv X e ec) {b i off h T sz : Nat} {xs : List (List D)} (hx : dev e x = .ptr b i off h) (hb : X.H[b]? = some (.arr T sz xs)) (hl : xs.length = h) :
    X.gh b = false ∧ evl ec x = .pointer (some ⟨X.ρ b, i * sz + off, none⟩) := by
  have h1 := he.dev x
  rw [hx] at h1
  generalize hy : evl ec x = y at h1
  cases h1 with
  | ptr hb' hh =>
    obtain ⟨_, h2⟩ := hh T sz xs hb
    obtain ⟨hg, rfl⟩ := h2 hl
    exact ⟨hg, rfl⟩
theorem dev_fp{x:Operand}{ec:Env}(he:Renv X e ec){ds:List D}(hx:dev e x= .fp ds):∃(a:Addr) (vals:Nat→Value),evl ec x= .pointer (some a)∧X.F a.block∧(∀j d,ds[j]? =some d→X.w.cell? (a.add j)=some (vals j)∧(vals j).oneCell'=true)∧∀j d,ds[j]? =some d→Rp X d (vals j):=by
 have h1:=he.dev x
 rw[hx]at h1
 generalize hy:evl ec x=y at h1
 cases h1 with
 | fp vals hF hc hr=>exact⟨_,vals,rfl,hF,hc,hr⟩
theorem Rp.fp_drop {a : Addr} {ds : List D} {vals : Nat → Value} (hF : X.F a.block) (hc : ∀ j d, ds[j]? = some d → X.w.cell? (a.add j) = some (vals j) ∧ (vals j).oneCell' = true) (hr : ∀ j d, ds[j]? = some d → Rp X d (vals j)) (n : Nat) :
    Rp X (.fp (ds.drop n)) (.pointer (some (a.add n))) := by
  refine .fp (fun j => vals (n + j)) (by rw [add_block]; exact hF) (fun j d hd => ?_) fun j d hd => ?_
  · rw [List.getElem?_drop] at hd
    rw [add_add]; exact hc _ d hd
  · rw [List.getElem?_drop] at hd
    exact hr _ d hd
def dfieldAddr(P:Program)(s:TypeId)(x:D)(f:Nat)(H:Heap)(K:D→Prop):Prop:=match fieldOff P s f with
 | some off=>(match x with
  | .fp ds=>K (.fp (ds.drop off))
  | .ptr b i o h=>datarr H b fun _ _ xs=>Ck (Nat.beq xs.length h) (K (.ptr b i (o+off) h))
  | _=>False)
 | none=>False
theorem dfieldAddr_ok{s:TypeId}{x:Operand}{f:Nat}(ho:o.op= .fieldAddr s x f){K:D→Prop}(h:dfieldAddr P s (dev e x) f H K):AOP P o K e H:=by
 have hx:∀ec,execOp (evl ec) o=(do pure (.value (←(fun ec=>Instr.fieldAt s (evl ec x) f) ec))):=fun ec=>by unfold execOp;simp only[ho]
 unfold dfieldAddr at h
 split at h
 case h_2=>exact h.elim
 rename_i off hoff
 split at h
 ·rename_i ds hxx
  refine AOP.mk h fun X ec _ he=>?_
  obtain⟨a,vals,hy,hF,hc,hr⟩:=dev_fp he hxx
  exact⟨_,exec_val (f:=fun ec=>Instr.fieldAt s (evl ec x) f) (hx ec) (by rw[hy];exact fieldOff_run hoff a),Rp.fp_drop hF hc hr off⟩
 ·rename_i b i o' hh hxx
  obtain⟨T,sz,xs,hb,h⟩:=datarr_some h
  obtain⟨hl,h⟩:=h.t
  have hl:=Nat.eq_of_beq_eq_true hl
  refine AOP.mk h fun X ec hH he=>?_
  subst hH
  obtain⟨hg,hy⟩:=dev_ptr he hxx hb hl
  refine⟨_,exec_val (f:=fun ec=>Instr.fieldAt s (evl ec x) f) (hx ec) (by rw[hy];exact fieldOff_run hoff _),?_⟩
  rw[add_mk,Nat.add_assoc]
  refine .ptr (lt_of_some hb) fun T' sz' xs' hb'=>?_
  rw[hb]at hb'
  cases hb'
  exact⟨by omega,fun _=>⟨hg,rfl⟩⟩
 ·exact h.elim
theorem dev_row {x : Operand} {ec : Env} (he : Renv X e ec) {cl : Bool} {xs : List (List D)} (hx : dev e x = .row cl xs) : ∃ (a : Option Addr) (c sz : Nat) (vals : Nat → Nat → Value), evl ec x = .slice a xs.length c ∧ (cl = true → c = xs.length) ∧ (xs.length ≤ c ∧ xs.length ≤ maxLen) ∧ (∀ ds ∈ xs, ds.length = sz) ∧ (a = none → xs = []) ∧ (∀ a0, a = some a0 → xs ≠ [] → X.F a0.block) ∧
    (∀ a0 i j d, a = some a0 → at2 xs i j = some d → X.w.cell? (a0.add (i * sz + j)) = some (vals i j) ∧ (vals i j).oneCell' = true) ∧ ∀ i j d, at2 xs i j = some d → Rp X d (vals i j) := by
  have h1 := he.dev x
  rw [hx] at h1
  generalize hy : evl ec x = y at h1
  cases h1 with
  | row vals h1 h2 h3 h4 h5 h6 h7 => exact ⟨_, _, _, vals, rfl, h1, h2, h3, h4, h5, h6, h7⟩
theorem dev_sl {x : Operand} {ec : Env} (he : Renv X e ec) {b i n h T sz : Nat} {xs : List (List D)} (hx : dev e x = .sl b i n h) (hb : X.H[b]? = some (.arr T sz xs)) (hl : xs.length = h) :
    ∃ a c, evl ec x = .slice a n c ∧ (n = 0 ∧ c = 0 ∨ X.gh b = false ∧ a = some ⟨X.ρ b, i * sz, none⟩ ∧ n ≤ c ∧ c ≤ maxLen ∧ ∃ cur, X.w.heap[X.ρ b]? = some (.cells cur T (0, 0)) ∧ (i + c) * sz ≤ cur.size) := by
  have h1 := he.dev x
  rw [hx] at h1
  generalize hy : evl ec x = y at h1
  cases h1 with
  | sl hb' hh =>
    obtain ⟨_, h2⟩ := hh T sz xs hb
    exact ⟨_, _, rfl, h2 hl⟩
def ixl(xs:List (List D))(i n:Nat)(j:Int):Option (List D):=cond (nonneg j) (cond (Nat.blt j.toNat n) xs[i+j.toNat]? none) none
theorem ixl_some{xs:List (List D)}{i n:Nat}{j:Int}{ds:List D}:ixl xs i n j=some ds↔0≤j∧j.toNat<n∧xs[i+j.toNat]? =some ds:=by
 unfold ixl
 rw[←nonneg_iff]
 cases nonneg j<;>simp
 cases hb:Nat.blt j.toNat n
 ·simp
  intro h
  have:¬j.toNat<n:=by rw[←Nat.blt_eq,hb];simp
  omega
 ·simp[Nat.blt_eq]at hb ⊢;omega
theorem ixl_at{xs:List (List D)}{k:Nat}{ds:List D}(h:xs[k]? =some ds):ixl xs 0 xs.length (k:Int)=some ds:=ixl_some.2 ⟨by omega,by simpa using (List.getElem?_eq_some_iff.1 h).1,by simpa using h⟩
def dindexAddr(P:Program)(t:TypeId)(x j:D)(H:Heap)(K:D→Prop):Prop:=match slk P t,j with
 | some (_,sz),.v (.int _ j)=>(match x with
  | .row _ xs=>lst (ixl xs 0 xs.length j) fun ds=>Ck (Nat.beq ds.length sz) (K (.fp ds))
  | .sl b i n h=>datarr H b fun _ sz' xs=>Ck (Nat.beq xs.length h&&Nat.beq sz sz') (lst (ixl xs i n j) fun _=>K (.ptr b (i+j.toNat) 0 h))
  | _=>False)
 | _,_=>False
theorem exec_indexAddr {t el sz : Nat} {x y : Operand} {ec : Env} {a : Addr} {n c : Nat} {k : IntKind} {i : Int} (ht : slk P t = some (el, sz)) (ho : o.op = .indexAddr t x y) (hx : evl ec x = .slice (some a) n c) (hy : evl ec y = .int k i) (h0 : 0 ≤ i) (hn : i < n) :
    pureRun P (execOp (evl ec) o) = some (.value (.pointer (some (a.add (i.toNat * sz))))) := ex_index ht ho hx hy h0 hn
theorem dindexAddr_ok{t:TypeId}{x y:Operand}(ho:o.op= .indexAddr t x y){K:D→Prop}(h:dindexAddr P t (dev e x) (dev e y) H K):AOP P o K e H:=by
 unfold dindexAddr at h
 split at h
 case h_2=>exact h.elim
 rename_i el sz k j hsl hj
 have hjc:∀{X:Cx} {ec:Env},Renv X e ec→evl ec y= .int k j:=fun he=>by
  have h2:=he.dev y
  rw[hj]at h2
  exact h2.v_inv
 split at h
 ·rename_i cl xs hx
  obtain⟨ds,hi,h⟩:=lst_some h
  obtain⟨hz,h⟩:=h.t
  have hz:=Nat.eq_of_beq_eq_true hz
  obtain⟨g0,g1,g2⟩:=ixl_some.1 hi
  rw[Nat.zero_add]at g2
  refine AOP.mk h fun X ec _ he=>?_
  obtain⟨a,c,sz',vals,hy,_,_,hs,hn,hF,hc,hr⟩:=dev_row he hx
  have hne:xs≠[]:=fun e=>by rw[e]at g2;simp at g2
  cases a with
  | none=>exact absurd (hn rfl) hne
  | some a0=>
   have:sz'=sz:=by rw[←hs ds (List.mem_of_getElem? g2),hz]
   subst this
   refine⟨_,exec_indexAddr hsl ho hy (hjc he) g0 (by omega),.fp (fun q=>vals j.toNat q) (by rw[add_block];exact hF a0 rfl hne) (fun q d hd=>?_) fun q d hd=>hr _ _ d (at2_some.2 ⟨ds,g2,hd⟩)⟩
   rw[add_add]
   exact hc a0 _ _ d rfl (at2_some.2 ⟨ds,g2,hd⟩)
 ·rename_i b i n hh hx
  obtain⟨T,sz',xs,hb,h⟩:=datarr_some h
  obtain⟨hl,h1⟩:=h.t
  simp only[Bool.and_eq_true]at hl
  obtain⟨hl,hz⟩:=hl
  have hl:=Nat.eq_of_beq_eq_true hl
  have hz:=Nat.eq_of_beq_eq_true hz
  subst hz
  obtain⟨ds,hi,h⟩:=lst_some h1
  obtain⟨g0,g1,g2⟩:=ixl_some.1 hi
  refine AOP.mk h fun X ec hH he=>?_
  subst hH
  obtain⟨a,c,hy,h2⟩:=dev_sl he hx hb hl
  rcases h2 with⟨hn,_⟩ | ⟨hg,rfl,hnc,_,_⟩
  ·omega
  ·refine⟨_,exec_indexAddr hsl ho hy (hjc he) g0 (by omega),?_⟩
   rw[add_mk,←Nat.add_mul]
   refine .ptr (lt_of_some hb) fun T' sz' xs' hb'=>?_
   rw[hb]at hb'
   cases hb'
   exact⟨by omega,fun _=>⟨hg,rfl⟩⟩
 ·exact h.elim
end
end Go.Ax
namespace Go.Ax
open Go Go.Wx
variable [Globs]
section
variable {P : Program} {X X' : Cx} {M M' : Nat → Prop} {e : Nat → D} {H : Heap} {K : OpK} {o : Oper}
theorem AO1.new {d : D} {ao : AO} {T : Nat} (hK : K d (H ++ [ao]) []) (h : ∀ X M ec, Sim X M → X.H = H → Renv X e ec → ∃ y cs, (execOp (evl ec) o).run P X.w = .ok (.value y) (X.w.alloc (.cells cs T)) ∧
    Blk (newX X (X.w.alloc (.cells cs T)) X.w.heap.size ao) X.H.length ao ∧ Rp (newX X (X.w.alloc (.cells cs T)) X.w.heap.size ao) d y) : AO1 P o K e H := by
  intro X M ec hs hH he
  obtain ⟨y, cs, hy, hB, hr⟩ := h X M ec hs hH he
  have E := new_ev (o := ao) hs (frm_alloc (w := X.w) (.cells cs T)) (Nat.le_refl _)
  refine stepE_val hy ⟨_, _, d, [], E, new_sim hs (frm_alloc _) (Nat.le_refl _) ?_ hB, rfl, hr, by rw [← hH] at hK; exact hK⟩
  simp
theorem blk_one(hs:Sim X M){ds:List D}{cs:Array Value}{T:Nat}(h:RpL X ds cs.toList)(ho:ds.all one=true):Blk (newX X (X.w.alloc (.cells cs T)) X.w.heap.size (.arr T ds.length [ds])) X.H.length (.arr T ds.length [ds]):=by
 have E:=new_ev (o:= .arr T ds.length [ds]) hs (frm_alloc (w:=X.w) (.cells cs T)) (Nat.le_refl _)
 have hl:cs.size=ds.length:=by have:=h.1;simpa using this
 refine .inr ⟨newX_new.2.2,cs,?_,by simp[hl],fun ds' hd=>by simp at hd;rw[hd],fun i j d hd=>?_⟩
 ·rw[newX_new.2.1];exact heap_alloc_new X.w _
 ·obtain⟨ds',h1,h2⟩:=at2_some.1 hd
  cases i with
  | succ i=>simp at h1
  | zero=>
   simp at h1
   subst h1
   obtain⟨x,hx,hr⟩:=h.get h2
   rw[Array.getElem?_toList]at hx
   exact⟨x,by rw[Nat.zero_mul,Nat.zero_add];exact hx,hr.one (List.all_eq_true.1 ho _ (List.mem_of_getElem? h2)),hr.ev E hs⟩
theorem rp_box{ds:List D}{w':World}{T:Nat}:Rp (newX X w' X.w.heap.size (.arr T ds.length [ds])) (.ptr X.H.length 0 0 1) (.pointer (some ⟨X.w.heap.size,0,none⟩)):=by
 refine .ptr (by simp[newX]) fun T' sz xs hx=>?_
 rw[newX_new.1]at hx
 cases hx
 exact⟨by simp,fun _=>⟨newX_new.2.2,by rw[newX_new.2.1];simp⟩⟩
def dbox(t:TypeId)(x:D)(H:Heap)(K:OpK):Prop:=lst (dcells x) fun ds=>Ck (ds.all one) (K (.ptr H.length 0 0 1) (H++[.arr t ds.length [ds]]) [])
theorem dbox_ok{t:TypeId}{x:Operand}(ho:o.op= .box t x)(h:dbox t (dev e x) H K):AO1 P o K e H:=by
 unfold dbox at h
 obtain⟨ds,hd,h⟩:=lst_some h
 obtain⟨h1,h⟩:=h.t
 refine AO1.new (T:=t) h fun X M ec hs hH he=>⟨_,(evl ec x).cells,?_,blk_one hs ((he.dev x).cells hd) h1,by rw[←hH];exact rp_box⟩
 unfold execOp
 simp only[ho]
 rfl
def zeroD(P:Program)(t:TypeId):Option (List D):=match P.info? t with
 | some i=>(match i.zero with | some z=>some (z.cells.toList.map .v) | none=>none)
 | none=>none
theorem zeroD_run{t:TypeId}{ds:List D}(h:zeroD P t=some ds):∃z:Value,ds=z.cells.toList.map .v∧∀w,(zeroValue t).run P w= .ok z w:=by
 unfold zeroD at h
 split at h
 case h_2=>cases h
 rename_i i hi
 split at h
 case h_2=>cases h
 rename_i z hz
 cases h
 refine⟨z,rfl,fun w=>?_⟩
 unfold zeroValue typeInfo
 simp only[run_bind,program,Sem.run,hi,run_pure,hz]
def dalloc(P:Program)(t:TypeId)(H:Heap)(K:OpK):Prop:=lst (zeroD P t) fun ds=>Ck (ds.all one) (K (.ptr H.length 0 0 1) (H++[.arr t ds.length [ds]]) [])
theorem dalloc_ok{t:TypeId}(ho:o.op= .alloc t)(h:dalloc P t H K):AO1 P o K e H:=by
 unfold dalloc at h
 obtain⟨ds,hd,h⟩:=lst_some h
 obtain⟨h1,h⟩:=h.t
 obtain⟨z,rfl,hz⟩:=zeroD_run hd
 refine AO1.new (T:=t) h fun X M ec hs hH he=>⟨_,z.cells,?_,blk_one hs (Rp.cells (y:=z) (d:= .v z) rfl (.v z)) h1,by rw[←hH];exact rp_box⟩
 unfold execOp
 simp only[ho,Instr.alloc,run_bind,hz]
 rfl
def dfill(pl:Nat→Option (Nat × Nat))(cells:List D):List (Nat × D)→Option (List D)
 |[]=>some cells
 | (i,d)::rest=>match pl i,dcells d with
  | some (off,size),some ds=>cond (Nat.beq ds.length size&&Nat.ble (off+ds.length) cells.length) (dfill pl (putL cells off ds) rest) none
  | _,_=>none
theorem foldl_putAt(off:Nat)(vs:List Value)(cs:Array Value):((vs.zipIdx 0).foldl (fun cs (x:Value × Nat)=>cs.setIfInBounds (off+x.2) x.1) cs)=putAt cs off vs:=by
 have key:∀(vs:List Value) (s:Nat) (cs:Array Value),((vs.zipIdx s).foldl (fun cs (x:Value × Nat)=>cs.setIfInBounds (off+x.2) x.1) cs)=putAt cs (off+s) vs:=by
  intro vs
  induction vs with
  | nil=>intro s cs;rfl
  | cons v vs ih=>intro s cs;rw[List.zipIdx_cons,List.foldl_cons,ih,putAt];rfl
 exact key vs 0 cs
theorem RpL.put{cells us:List D}{cs:Array Value}{vs:List Value}(h:RpL X cells cs.toList)(hu:RpL X us vs){off:Nat}(hl:off+us.length≤cells.length):RpL X (putL cells off us) (putAt cs off vs).toList:=by
 have hcs:cs.size=cells.length:=by have:=h.1;simpa using this
 refine⟨by simp[size_putAt,putL_len hl,hcs],fun j d x h1 h2=>?_⟩
 rw[putL_get hl]at h1
 rw[Array.getElem?_toList,get_putAt _ _ _ _ (by rw[hu.1];omega),hu.1]at h2
 split at h1
 ·rename_i hj
  rw[if_pos hj]at h2
  exact hu.2 _ d x h1 h2
 ·rename_i hj
  rw[if_neg hj]at h2
  exact h.2 j d x h1 (by rw[Array.getElem?_toList];exact h2)
theorem dfill_ok (pl : Nat → Option (Nat × Nat)) {f : Operand → D} {g : Operand → Value} (hfg : ∀ x, Rp X (f x) (g x)) : ∀ (parts : List (Nat × Operand)) {cells ds : List D} {cs : Array Value}, dfill pl cells (parts.map fun p => (p.1, f p.2)) = some ds → RpL X cells cs.toList →
    ∃ cs', Instr.fill pl cs (parts.map fun p => (p.1, g p.2)) = some cs' ∧ RpL X ds cs'.toList
  | [], cells, ds, cs, h, hr => by cases h; exact ⟨cs, rfl, hr⟩
  | (i, x) :: parts, cells, ds, cs, h, hr => by
    simp only [List.map_cons, dfill] at h
    split at h
    case h_2 => cases h
    rename_i off size us hp hu
    cases hb : (Nat.beq us.length size && Nat.ble (off + us.length) cells.length) with
    | false => rw [hb] at h; cases h
    | true =>
      rw [hb] at h
      simp only [Bool.and_eq_true] at hb
      have h1 := Nat.eq_of_beq_eq_true hb.1
      have h2 := Nat.le_of_ble_eq_true hb.2
      have hus := (hfg x).cells hu
      have hcs : cs.size = cells.length := by have := hr.1; simpa using this
      have hsz : (g x).cells.size = us.length := by have := hus.1; simpa using this
      obtain ⟨cs', hf, hr'⟩ := dfill_ok pl hfg parts (cs := putAt cs off (g x).cells.toList) h (hr.put hus h2)
      refine ⟨cs', ?_, hr'⟩
      simp only [List.map_cons, Instr.fill, hp]
      rw [if_neg (by simp [hsz, hcs, h1]; omega)]
      rw [← hf]
      congr 1
      rw [← Array.foldl_toList, Array.toList_zipIdx]
      exact foldl_putAt off _ _
def dbuild(P:Program)(t:TypeId)(parts:List (Nat × D))(K:D→Prop):Prop:=match P.info? t,P.underlying t with
 | some it,some (.array _ el)=>(match it.zero,P.info? el with
  | some z,some ie=>lst (dfill (fun i=>some (i*ie.size,ie.size)) (z.cells.toList.map .v) parts) fun ds=>K (.agg ds)
  | _,_=>False)
 | some it,some (.struct fields)=>(match it.zero,fields.toList.mapM (fun f=>(P.info? f.type).map fun i=>(f.offset,i.size))with
  | some z,some places=>lst (dfill (places.toArray[·]?) (z.cells.toList.map .v) parts) fun ds=>K (.agg ds)
  | _,_=>False)
 | _,_=>False
def AOR(P:Program)(o:Oper)(K:D→Prop)(e:Nat→D)(H:Heap):Prop:=∃d,K d∧∀X ec,X.H=H→Renv X e ec→∃y,(∀w,(execOp (evl ec) o).run P w= .ok (.value y) w)∧Rp X d y
theorem AOP.r{K:D→Prop}(h:AOP P o K e H):AOR P o K e H:=by
 obtain⟨d,hK,h⟩:=h
 refine⟨d,hK,fun X ec hH he=>?_⟩
 obtain⟨y,hy,hr⟩:=h X ec hH he
 exact⟨y,pureRun_run P _ hy,hr⟩
theorem AOR.l{K:D→Option Nat→Prop}(h:AOR P o (fun d=>K d none) e H):AOL P o K e H:=by
 obtain⟨d,hK,h⟩:=h
 refine⟨d,none,hK,fun b hb=>(by cases hb),fun X M ec hs hH he=>?_⟩
 obtain⟨y,hy,hr⟩:=h X ec hH he
 exact⟨y,hr,fun _ X' _ _ _=>hy X'.w⟩
theorem dbuild_ok {t : TypeId} {parts : Array (Nat × Operand)} (ho : o.op = .build t parts) {K : D → Prop} (h : dbuild P t (parts.toList.map fun p => (p.1, dev e p.2)) K) : AOR P o K e H := by
  have key : ∀ {ds : List D} (z : Value) (pl : Nat → Option (Nat × Nat)), dfill pl (z.cells.toList.map .v) (parts.toList.map fun p => (p.1, dev e p.2)) = some ds →
      (∀ (ps : List (Nat × Value)) cs, Instr.fill pl z.cells ps = some cs → P.built t ps = some cs) → K (.agg ds) → AOR P o K e H := by
    intro ds z pl hd hb hK
    refine ⟨_, hK, fun X ec hH he => ?_⟩
    obtain ⟨cs, hf, hr⟩ := dfill_ok pl (fun x => he.dev x) parts.toList hd (Rp.cells (X := X) (y := z) (d := .v z) rfl (.v z))
    refine ⟨.agg cs, fun w => ?_, ?_⟩
    · have h1 := run_build w t (parts.map fun p => (p.1, evl ec p.2)) cs (by rw [Array.toList_map]; exact hb _ _ hf)
      unfold execOp
      simp only [ho]
      rw [run_bind]
      rw [h1]
      rfl
    · have := Rp.agg (X := X) hr.1 hr.2
      simpa using this
  unfold dbuild at h
  split at h
  · rename_i it n el hi hu
    split at h
    case h_2 => exact h.elim
    rename_i z ie hz hie
    obtain ⟨ds, hd, h⟩ := lst_some h
    exact key z _ hd (fun ps cs hf => by unfold Program.built; simp only [hi, hu, hz, hie, hf]) h
  · rename_i it fields hi hu
    split at h
    case h_2 => exact h.elim
    rename_i z places hz hp
    obtain ⟨ds, hd, h⟩ := lst_some h
    exact key z _ hd (fun ps cs hf => by unfold Program.built; simp only [hi, hu, hz, hp, hf]) h
  · exact h.elim
def inOrder(n:Nat)(parts:List (Nat × Operand)):Bool:=decide (parts.map (·.1)=List.range n)
theorem inOrder_zip{n:Nat}{parts:List (Nat × Operand)}(h:inOrder n parts=true)(g:Operand→Value):(parts.map fun p=>(p.1,g p.2))=(((parts.map fun p=>g p.2).zipIdx 0).map fun x=>(x.2,x.1))∧parts.length=n:=by
 have h:=of_decide_eq_true h
 have hl:parts.length=n:=by have:=congrArg List.length h;simpa using this
 refine⟨List.ext_getElem? fun i=>?_,hl⟩
 rw[List.getElem?_map,List.getElem?_map,List.getElem?_zipIdx,List.getElem?_map]
 cases hp:parts[i]? with
 | none=>simp
 | some p=>
  have h2:(parts.map (·.1))[i]? =some p.1:=by rw[List.getElem?_map,hp];rfl
  rw[h,List.getElem?_range (by have:=(List.getElem?_eq_some_iff.1 hp).1;omega)]at h2
  simp at h2 ⊢
  exact h2.symm
def cellsOf(l:List D):Option (List (List D)):=match l with
 |[]=>some []
 | d::l=>match dcells d,cellsOf l with
  | some ds,some r=>some (ds::r)
  | _,_=>none
theorem cellsOf_get:∀{l:List D} {r:List (List D)},cellsOf l=some r→r.length=l.length∧∀(i:Nat) d ds,l[i]? =some d→r[i]? =some ds→dcells d=some ds
 |[],r,h=>by cases h;exact⟨rfl,fun i d ds h=>by simp at h⟩
 | d::l,r,h=>by
  simp only[cellsOf]at h
  split at h
  case h_2=>cases h
  rename_i ds r' h1 h2
  cases h
  obtain⟨hl,hg⟩:=cellsOf_get h2
  refine⟨by simp[hl],fun i d' ds' hd hds=>?_⟩
  cases i with
  | zero=>simp at hd hds;subst hd;subst hds;exact h1
  | succ i=>exact hg i d' ds' (by simpa using hd) (by simpa using hds)
def litOk(P:Program)(t:TypeId)(len:Nat):Option (TypeId × Nat):=match P.underlying t with
 | some (.slice el)=>(match P.info? el with
  | some ie=>(match ie.zero with
   | some z=>cond (Nat.ble (len*ie.size) 16777216&&(!(Nat.beq (len*ie.size) 0)&&Nat.beq z.cells.size ie.size)) (some (el,ie.size)) none
   | none=>none)
  | none=>none)
 | _=>none
theorem litOk_le{t len:Nat}{q:Nat × Nat}(hl:litOk P t len=some q):len≤maxLen:=by
 unfold litOk at hl
 split at hl
 case h_2=>cases hl
 split at hl
 case h_2=>cases hl
 rename_i ie _
 split at hl
 case h_2=>cases hl
 rename_i z _
 cases hb:(Nat.ble (len*ie.size) 16777216&&(!(Nat.beq (len*ie.size) 0)&&Nat.beq z.cells.size ie.size))with
 | false=>rw[hb]at hl;cases hl
 | true=>
  simp only[Bool.and_eq_true,Bool.not_eq_true']at hb
  have h1:=Nat.le_of_ble_eq_true hb.1
  have hpos:0<ie.size:=by
   rcases Nat.eq_zero_or_pos ie.size with h | h
   ·have h2:=hb.2.1;rw[h,Nat.mul_zero]at h2;cases h2
   ·exact h
  have:=Nat.le_mul_of_pos_right len hpos
  simp only[maxLen]
  omega
theorem lit_run {t len el sz : Nat} {parts : Array (Nat × Operand)} {ds : List (List D)} (ho : o.op = .buildSlice t len parts) (hl : litOk P t len = some (el, sz)) (hi : inOrder len parts.toList = true) (hc : cellsOf (parts.toList.map fun p => dev e p.2) = some ds)
    (hz : ds.all (fun l => Nat.beq l.length sz) = true) {ec : Env} (he : Renv X e ec) {w : World} : ds.length = len ∧ 0 < sz ∧ ∃ vss : List (List Value), vss.length = len ∧ (∀ (i : Nat) l vs, ds[i]? = some l → vss[i]? = some vs → l.length = sz ∧ RpL X l vs) ∧
      (execOp (evl ec) o).run P w = .ok (.value (.slice (some ⟨w.heap.size, 0, none⟩) len len)) (w.alloc (.cells vss.flatten.toArray el)) := by
  obtain ⟨hzip, hlen⟩ := inOrder_zip hi (evl ec)
  obtain ⟨hdl, hget⟩ := cellsOf_get hc
  rw [List.length_map] at hdl
  unfold litOk at hl
  split at hl
  case h_2 => cases hl
  rename_i el' hu
  split at hl
  case h_2 => cases hl
  rename_i ie hie
  split at hl
  case h_2 => cases hl
  rename_i z hzz
  cases hb : (Nat.ble (len * ie.size) 16777216 && (!(Nat.beq (len * ie.size) 0) && Nat.beq z.cells.size ie.size)) with
  | false => rw [hb] at hl; cases hl
  | true =>
    rw [hb] at hl
    cases hl
    simp only [Bool.and_eq_true, Bool.not_eq_true'] at hb
    obtain ⟨hb1, hb2, hb3⟩ := hb
    have hb1 := Nat.le_of_ble_eq_true hb1
    have hb3 := Nat.eq_of_beq_eq_true hb3
    have hne : ¬ len * ie.size = 0 := fun e => by rw [e] at hb2; cases hb2
    have hpos : 0 < ie.size := by
      rcases Nat.eq_zero_or_pos ie.size with h | h
      · rw [h, Nat.mul_zero] at hne; exact absurd rfl hne
      · exact h
    have hvs : ∀ (i : Nat) l p, ds[i]? = some l → parts.toList[i]? = some p → l.length = ie.size ∧ RpL X l (evl ec p.2).cells.toList := fun i l p h1 h2 => by
      refine ⟨Nat.eq_of_beq_eq_true (List.all_eq_true.1 hz l (List.mem_of_getElem? h1)), (he.dev p.2).cells (hget i _ l (by rw [List.getElem?_map, h2]; rfl) h1)⟩
    refine ⟨by omega, hpos, parts.toList.map fun p => (evl ec p.2).cells.toList, by simpa using hlen, fun i l vs h1 h2 => ?_, ?_⟩
    · rw [List.getElem?_map, Option.map_eq_some_iff] at h2
      obtain ⟨p, hp, rfl⟩ := h2
      exact hvs i l p h1 hp
    · have hcs : ∀ v ∈ parts.toList.map (fun p => evl ec p.2), v.cells.size = ie.size := fun v hv => by
        obtain ⟨p, hp, rfl⟩ := List.mem_map.1 hv
        obtain ⟨i, hi', rfl⟩ := List.getElem_of_mem hp
        obtain ⟨h1, h2⟩ := hvs i (ds[i]'(by omega)) _ (List.getElem?_eq_getElem _) (List.getElem?_eq_getElem hi')
        have := h2.1
        rw [Array.length_toList] at this
        omega
      have hfill := Go.Great.fill_whole hpos (parts.toList.map fun p => evl ec p.2) ((Array.range (len * ie.size)).map (z.cells[· % z.cells.size]!)) hcs (by simp; simp at hlen; rw [hlen])
      have := run_buildSlice (P := P) w t el len (parts.map fun p => (p.1, evl ec p.2)) _ ie z hu hie hzz (by omega) hne (by rw [Array.toList_map, hzip]; exact hfill)
      unfold execOp
      simp only [ho]
      rw [run_bind, this]
      rw [List.flatMap_map]
      rfl
theorem flatten_get{sz:Nat}:∀{vss:List (List Value)},(∀vs∈vss,vs.length=sz)→∀{i j:Nat} {vs:List Value} {x:Value},vss[i]? =some vs→vs[j]? =some x→vss.flatten[i*sz+j]? =some x
 |[],_,i,j,vs,x,h,_=>by simp at h
 | v::vss,hl,i,j,vs,x,h,hx=>by
  have hv:=hl v List.mem_cons_self
  cases i with
  | zero=>
   simp at h
   subst h
   have:=(List.getElem?_eq_some_iff.1 hx).1
   rw[Nat.zero_mul,Nat.zero_add,List.flatten_cons,List.getElem?_append_left this]
   exact hx
  | succ i=>
   rw[List.flatten_cons,List.getElem?_append_right (by rw[hv,Nat.succ_mul];omega),hv,Nat.succ_mul,show i*sz+sz+j-sz=i*sz+j by omega]
   exact flatten_get (fun vs h=>hl vs (List.mem_cons_of_mem _ h)) (by simpa using h) hx
theorem flatten_len{sz:Nat}:∀{vss:List (List Value)},(∀vs∈vss,vs.length=sz)→vss.flatten.length=vss.length*sz
 |[],_=>by simp
 | v::vss,h=>by
  rw[List.flatten_cons,List.length_append,h v List.mem_cons_self,flatten_len fun vs hv=>h vs (List.mem_cons_of_mem _ hv),List.length_cons,Nat.succ_mul,Nat.add_comm]
def dlit1(P:Program)(t len:Nat)(parts:List (Nat × Operand))(ds:Option (List (List D)))(K:D→Prop):Prop:=match litOk P t len,ds with
 | some (_,sz),some ds=>Ck (inOrder len parts&&(ds.all (fun l=>Nat.beq l.length sz)&&ds.all (·.all one))) (K (.row true ds))
 | _,_=>False
def frzX(X:Cx)(w':World)(k:Nat):Cx:=⟨w',fun j=>X.F j∨j=k,X.ρ,X.gh,X.H⟩
theorem frz_ev(hs:Sim X M){w':World}(E:Ext X.w w'){k:Nat}(hk:X.w.heap.size≤k)(B:Nat→Prop):Ev B X M (frzX X w' k) M where
 frm:=Ext.frm E
 mn _ h:= .inl h
 ff _ h:= .inl h
 fn j h:=h.imp id fun e=>by omega
 len:=Nat.le_refl _
 old b hb _:=⟨rfl,rfl,rfl,fun hg=>E.blk _ (hs.lt hb hg) id⟩
 arr b T sz xs' hb hx:=⟨xs',hx,.inr ⟨rfl,rfl,rfl,fun _ cur hc=>⟨cur,(E.blk _ (At.lt hc) id).trans hc,rfl⟩⟩⟩
 map b es c hb:=⟨rfl,es,c,hb⟩
 iter b m n l hb:=⟨rfl,l,hb⟩
 nw b hb hg:= .inr ⟨hb,rfl,hg⟩
theorem frz_sim(hs:Sim X M){w':World}(E:Ext X.w w'){k:Nat}(hk:X.w.heap.size≤k)(hk':k<w'.heap.size):Sim (frzX X w' k) M:=by
 refine hs.step (frz_ev hs E hk fun _=>False) (fun j hj=>Nat.lt_of_lt_of_le (hs.mlt j hj) E.size) ?_ ?_ hs.im hs.inj fun b o hb=> .inl ⟨lt_of_some hb,id⟩
 ·rintro j (hj | rfl)
  ·exact Nat.lt_of_lt_of_le (hs.flt j hj) E.size
  ·exact hk'
 ·rintro j (hj | rfl) hm
  ·exact hs.dj j hj hm
  ·have:=hs.mlt _ hm;omega
theorem dlit1_ok{t len:Nat}{parts:Array (Nat × Operand)}(ho:o.op= .buildSlice t len parts)(h:dlit1 P t len parts.toList (cellsOf (parts.toList.map fun p=>dev e p.2)) fun d=>K d H []):AO1 P o K e H:=by
 unfold dlit1 at h
 split at h
 case h_2=>exact h.elim
 rename_i el sz ds hl hc
 obtain⟨hb,h⟩:=h.t
 simp only[Bool.and_eq_true]at hb
 obtain⟨hi,hz,h1⟩:=hb
 intro X M ec hs hH he
 have hlm:len≤maxLen:=litOk_le hl
 obtain⟨hdl,hpos,vss,hvl,hv,hrun⟩:=lit_run ho hl hi hc hz he (w:=X.w)
 have hvsz:∀vs∈vss,vs.length=sz:=fun vs hm=>by
  obtain⟨i,hi',rfl⟩:=List.getElem_of_mem hm
  obtain⟨g1,g2⟩:=hv i (ds[i]'(by omega)) _ (List.getElem?_eq_getElem _) (List.getElem?_eq_getElem hi')
  rw[g2.1,g1]
 have E:=frz_ev hs (frm_alloc (w:=X.w) (.cells vss.flatten.toArray el)) (Nat.le_refl _) fun b=>b∈([]:List Nat)
 refine stepE_val hrun ⟨frzX X _ X.w.heap.size,M,.row true ds,[],E,frz_sim hs (frm_alloc _) (Nat.le_refl _) (by simp),rfl,?_,by rw[←hH]at h;exact h⟩
 have hds:∀l∈ds,l.length=sz:=fun l hm=>Nat.eq_of_beq_eq_true (List.all_eq_true.1 hz l hm)
 rw[←hdl]
 refine .row (sz:=sz) (fun i j=>(vss.flatten[i*sz+j]?).getD undef) (fun _=>rfl) ⟨Nat.le_refl _,by rw[hdl];exact hlm⟩ hds (fun e=>by cases e) (fun a0 ha _=>by cases ha;exact .inr rfl) (fun a0 i j d ha hd=>?_) fun i j d hd=>?_
 all_goals
  obtain⟨l,hl1,hl2⟩:=at2_some.1 hd
  have hi':=(List.getElem?_eq_some_iff.1 hl1).1
  have hvi:vss[i]? =some (vss[i]'(by omega)):=List.getElem?_eq_getElem _
  obtain⟨g1,g2⟩:=hv i l _ hl1 hvi
  obtain⟨x,hx,hr⟩:=g2.get hl2
  have hfl:=flatten_get hvsz hvi hx
  simp only[hfl,Option.getD_some]
 ·cases ha
  have ho1:=hr.one (List.all_eq_true.1 (List.all_eq_true.1 h1 l (List.mem_of_getElem? hl1)) d (List.mem_of_getElem? hl2))
  refine⟨?_,ho1⟩
  rw[add_mk,Nat.zero_add]
  exact cell_blk (heap_alloc_new X.w _) (by simpa using hfl)
 ·exact hr.ev E hs
def lit0(P:Program)(t:TypeId):Option TypeId:=match P.underlying t with
 | some (.slice el)=>(match P.info? el with | some _=>some el | none=>none)
 | _=>none
def dlit(P:Program)(t len:Nat)(parts:List (Nat × Operand))(ds:Option (List (List D)))(K:D→Prop):Prop:=match len,parts with
 | 0,[]=>Ck (lit0 P t).isSome (K (.row true []))
 | _,_=>dlit1 P t len parts ds K
theorem dlit_ok{t len:Nat}{parts:Array (Nat × Operand)}(ho:o.op= .buildSlice t len parts)(h:dlit P t len parts.toList (cellsOf (parts.toList.map fun p=>dev e p.2)) fun d=>K d H []):AO1 P o K e H:=by
 unfold dlit at h
 split at h
 ·rename_i hp
  obtain⟨h0,hK⟩:=h.t
  obtain rfl:parts= #[]:=by apply Array.ext';exact hp
  cases hl:lit0 P t with
  | none=>rw[hl]at h0;cases h0
  | some el=>
   unfold lit0 at hl
   split at hl
   case h_2=>cases hl
   rename_i el' hu
   split at hl
   case h_2=>cases hl
   rename_i ie hie
   cases hl
   intro X M ec hs hH he
   have hrun:(execOp (evl ec) o).run P X.w= .ok (.value (.slice (some ⟨X.w.heap.size,0,none⟩) 0 0)) (X.w.alloc (.cells #[] el)):=by
    unfold execOp
    simp only[ho]
    simp[Instr.buildSlice,run_underlying hu,sizeOf,typeInfo,hie,Instr.fill,newRow]
    rw[show Array.range 0= #[]from Array.eq_empty_of_size_eq_zero (by simp),Array.map_empty]
   have E:=frz_ev hs (frm_alloc (w:=X.w) (.cells #[] el)) (Nat.le_refl _) fun b=>b∈([]:List Nat)
   refine stepE_val hrun ⟨frzX X _ X.w.heap.size,M,.row true [],[],E,frz_sim hs (frm_alloc _) (Nat.le_refl _) (by simp),rfl,?_,by rw[←hH]at hK;exact hK⟩
   exact Rp.row (cl:=true) (xs:=[]) (sz:=0) (fun _ _=>undef) (fun _=>rfl) ⟨Nat.le_refl _,Nat.zero_le _⟩ (fun _ h=>nomatch h) (fun _=>rfl) (fun _ _ h=>absurd rfl h) (fun _ i j d _ h=>by simp[at2]at h) fun i j d h=>by simp[at2]at h
 ·exact dlit1_ok ho h
def dlitH(P:Program)(t len:Nat)(parts:List (Nat × Operand))(ds:Option (List (List D)))(H:Heap)(K:OpK):Prop:=match litOk P t len,ds with
 | some (el,sz),some ds=>Ck (inOrder len parts&&(ds.all (fun l=>Nat.beq l.length sz)&&(ds.all (·.all one)&&Nat.ble len 4611686018427387904))) (K (.sl H.length 0 len len) (H++[.arr el sz ds]) [])
 | _,_=>False
theorem rp_whole {w' : World} {T sz n : Nat} {xs : List (List D)} {c : Nat} {cur : Array Value} (hat : w'.heap[X.w.heap.size]? = some (.cells cur T (0, 0))) (hn : xs.length = n) (hc : n ≤ c) (hm : c ≤ maxLen) (hs : c * sz ≤ cur.size) :
    Rp (newX X w' X.w.heap.size (.arr T sz xs)) (.sl X.H.length 0 n n) (.slice (some ⟨X.w.heap.size, 0, none⟩) n c) := by
  refine .sl (by simp [newX]) fun T' sz' xs' hx => ?_
  rw [newX_new.1] at hx
  cases hx
  refine ⟨by omega, fun _ => .inr ⟨newX_new.2.2, by rw [newX_new.2.1]; simp, hc, hm, cur, ?_, by rw [Nat.zero_add]; exact hs⟩⟩
  rw [newX_new.2.1]; exact hat
theorem dlitH_ok{t len:Nat}{parts:Array (Nat × Operand)}(ho:o.op= .buildSlice t len parts)(h:dlitH P t len parts.toList (cellsOf (parts.toList.map fun p=>dev e p.2)) H K):AO1 P o K e H:=by
 unfold dlitH at h
 split at h
 case h_2=>exact h.elim
 rename_i el sz ds hl hc
 obtain⟨hb,h⟩:=h.t
 simp only[Bool.and_eq_true]at hb
 obtain⟨hi,hz,h1,hm⟩:=hb
 have hm:=Nat.le_of_ble_eq_true hm
 have hds:∀l∈ds,l.length=sz:=fun l hm=>Nat.eq_of_beq_eq_true (List.all_eq_true.1 hz l hm)
 refine AO1.new (T:=el) h fun X M ec hs hH he=>?_
 obtain⟨hdl,hpos,vss,hvl,hv,hrun⟩:=lit_run ho hl hi hc hz he (w:=X.w)
 have hvsz:∀vs∈vss,vs.length=sz:=fun vs hm=>by
  obtain⟨i,hi',rfl⟩:=List.getElem_of_mem hm
  obtain⟨g1,g2⟩:=hv i (ds[i]'(by omega)) _ (List.getElem?_eq_getElem _) (List.getElem?_eq_getElem hi')
  rw[g2.1,g1]
 have hcs:vss.flatten.toArray.size=len*sz:=by rw[List.size_toArray,flatten_len hvsz,hvl]
 have E:=new_ev (o:= .arr el sz ds) hs (frm_alloc (w:=X.w) (.cells vss.flatten.toArray el)) (Nat.le_refl _)
 refine⟨_,_,hrun,.inr ⟨newX_new.2.2,vss.flatten.toArray,by rw[newX_new.2.1];exact heap_alloc_new X.w _,by rw[hcs,hdl];exact Nat.le_refl _,hds,fun i j d hd=>?_⟩,?_⟩
 ·obtain⟨l,hl1,hl2⟩:=at2_some.1 hd
  have hi':=(List.getElem?_eq_some_iff.1 hl1).1
  have hvi:vss[i]? =some (vss[i]'(by omega)):=List.getElem?_eq_getElem _
  obtain⟨g1,g2⟩:=hv i l _ hl1 hvi
  obtain⟨x,hx,hr⟩:=g2.get hl2
  exact⟨x,by simpa using flatten_get hvsz hvi hx,hr.one (List.all_eq_true.1 (List.all_eq_true.1 h1 l (List.mem_of_getElem? hl1)) d (List.mem_of_getElem? hl2)),hr.ev E hs⟩
 ·rw[←hH]
  exact rp_whole (heap_alloc_new X.w _) hdl (Nat.le_refl _) (by simp only[maxLen];omega) (by rw[hcs];exact Nat.le_refl _)
end
end Go.Ax
namespace Go.Ax
open Go Go.Wx
variable [Globs]
section
variable {P : Program} {X X' : Cx} {M M' : Nat → Prop} {e : Nat → D} {H : Heap} {K : OpK} {o : Oper}
structure Flat(X:Cx)(sz:Nat)(xs:List (List D))(vs:List Value):Prop where
 len:vs.length=xs.length*sz
 each:∀l∈xs,l.length=sz
 get:∀i j d,at2 xs i j=some d→∃v,vs[i*sz+j]? =some v∧v.oneCell'=true∧Rp X d v
theorem Flat.lt{sz:Nat}{xs:List (List D)}{vs:List Value}(h:Flat X sz xs vs){i j:Nat}{d:D}(hd:at2 xs i j=some d):i<xs.length∧j<sz:=by
 obtain⟨l,h1,h2⟩:=at2_some.1 hd
 refine⟨(List.getElem?_eq_some_iff.1 h1).1,?_⟩
 rw[←h.each l (List.mem_of_getElem? h1)]
 exact(List.getElem?_eq_some_iff.1 h2).1
theorem Flat.nil{sz:Nat}:Flat X sz [] []:=⟨by simp,fun _ h=>(by cases h),fun i j d h=>by simp[at2]at h⟩
theorem Flat.ev{A:Nat→Prop}{sz:Nat}{xs:List (List D)}{vs:List Value}(h:Flat X sz xs vs)(E:Ev A X M X' M')(hs:Sim X M):Flat X' sz xs vs:=⟨h.len,h.each,fun i j d hd=>by
 obtain⟨v,h1,h2,h3⟩:=h.get i j d hd
 exact⟨v,h1,h2,h3.ev E hs⟩⟩
theorem Flat.app{sz:Nat}{xs ys:List (List D)}{vs us:List Value}(h:Flat X sz xs vs)(h':Flat X sz ys us):Flat X sz (xs++ys) (vs++us):=by
 refine⟨by rw[List.length_append,h.len,h'.len,List.length_append,Nat.add_mul],fun l hl=>(List.mem_append.1 hl).elim (h.each l) (h'.each l),fun i j d hd=>?_⟩
 obtain⟨l,h1,h2⟩:=at2_some.1 hd
 by_cases hi:i<xs.length
 ·rw[List.getElem?_append_left hi]at h1
  obtain⟨v,g1,g2⟩:=h.get i j d (at2_some.2 ⟨l,h1,h2⟩)
  exact⟨v,by rw[List.getElem?_append_left (List.getElem?_eq_some_iff.1 g1).1];exact g1,g2⟩
 ·rw[List.getElem?_append_right (by omega)]at h1
  obtain⟨v,g1,g2⟩:=h'.get (i-xs.length) j d (at2_some.2 ⟨l,h1,h2⟩)
  have hm:i*sz=xs.length*sz+(i-xs.length)*sz:=by rw[←Nat.add_mul];congr 1;omega
  refine⟨v,?_,g2⟩
  rw[List.getElem?_append_right (by rw[h.len];omega),h.len,hm,show xs.length*sz+(i-xs.length)*sz+j-xs.length*sz=(i-xs.length)*sz+j by omega]
  exact g1
theorem flatAt (vals : Nat → Nat → Value) {sz : Nat} {xs : List (List D)} (hs : ∀ l ∈ xs, l.length = sz) (hc : ∀ i j d, at2 xs i j = some d → (vals i j).oneCell' = true ∧ Rp X d (vals i j)) {w : World} {a : Addr}
    (hw : ∀ i j d, at2 xs i j = some d → w.cell? (a.add (i * sz + j)) = some (vals i j)) : ∃ vs, Flat X sz xs vs ∧ (∀ j u, vs[j]? = some u → w.cell? (a.add j) = some u) ∧ ∀ u ∈ vs, u.oneCell' = true := by
  have hvs : ∀ l ∈ (List.range xs.length).map (fun i => (List.range sz).map (vals i)), l.length = sz := fun l hl => by
    obtain ⟨i, _, rfl⟩ := List.mem_map.1 hl
    simp
  have hat : ∀ {i j : Nat} {d : D}, at2 xs i j = some d → ((List.range xs.length).map (fun i => (List.range sz).map (vals i))).flatten[i * sz + j]? = some (vals i j) := fun {i j d} hd => by
    obtain ⟨l, h1, h2⟩ := at2_some.1 hd
    have hi := (List.getElem?_eq_some_iff.1 h1).1
    have hj := (List.getElem?_eq_some_iff.1 h2).1
    rw [hs l (List.mem_of_getElem? h1)] at hj
    refine flatten_get hvs (vs := (List.range sz).map (vals i)) ?_ ?_
    · rw [List.getElem?_map, List.getElem?_range hi]; rfl
    · rw [List.getElem?_map, List.getElem?_range hj]; rfl
  have hlen : ((List.range xs.length).map (fun i => (List.range sz).map (vals i))).flatten.length = xs.length * sz := by rw [flatten_len hvs]; simp
  have hin : ∀ k u, ((List.range xs.length).map (fun i => (List.range sz).map (vals i))).flatten[k]? = some u → ∃ i j d, k = i * sz + j ∧ at2 xs i j = some d ∧ u = vals i j := fun k u hk => by
    have hlt := (List.getElem?_eq_some_iff.1 hk).1
    rw [hlen] at hlt
    have hpos : 0 < sz := by
      rcases Nat.eq_zero_or_pos sz with h | h
      · rw [h, Nat.mul_zero] at hlt; omega
      · exact h
    have hq : k / sz < xs.length := (Nat.div_lt_iff_lt_mul hpos).2 hlt
    have hr := Nat.mod_lt k hpos
    have hk' : k = k / sz * sz + k % sz := by rw [Nat.mul_comm]; exact (Nat.div_add_mod k sz).symm
    have hd : at2 xs (k / sz) (k % sz) = some ((xs[k / sz])[k % sz]'(by rw [hs _ (List.getElem_mem hq)]; exact hr)) := at2_some.2 ⟨_, List.getElem?_eq_getElem hq, List.getElem?_eq_getElem _⟩
    have := hat hd
    rw [← hk', hk] at this
    exact ⟨_, _, _, hk', hd, Option.some.inj this⟩
  refine ⟨_, ⟨hlen, hs, fun i j d hd => ⟨_, hat hd, hc i j d hd⟩⟩, fun k u hk => ?_, fun u hu => ?_⟩
  · obtain ⟨i, j, d, rfl, hd, rfl⟩ := hin k u hk
    exact hw i j d hd
  · obtain ⟨k, hk⟩ := List.getElem?_of_mem hu
    obtain ⟨i, j, d, _, hd, rfl⟩ := hin k u hk
    exact (hc i j d hd).1
def rowOf(H:Heap):D→Option (List (List D))
 | .row _ xs=>some xs
 | .sl b i n h=>(match H[b]? with
  | some (.arr _ _ xs)=>cond (Nat.beq xs.length h&&Nat.ble (i+n) xs.length) (some (cond (Nat.beq i 0&&Nat.beq n xs.length) xs ((xs.drop i).take n))) none
  | _=>none)
 | .v (.slice none 0 0)=>some []
 | .v (.string s)=>some (s.data.toList.map fun b=>[.v (.int .u8 b.toNat)])
 | _=>none
theorem Sim.sl (hs : Sim X M) {b i n h c T sz : Nat} {xs : List (List D)} {a : Option Addr} (hr : Rp X (.sl b i n h) (.slice a n c)) (hb : X.H[b]? = some (.arr T sz xs)) (hl : xs.length = h) :
    n = 0 ∧ c = 0 ∨ X.gh b = false ∧ a = some ⟨X.ρ b, i * sz, none⟩ ∧ n ≤ c ∧ c ≤ maxLen ∧ ∃ cur, X.w.heap[X.ρ b]? = some (.cells cur T (0, 0)) ∧ (i + c) * sz ≤ cur.size := by
  cases hr with
  | sl hb' hh => exact (hh T sz xs hb).2 hl
def slTy(P:Program)(t:TypeId):Bool:=match P.underlying t with | some (.slice _)=>true | _=>false
theorem slTy_some{t:TypeId}(h:slTy P t=true):∃el,P.underlying t=some (.slice el):=by
 unfold slTy at h
 split at h
 ·exact⟨_,by assumption⟩
 ·cases h
def srcTy(P:Program)(t:TypeId):D→Bool
 | .v (.string _)=>match P.underlying t with | some .string=>true | _=>false
 | _=>slTy P t
theorem cond_some{α:Type}{b:Bool}{x y:α}(h:cond b (some x) none=some y):b=true∧x=y:=by
 cases b
 ·cases h
 ·cases h;exact⟨rfl,rfl⟩
theorem src_ok (hs : Sim X M) {x : D} {y : Value} {xs : List (List D)} {sz : Nat} {t : TypeId} (hx : rowOf X.H x = some xs) (hr : Rp X x y) (hz : xs.all (fun l => Nat.beq l.length sz) = true) (ht : srcTy P t x = true) :
    ∃ vs, Flat X sz xs vs ∧ (sz = 1 ∨ slTy P t = true → Src P sz t y xs.length vs X.w) := by
  have hz' : ∀ l ∈ xs, l.length = sz := fun l hl => Nat.eq_of_beq_eq_true (List.all_eq_true.1 hz l hl)
  have nilcase : ∀ {a : Option Addr} {c : Nat} (el : TypeId), P.underlying t = some (.slice el) → Src P sz t (.slice a 0 c) 0 [] X.w := fun {a c} el hu => by
    cases a with
    | none => exact Src.ofNil X.w hu c
    | some a0 => exact Src.ofSlice X.w hu a0 0 c [] (by simp) (fun j u h => by simp at h) fun u h => by cases h
  unfold rowOf at hx
  split at hx
  · cases hx
    cases hr with
    | row vals hcl hle hsz hn hF hc hr =>
      rename_i a c sz'
      obtain ⟨el, hu⟩ := slTy_some ht
      cases a with
      | none =>
        have := hn rfl
        subst this
        exact ⟨[], .nil, fun _ => nilcase el hu⟩
      | some a0 =>
        cases xs with
        | nil => exact ⟨[], .nil, fun _ => nilcase el hu⟩
        | cons l0 xs =>
          have : sz' = sz := by rw [← hsz l0 List.mem_cons_self, hz' l0 List.mem_cons_self]
          subst this
          obtain ⟨vs, h1, h2, h3⟩ := flatAt (X := X) vals hz' (fun i j d hd => ⟨(hc a0 i j d rfl hd).2, hr i j d hd⟩) (a := a0) (fun i j d hd => (hc a0 i j d rfl hd).1)
          exact ⟨vs, h1, fun _ => Src.ofSlice X.w hu a0 _ _ vs h1.len h2 h3⟩
  · rename_i b i n h
    split at hx
    case h_2 => cases hx
    rename_i T sz' ys hb
    obtain ⟨hc, hx⟩ := cond_some hx
    simp only [Bool.and_eq_true] at hc
    have hlen := Nat.eq_of_beq_eq_true hc.1
    have hle := Nat.le_of_ble_eq_true hc.2
    have hxs : xs = (ys.drop i).take n := by
      rw [← hx]
      cases hq : Nat.beq i 0 && Nat.beq n ys.length with
      | false => rfl
      | true =>
        simp only [Bool.and_eq_true] at hq
        have e1 := Nat.eq_of_beq_eq_true hq.1
        have e2 := Nat.eq_of_beq_eq_true hq.2
        subst e1; subst e2
        simp
    have hn : xs.length = n := by rw [hxs]; simp; omega
    have hty : ∃ el, P.underlying t = some (.slice el) := slTy_some ht
    obtain ⟨el, hu⟩ := hty
    obtain ⟨a, c, hy⟩ : ∃ a c, y = .slice a n c := by cases hr; exact ⟨_, _, rfl⟩
    subst hy
    rcases Nat.eq_zero_or_pos n with h0 | h0
    · subst h0
      obtain rfl : xs = [] := List.eq_nil_of_length_eq_zero hn
      exact ⟨[], .nil, fun _ => nilcase el hu⟩
    rcases hs.sl hr hb hlen with ⟨e0, _⟩ | ⟨hg, rfl, hnc, hcm, cur, hcur, hcs⟩
    · omega
    rcases hs.blk b _ hb with ⟨hg', _⟩ | ⟨_, cur', hcur', hl', hzz, hv⟩
    · rw [hg] at hg'; cases hg'
    rw [hcur] at hcur'
    cases hcur'
    have hmem : ∀ l ∈ xs, l ∈ ys := fun l hl => by rw [hxs] at hl; exact List.mem_of_mem_drop (List.mem_of_mem_take hl)
    have hzeq : sz' = sz := by
      cases xs with
      | nil => simp at hn; omega
      | cons l0 xs => rw [← hzz l0 (hmem l0 List.mem_cons_self), hz' l0 List.mem_cons_self]
    subst hzeq
    have hget : ∀ p q d, at2 xs p q = some d → at2 ys (i + p) q = some d := fun p q d hd => by
      obtain ⟨l, h1, h2⟩ := at2_some.1 hd
      rw [hxs, List.getElem?_take] at h1
      split at h1
      · rw [List.getElem?_drop] at h1
        exact at2_some.2 ⟨l, h1, h2⟩
      · cases h1
    obtain ⟨vs, h1, h2, h3⟩ := flatAt (X := X) (fun p q => (cur[(i + p) * sz' + q]?).getD undef) hz' (fun p q d hd => by
        obtain ⟨v, hv1, hv2, hv3⟩ := hv _ _ d (hget p q d hd)
        rw [hv1]; exact ⟨hv2, hv3⟩) (w := X.w) (a := ⟨X.ρ b, i * sz', none⟩) (fun p q d hd => by
        obtain ⟨v, hv1, hv2, hv3⟩ := hv _ _ d (hget p q d hd)
        rw [hv1, add_mk]
        refine cell_blk hcur ?_
        rw [show i * sz' + (p * sz' + q) = (i + p) * sz' + q by rw [Nat.add_mul]; omega]
        exact hv1)
    refine ⟨vs, h1, fun _ => ?_⟩
    rw [hn]
    exact Src.ofSlice X.w hu _ _ _ vs (by rw [h1.len, hn]) h2 h3
  · cases hx
    obtain ⟨el, hu⟩ := slTy_some ht
    rw [hr.v_inv]
    exact ⟨[], .nil, fun _ => nilcase el hu⟩
  · rename_i s
    cases hx
    rw [hr.v_inv]
    have hu : P.underlying t = some .string := by
      simp only [srcTy] at ht
      split at ht
      · assumption
      · cases ht
    have hnsl : slTy P t = false := by unfold slTy; rw [hu]
    by_cases h0 : s.data.toList = []
    · rw [h0] at hz ⊢
      refine ⟨[], .nil, fun h => ?_⟩
      rcases h with h | h
      · subst h
        have := Src.ofString (P := P) X.w hu s
        have hsz : s.size = 0 := by have := congrArg List.length h0; simpa using this
        rw [hsz] at this
        have hb : byteCells s = [] := by unfold byteCells; rw [h0]; rfl
        rw [hb] at this
        exact this
      · rw [hnsl] at h; cases h
    · have hsz : sz = 1 := by
        obtain ⟨b, l, hl⟩ := List.exists_cons_of_ne_nil h0
        have := hz' _ (by rw [hl]; exact List.mem_cons_self)
        simpa using this.symm
      subst hsz
      refine ⟨byteCells s, ⟨by simp [byteCells], hz', fun i j d hd => ?_⟩, fun _ => ?_⟩
      · obtain ⟨l, h1, h2⟩ := at2_some.1 hd
        rw [List.getElem?_map, Option.map_eq_some_iff] at h1
        obtain ⟨u, hu1, rfl⟩ := h1
        cases j with
        | succ j => simp at h2
        | zero =>
          simp at h2
          subst h2
          exact ⟨.int .u8 u.toNat, by simp only [Nat.mul_one, Nat.add_zero, byteCells, List.getElem?_map, hu1]; rfl, rfl, .v _⟩
      · have := Src.ofString (P := P) X.w hu s
        have hl : (s.data.toList.map fun b => ([.v (.int .u8 b.toNat)] : List D)).length = s.size := by simp
        rw [hl]; exact this
  · cases hx
end
end Go.Ax
namespace Go.Ax
open Go Go.Wx
variable [Globs]
section
variable {P : Program} {X X' : Cx} {M M' : Nat → Prop} {e : Nat → D} {H : Heap} {K : OpK} {o : Oper}
def bnd(n by_:Nat):Bool:=Nat.ble ((n+n / 4+192)*by_) 281474976710656&&Nat.ble n maxLen
theorem blk_flat{b T sz:Nat}{xs:List (List D)}{cur:Array Value}{vs:List Value}(hg:X.gh b=false)(hc:X.w.heap[X.ρ b]? =some (.cells cur T (0,0)))(hf:Flat X sz xs vs)(ht:cur.toList.take vs.length=vs):Blk X b (.arr T sz xs):=by
 have hle:vs.length≤cur.size:=by
  have h0:min vs.length cur.toList.length=vs.length:=by rw[←List.length_take,ht]
  have h1:cur.toList.length=cur.size:=Array.length_toList
  omega
 refine .inr ⟨hg,cur,hc,by rw[←hf.len];exact hle,hf.each,fun i j d hd=>?_⟩
 obtain⟨v,h1,h2,h3⟩:=hf.get i j d hd
 refine⟨v,?_,h2,h3⟩
 rw[←ht,List.getElem?_take]at h1
 split at h1
 ·rw[Array.getElem?_toList]at h1;exact h1
 ·cases h1
theorem Blk.flat{b T sz:Nat}{xs:List (List D)}{cur:Array Value}(hB:Blk X b (.arr T sz xs))(hg:X.gh b=false)(hc:X.w.heap[X.ρ b]? =some (.cells cur T (0,0))):xs.length*sz≤cur.size∧Flat X sz xs (cur.toList.take (xs.length*sz)):=by
 rcases hB with⟨hg',_⟩ | ⟨_,cur',hc',hl,hz,hv⟩
 ·rw[hg]at hg';cases hg'
 rw[hc]at hc'
 cases hc'
 refine⟨hl,by simp;omega,hz,fun i j d hd=>?_⟩
 obtain⟨v,h1,h2,h3⟩:=hv i j d hd
 refine⟨v,?_,h2,h3⟩
 obtain⟨l,g1,g2⟩:=at2_some.1 hd
 have hi:=(List.getElem?_eq_some_iff.1 g1).1
 have hj:=(List.getElem?_eq_some_iff.1 g2).1
 rw[hz l (List.mem_of_getElem? g1)]at hj
 have:(i+1)*sz≤xs.length*sz:=Nat.mul_le_mul_right _ hi
 rw[Nat.succ_mul]at this
 rw[List.getElem?_take_of_lt (by omega),Array.getElem?_toList]
 exact h1
theorem grow_run {t tx ty T sz by_ n c m : Nat} {a : Option Addr} {y : Value} {olds news : List Value} {w : World} (hap : apk P t = some (T, sz, by_)) (hold : (Builtin.firstCells sz n (.slice a n c)).run P w.drew = .ok olds.toArray w.drew) (hl : olds.length = n * sz)
    (hs : Src P sz tx y m news w) (hg : c < n + m) (hb : bnd (n + m) by_ = true) (hnc : n ≤ c) :
    ∃ c2 cur, (Builtin.append_ #[t, tx] ty #[.slice a n c, y]).run P w = .ok (.slice (some ⟨w.heap.size, 0, none⟩) (n + m) c2) (w.drew.alloc (.cells cur T)) ∧ n + m ≤ c2 ∧ c2 ≤ maxLen ∧ cur.size = c2 * sz ∧ cur.toList.take (olds ++ news).length = olds ++ news := by
  obtain ⟨i, z, ht, hi, hz, hzs, rfl, rfl⟩ := apk_info hap
  simp only [bnd, Bool.and_eq_true] at hb
  have hb1 := Nat.le_of_ble_eq_true hb.1
  have hb2 := Nat.le_of_ble_eq_true hb.2
  have hr := run_append_grow_src w t tx ty T i z ht hi hz a n c olds hold y m news hs hg (by simp only [maxLen] at hb2; omega) (growslice_fits_wide (by omega) hb1)
  have hge := grownCap_ge w (n + m) c T
  refine ⟨_, _, hr, hge, grownCap_le_maxLen w (n + m) c T hb2, ?_, ?_⟩
  · simp only [Array.size_append, List.size_toArray, size_zeroCells, hzs, List.length_append, hl, hs.newsLen, ← Nat.add_mul]
    congr 1
    omega
  · simp only [Array.toList_append, List.append_assoc]
    rw [← List.append_assoc]
    exact List.take_left
def appB(P:Program)(T sz by_:Nat)(base:D)(xs ys:List (List D))(H:Heap)(K:OpK):Prop:=
 If (Nat.beq ys.length 0) (K base H []) (Ck (xs.all (fun l=>Nat.beq l.length sz)&&bnd (xs.length+ys.length) by_) (K (.sl H.length 0 (xs.length+ys.length) (xs.length+ys.length)) (H++[.arr T sz (xs++ys)]) []))
def appB0(T sz by_:Nat)(ys:List (List D))(H:Heap)(K:OpK):Prop:=Ck (bnd ys.length by_) (K (.sl H.length 0 ys.length ys.length) (H++[.arr T sz ys]) [])
def dapp(P:Program)(ts:List TypeId)(x y:D)(H:Heap)(K:OpK):Prop:=match ts with
 |[t,tx]=>(match apk P t,rowOf H y with
  | some (T,sz,by_),some ys=>Ck (ys.all (fun l=>Nat.beq l.length sz)&&(srcTy P tx y&&(Nat.beq sz 1||slTy P tx))) (match x with
   | .sl b i n h=>datarr H b fun T' sz' xs=>Ck (Nat.beq i 0&&(Nat.beq T T'&&Nat.beq sz sz')) (Ck (Nat.beq xs.length h) (Ck (Nat.beq n h) (Ck (bnd (n+ys.length) by_) (K (.sl b 0 (n+ys.length) (n+ys.length)) (H.set b (.arr T' sz' (xs++ys))) [b]))))
   | .row true []=>appB0 T sz by_ ys H K
   | .row true xs=>appB P T sz by_ (.row true xs) xs ys H K
   | .v (.slice none 0 0)=>appB0 T sz by_ ys H K
   | _=>False)
  | _,_=>False)
 | _=>False
theorem run_app {ts : Array TypeId} {t tx : TypeId} {x y : Operand} {ec : Env} {w w' : World} {v : Value} (ho : o.op = .call { callee := .builtin .append, args := #[x, y], argTypes := ts }) (hts : ts.toList = [t, tx])
    (h : (Builtin.append_ #[t, tx] o.type #[evl ec x, evl ec y]).run P w = .ok v w') : (execOp (evl ec) o).run P w = .ok (.value v) w' := by
  have : ts = #[t, tx] := by apply Array.ext'; rw [hts]
  subst this
  unfold execOp
  simp only [ho, resolve, invoke, builtin, run_bind, run_pure]
  simp [h]
theorem appB_ok {t tx T sz by_ : Nat} {xs ys : List (List D)} {d : D} {ts : Array TypeId} {x' y' : Operand} (ho : o.op = .call { callee := .builtin .append, args := #[x', y'], argTypes := ts }) (hts : ts.toList = [t, tx]) (hap : apk P t = some (T, sz, by_))
    (hy : rowOf H (dev e y') = some ys) (hyz : ys.all (fun l => Nat.beq l.length sz) = true) (hsrc : srcTy P tx (dev e y') = true) (hsz : sz = 1 ∨ slTy P tx = true) (hx : rowOf H (dev e x') = some xs) (hd : dev e x' = d)
    (hcap : ∀ X y, Rp X d y → ∃ a, y = .slice a xs.length xs.length) (hxs : slTy P t = true → srcTy P t d = true) (h : appB P T sz by_ d xs ys H K) : AO1 P o K e H := by
  obtain ⟨i, z, ht, hi, hz, hzs, hi1, hi2⟩ := apk_info hap
  have htsl : slTy P t = true := by unfold slTy; rw [ht]
  intro X M ec hs hH he
  subst hH
  have hr := he.dev x'
  rw [hd] at hr
  obtain ⟨a, ha⟩ := hcap X _ hr
  obtain ⟨us, hus, hsrcY⟩ := src_ok hs hy (he.dev y') hyz hsrc
  have hsrcY := hsrcY hsz
  unfold appB at h
  rcases h.elim with ⟨h0, hK⟩ | ⟨h0, h⟩
  · have h0 := Nat.eq_of_beq_eq_true h0
    obtain rfl : ys = [] := List.eq_nil_of_length_eq_zero h0
    have hus0 : us = [] := List.eq_nil_of_length_eq_zero (by rw [hus.len]; simp)
    rw [hus0] at hsrcY
    subst hi1
    have hrun := run_append_nothing X.w t tx o.type T i ht hi a xs.length xs.length (Nat.le_refl _) (evl ec y') hsrcY
    rw [← ha] at hrun
    exact stepE_val (run_app ho hts hrun) ⟨X, M, d, [], Ev.refl _ _ _, hs, rfl, hr, hK⟩
  · obtain ⟨hb, hK⟩ := h.t
    simp only [Bool.and_eq_true] at hb
    have hm : ys.length ≠ 0 := fun e => by rw [e] at h0; cases h0
    obtain ⟨vs, hvs, hsrcX⟩ := src_ok hs hx (he.dev x') hb.1 (by rw [hd]; exact hxs htsl)
    have hsrcX := hsrcX (.inr htsl)
    rw [ha] at hsrcX
    obtain ⟨c2, cur, hrun, hc2, hcm, hcs, htk⟩ := grow_run (ty := o.type) hap hsrcX.cellsD hvs.len hsrcY (by omega) hb.2 (Nat.le_refl _)
    rw [← ha] at hrun
    have E0 : Ext X.w (X.w.drew.alloc (.cells cur T)) := Ext.trans frm_drew (frm_alloc _)
    have hat : (X.w.drew.alloc (.cells cur T)).heap[X.w.heap.size]? = some (.cells cur T (0, 0)) := heap_alloc_new X.w.drew _
    have E := new_ev (o := .arr T sz (xs ++ ys)) hs E0 (Nat.le_refl _)
    have hF := (hvs.app hus).ev E hs
    refine stepE_val (run_app ho hts hrun) ⟨newX X _ X.w.heap.size (.arr T sz (xs ++ ys)), newM M X.w.heap.size, _, [], E, new_sim hs E0 (Nat.le_refl _) (by simp) ?_, rfl, ?_, hK⟩
    · exact blk_flat newX_new.2.2 (by rw [newX_new.2.1]; exact hat) hF htk
    · exact rp_whole hat (by simp) hc2 hcm (by rw [hcs]; exact Nat.le_refl _)
theorem appB0_ok {t tx T sz by_ : Nat} {ys : List (List D)} {d : D} {ts : Array TypeId} {x' y' : Operand} (ho : o.op = .call { callee := .builtin .append, args := #[x', y'], argTypes := ts }) (hts : ts.toList = [t, tx]) (hap : apk P t = some (T, sz, by_))
    (hy : rowOf H (dev e y') = some ys) (hyz : ys.all (fun l => Nat.beq l.length sz) = true) (hsrc : srcTy P tx (dev e y') = true) (hsz : sz = 1 ∨ slTy P tx = true) (hx : rowOf H (dev e x') = some []) (hd : dev e x' = d)
    (hcap : ∀ X y, Rp X d y → ∃ a, y = .slice a 0 0) (hxs : slTy P t = true → srcTy P t d = true) (h : appB0 T sz by_ ys H K) : AO1 P o K e H := by
  obtain ⟨hb, hK⟩ := h.t
  cases ys with
  | cons y ys => exact appB_ok ho hts hap hy hyz hsrc hsz hx hd hcap hxs (by unfold appB; exact ck (by simp only [List.all_nil, Bool.true_and, List.length_nil, Nat.zero_add]; exact hb) (by rw [List.length_nil, Nat.zero_add]; exact hK))
  | nil =>
    obtain ⟨i, z, ht, hi, hz, hzs, hi1, hi2⟩ := apk_info hap
    intro X M ec hs hH he
    subst hH
    have hr := he.dev x'
    rw [hd] at hr
    obtain ⟨a, ha⟩ := hcap X _ hr
    obtain ⟨us, hus, hsrcY⟩ := src_ok hs hy (he.dev y') hyz hsrc
    have hsrcY := hsrcY hsz
    have hus0 : us = [] := List.eq_nil_of_length_eq_zero (by rw [hus.len]; simp)
    rw [hus0] at hsrcY
    subst hi1
    have hrun := run_append_nothing X.w t tx o.type T i ht hi a 0 0 (Nat.le_refl _) (evl ec y') hsrcY
    rw [← ha] at hrun
    exact stepE_val (run_app ho hts hrun) ⟨ghX X (.arr T i.size []), M, _, [], gh_ev, gh_sim hs, rfl, by rw [ha]; exact rp_gh, hK⟩
theorem dapp_ok {ts : Array TypeId} {x y : Operand} (ho : o.op = .call { callee := .builtin .append, args := #[x, y], argTypes := ts }) (h : dapp P ts.toList (dev e x) (dev e y) H K) : AO1 P o K e H := by
  unfold dapp at h
  split at h
  case h_2 => exact h.elim
  rename_i t tx hts
  split at h
  case h_2 => exact h.elim
  rename_i T sz by_ ys hap hy
  obtain ⟨hb, h⟩ := h.t
  simp only [Bool.and_eq_true, Bool.or_eq_true] at hb
  obtain ⟨hyz, hsrc, hsz⟩ := hb
  have hsz : sz = 1 ∨ slTy P tx = true := hsz.imp (fun h => Nat.eq_of_beq_eq_true h) id
  split at h
  · rename_i b i n hh hx
    obtain ⟨T', sz', xs, hb, h⟩ := datarr_some h
    obtain ⟨hc1, hA1⟩ := h.t
    obtain ⟨hlen, hA2⟩ := hA1.t
    obtain ⟨hnh, hA3⟩ := hA2.t
    obtain ⟨hbd, hK⟩ := hA3.t
    clear h hA1 hA2 hA3
    simp only [Bool.and_eq_true] at hc1
    have e1 := Nat.eq_of_beq_eq_true hc1.1
    have e2 := Nat.eq_of_beq_eq_true hc1.2.1
    have e3 := Nat.eq_of_beq_eq_true hc1.2.2
    have hlen := Nat.eq_of_beq_eq_true hlen
    have hnh := Nat.eq_of_beq_eq_true hnh
    subst e1; subst e2; subst e3; subst hnh
    intro X M ec hs hH he
    subst hH
    obtain ⟨us, hus, hsrcY⟩ := src_ok hs hy (he.dev y) hyz hsrc
    have hsrcY := hsrcY hsz
    have hr := he.dev x
    rw [hx] at hr
    obtain ⟨a, c, ha, halt⟩ := dev_sl he hx hb hlen
    have hblt := lt_of_some hb
    obtain ⟨inf, z, ht, hi, hz, hzs, hi1, hi2⟩ := apk_info hap
    have grow : ∀ (olds : List Value), Flat X sz xs olds → (Builtin.firstCells sz n (.slice a n c)).run P X.w.drew = .ok olds.toArray X.w.drew → n ≤ c → c < n + ys.length →
        stepE P (execOp (evl ec) o) X.w fun v w' => ∃ X' M' d ms, Ev (fun b => b ∈ ms) X M X' M' ∧ Sim X' M' ∧ X'.w = w' ∧ Rp X' d v ∧ K d X'.H ms := by
      intro olds hF hold hnc hcl
      obtain ⟨c2, cur, hrun, hc2, hcm, hcs, htk⟩ := grow_run (ty := o.type) hap hold (by rw [hF.len, hlen]) hsrcY hcl hbd hnc
      rw [← ha] at hrun
      have E0 : Ext X.w (X.w.drew.alloc (.cells cur T)) := Ext.trans frm_drew (frm_alloc _)
      have hat : (X.w.drew.alloc (.cells cur T)).heap[X.w.heap.size]? = some (.cells cur T (0, 0)) := heap_alloc_new X.w.drew _
      have hgl : xs.length < (xs ++ ys).length := by rw [List.length_append]; omega
      have E := reg_ev hs E0 (Nat.le_refl _) hb hgl
      have hF2 := (hF.app hus).ev E hs
      refine stepE_val (run_app ho hts hrun) ⟨regX X _ b X.w.heap.size (.arr T sz (xs ++ ys)), newM M X.w.heap.size, _, [b], E, reg_sim hs E0 (Nat.le_refl _) (by simp) hb hgl ?_, rfl, ?_, hK⟩
      · exact blk_flat (regX_new hblt).2.2 (by rw [(regX_new hblt).2.1]; exact hat) hF2 htk
      · refine .sl (by simp [regX]; exact hblt) fun T2 sz2 xs2 hx2 => ?_
        rw [(regX_new hblt).1] at hx2
        cases hx2
        refine ⟨by simp [hlen], fun _ => .inr ⟨(regX_new hblt).2.2, by rw [(regX_new hblt).2.1]; simp, hc2, hcm, cur, by rw [(regX_new hblt).2.1]; exact hat, by rw [hcs]; simp⟩⟩
    rcases halt with ⟨hn0, hc0⟩ | ⟨hg, rfl, hnc, hcm, cur, hcur, hcs⟩
    · subst hn0; subst hc0
      obtain rfl : xs = [] := List.eq_nil_of_length_eq_zero hlen
      by_cases hm : ys.length = 0
      · obtain rfl : ys = [] := List.eq_nil_of_length_eq_zero hm
        have hus0 : us = [] := List.eq_nil_of_length_eq_zero (by rw [hus.len]; simp)
        rw [hus0] at hsrcY
        subst hi1
        have hrun := run_append_nothing X.w t tx o.type T inf ht hi a 0 0 (Nat.le_refl _) (evl ec y) hsrcY
        rw [← ha] at hrun
        refine stepE_val (run_app ho hts hrun) ⟨X, M, _, [b], Ev.refl _ _ _, hs, rfl, hr, ?_⟩
        have hset : X.H.set b (.arr T inf.size ([] ++ [])) = X.H := by
          rw [show ([] ++ [] : List (List D)) = [] from rfl]
          obtain ⟨hl, he⟩ := List.getElem?_eq_some_iff.1 hb
          rw [← he]; exact List.set_getElem_self hl
        rw [List.append_nil, show ([] : List (List D)) = [] ++ [] from rfl, hset] at hK
        exact hK
      · refine grow [] .nil ?_ (Nat.le_refl _) (by omega)
        cases a with
        | none => exact run_firstCells_none X.w.drew sz 0 0 0
        | some a0 => exact run_firstCells_some X.w.drew sz 0 a0 0 0 [] (by simp) (fun j u h => by simp at h)
    · have hB := hs.blk b _ hb
      obtain ⟨hle, hF⟩ := Blk.flat hB hg hcur
      by_cases hroom : n + ys.length ≤ c
      · -- in place
        have hfit : 0 * sz + n * sz + us.length ≤ cur.size := by
          rw [hus.len]
          have : (n + ys.length) * sz ≤ c * sz := Nat.mul_le_mul_right _ hroom
          rw [Nat.add_mul] at this
          rw [Nat.zero_add] at hcs
          omega
        have hst := run_storeCells (P := P) us 0 (b := X.ρ b) (off := n * sz) hcur (by omega) hsrcY.one
        rw [Nat.add_zero] at hst
        have hrun : (Builtin.append_ #[t, tx] o.type #[.slice (some ⟨X.ρ b, 0 * sz, none⟩) n c, evl ec y]).run P X.w = .ok (.slice (some ⟨X.ρ b, 0 * sz, none⟩) (n + ys.length) c) (setB X.w (X.ρ b) (.cells (putAt cur (n * sz) us) T (0, 0))) := by
          subst hi1
          rw [Nat.zero_mul]
          rcases hsrcY.kind with ⟨e', hk⟩ | hk <;> simp [Builtin.append_, run_underlying ht, run_underlying hk, sizeOf, typeInfo, hi, hsrcY.len, hroom, hsrcY.cells, Addr.add_lit, hst]
        rw [← ha] at hrun
        have hll : (xs ++ ys).length = xs.length ∨ xs.length < (xs ++ ys).length := by rw [List.length_append]; omega
        have hlk : X.w.heap[X.ρ b]? = some (.cells cur T (0, 0)) := hcur
        have E := set_ev (xs' := xs ++ ys) (cur' := putAt cur (n * sz) us) hs hb hg hll hcur (size_putAt _ _ _)
        have hF2 := (hF.app hus).ev E hs
        have hBn : Blk (setX X (setB X.w (X.ρ b) (.cells (putAt cur (n * sz) us) T (0, 0))) b (.arr T sz (xs ++ ys))) b (.arr T sz (xs ++ ys)) := by
          refine blk_flat hg (getElem_setB_self hcur) hF2 ?_
          apply List.ext_getElem?
          intro k
          have hl1 : (List.take (xs.length * sz) cur.toList).length = n * sz := by rw [← hlen]; simp; omega
          have hl2 : (List.take (xs.length * sz) cur.toList ++ us).length = n * sz + us.length := by rw [List.length_append, hl1]
          rw [List.getElem?_take, hl2, Array.getElem?_toList, get_putAt _ _ _ _ (by omega)]
          by_cases h1 : k < n * sz
          · rw [if_pos (by omega), if_neg (by omega), List.getElem?_append_left (by omega), List.getElem?_take_of_lt (by rw [hlen]; exact h1), Array.getElem?_toList]
          · rw [List.getElem?_append_right (by omega), hl1]
            by_cases h2 : k < n * sz + us.length
            · rw [if_pos h2, if_pos (by omega)]
            · rw [if_neg h2, List.getElem?_eq_none (by omega)]
        refine stepE_val (run_app ho hts hrun) ⟨_, M, _, [b], E, set_sim hs hb hg hll hcur (size_putAt _ _ _) hBn, rfl, ?_, hK⟩
        refine .sl (by simp [setX]; exact hblt) fun T2 sz2 xs2 hx2 => ?_
        rw [setX_new hblt] at hx2
        cases hx2
        exact ⟨by simp [hlen], fun _ => .inr ⟨hg, rfl, hroom, hcm, _, getElem_setB_self hcur, by rw [size_putAt]; exact hcs⟩⟩
      · have hold : (Builtin.firstCells sz n (.slice (some ⟨X.ρ b, 0 * sz, none⟩) n c)).run P X.w.drew = .ok (cur.toList.take (xs.length * sz)).toArray X.w.drew := by
          refine run_firstCells_some X.w.drew sz n _ n c _ (by rw [← hlen]; simp; omega) fun j u hu => ?_
          rw [List.getElem?_take] at hu
          split at hu
          · rw [Array.getElem?_toList] at hu
            rw [add_mk, Nat.zero_mul, Nat.zero_add]
            exact cell_blk (w := X.w.drew) hcur hu
          · cases hu
        exact grow _ hF hold hnc (by omega)
  · rename_i hx
    refine appB0_ok ho hts hap hy hyz hsrc hsz (by rw [hx]; rfl) hx (fun X y hr => ?_) (fun h => h) h
    cases hr with
    | row vals hcl h2 h3 h4 h5 h6 h7 => exact ⟨_, by rw [hcl rfl]; rfl⟩
  · rename_i xs _ hx
    refine appB_ok ho hts hap hy hyz hsrc hsz (by rw [hx]; rfl) hx (fun X y hr => ?_) (fun h => h) h
    cases hr with
    | row vals hcl h2 h3 h4 h5 h6 h7 => exact ⟨_, by rw [hcl rfl]⟩
  · rename_i hx
    refine appB0_ok ho hts hap hy hyz hsrc hsz (by rw [hx]; rfl) hx (fun X y hr => ⟨none, hr.v_inv⟩) (fun h => h) h
  · exact h.elim
end
end Go.Ax
namespace Go.Ax
open Go Go.Wx
variable [Globs]
section
variable {P : Program} {X X' : Cx} {M M' : Nat → Prop} {e : Nat → D} {H : Heap} {o : Oper}
def dnil(x:D)(H:Heap)(K:D→Prop):Prop:=match x with
 | .fp ds=>K (.fp ds)
 | .clo f cs=>K (.clo f cs)
 | .ifc t d=>K (.ifc t d)
 | .v (.func (.func f) a b)=>K (.v (.func (.func f) a b))
 | .v (.pointer (some a))=>K (.v (.pointer (some a)))
 | .ptr b i o h=>datarr H b fun _ _ xs=>Ck (Nat.beq xs.length h) (K (.ptr b i o h))
 | _=>False
theorem exec_nil{x:Operand}{ec:Env}{y:Value}(ho:o.op= .nilCheck x)(hx:evl ec x=y)(hy:(∃a,y= .pointer (some a))∨(∃f a b,y= .func (.func f) a b)∨∃t v,y= .iface t v):pureRun P (execOp (evl ec) o)=some (.value y):=by
 unfold execOp
 simp only[ho,hx]
 rcases hy with⟨a,rfl⟩ | ⟨f,a,b,rfl⟩ | ⟨t,v,rfl⟩<;>rfl
theorem dnil_ok{x:Operand}(ho:o.op= .nilCheck x){K:D→Prop}(h:dnil (dev e x) H K):AOP P o K e H:=by
 unfold dnil at h
 split at h
 ·rename_i ds hx
  refine AOP.mk h fun X ec _ he=>?_
  have hr:=he.dev x
  rw[hx]at hr
  generalize hy:evl ec x=y at hr
  refine⟨_,exec_nil ho hy ?_,hr⟩
  cases hr;exact .inl ⟨_,rfl⟩
 ·rename_i f cs hx
  refine AOP.mk h fun X ec _ he=>?_
  have hr:=he.dev x
  rw[hx]at hr
  generalize hy:evl ec x=y at hr
  refine⟨_,exec_nil ho hy ?_,hr⟩
  cases hr;exact .inr (.inl ⟨_,_,_,rfl⟩)
 ·rename_i t d hx
  refine AOP.mk h fun X ec _ he=>?_
  have hr:=he.dev x
  rw[hx]at hr
  generalize hy:evl ec x=y at hr
  refine⟨_,exec_nil ho hy ?_,hr⟩
  cases hr;exact .inr (.inr ⟨_,_,rfl⟩)
 ·rename_i f a b hx
  refine AOP.mk h fun X ec _ he=>?_
  have hr:=he.dev x
  rw[hx]at hr
  exact⟨_,exec_nil ho rfl (.inr (.inl ⟨_,_,_,hr.v_inv⟩)),hr⟩
 ·rename_i a hx
  refine AOP.mk h fun X ec _ he=>?_
  have hr:=he.dev x
  rw[hx]at hr
  exact⟨_,exec_nil ho rfl (.inl ⟨_,hr.v_inv⟩),hr⟩
 ·rename_i b i off hh hx
  obtain⟨T,sz,xs,hb,h⟩:=datarr_some h
  obtain⟨hl,h⟩:=h.t
  have hl:=Nat.eq_of_beq_eq_true hl
  refine AOP.mk h fun X ec hH he=>?_
  subst hH
  obtain⟨_,hy⟩:=dev_ptr he hx hb hl
  have hr:=he.dev x
  rw[hx]at hr
  exact⟨_,exec_nil ho rfl (.inl ⟨_,hy⟩),hr⟩
 ·exact h.elim
def dfunc(f:Fn)(first caps:List D)(K:D→Prop):Prop:=match f,first with
 | .func f,[]=>K (.clo f caps)
 | _,_=>False
theorem dfunc_ok{f:Fn}{first caps:Array Operand}(ho:o.op= .makeFunc f first caps){K:D→Prop}(h:dfunc f (first.toList.map (dev e)) (caps.toList.map (dev e)) K):AOP P o K e H:=by
 unfold dfunc at h
 split at h
 case h_2=>exact h.elim
 rename_i g hf
 refine AOP.mk h fun X ec _ he=>?_
 have hf0:first= #[]:=by
  apply Array.ext'
  simpa using hf
 subst hf0
 have:=RpL.map (X:=X) (fun x=>he.dev x) caps.toList
 refine⟨.func (.func g) #[] (caps.map (evl ec)),exec_val (f:=fun ec=>Instr.makeFunc (.func g) (Array.map (evl ec) #[]) (caps.map (evl ec))) (by unfold execOp;simp only[ho]) (by simp[Instr.makeFunc,pr_pure]),?_⟩
 rw[show caps.map (evl ec)=(caps.toList.map (evl ec)).toArray from Array.ext' (by rw[Array.toList_map])]
 exact Rp.clo (f:=g) this.1 this.2
def difc(P:Program)(t:TypeId)(x:D)(K:D→Prop):Prop:=match P.underlying t with
 | some (.interface _)=>False
 | none=>False
 | some _=>K (.ifc t x)
theorem difc_ok{t:TypeId}{x:Operand}(ho:o.op= .makeInterface t x){K:D→Prop}(h:difc P t (dev e x) K):AOP P o K e H:=by
 unfold difc at h
 split at h
 ·exact h.elim
 ·exact h.elim
 ·rename_i d hn hu
  refine AOP.mk h fun X ec _ he=>⟨.iface t (evl ec x),exec_val (f:=fun ec=>Instr.makeInterface t (evl ec x)) (by unfold execOp;simp only[ho]) ?_,.ifc (he.dev x)⟩
  unfold Instr.makeInterface
  simp only[pr_bind,pr_underlying hu,Option.bind_some]
  cases d<;>first | rfl | exact absurd hu (hn _)
def dlen(P:Program)(ts:List TypeId)(x:D)(K:D→Prop):Prop:=match x,ts with
 | .v a,ts=>opt (pureRun P (Builtin.len_ ts.toArray 0 #[a])) fun r=>K (.v r)
 | .row _ xs,[t]=>Ck (slTy P t) (K (.v (.int .i64 xs.length)))
 | .sl _ _ n _,[t]=>Ck (slTy P t) (K (.v (.int .i64 n)))
 | _,_=>False
theorem exec_len{ts:Array TypeId}{x:Operand}{ec:Env}{v:Value}(ho:o.op= .call {callee:= .builtin .len,args:= #[x],argTypes:=ts})(h:pureRun P (Builtin.len_ ts 0 #[evl ec x])=some v):pureRun P (execOp (evl ec) o)=some (.value v):=by
 have h':pureRun P (Builtin.len_ ts o.type #[evl ec x])=some v:=h
 unfold execOp
 simp only[ho,resolve,invoke,builtin,pr_bind,pr_pure,Option.bind_some]
 simp[h',pr_bind,pr_pure,pr_map]
theorem pr_len{t el:TypeId}(hu:P.underlying t=some (.slice el))(a:Option Addr)(n c:Nat):pureRun P (Builtin.len_ #[t] 0 #[.slice a n c])=some (.int .i64 n):=by
 unfold Builtin.len_
 show pureRun P (underlying t>>=_)=_
 simp only[pr_bind,pr_underlying hu,Option.bind_some]
 rfl
theorem dlen_ok{ts:Array TypeId}{x:Operand}(ho:o.op= .call {callee:= .builtin .len,args:= #[x],argTypes:=ts}){K:D→Prop}(h:dlen P ts.toList (dev e x) K):AOP P o K e H:=by
 unfold dlen at h
 split at h
 ·rename_i a hx
  obtain⟨r,hr,h⟩:=opt_some h
  refine AOP.mk h fun X ec _ he=>⟨r,exec_len ho ?_,.v r⟩
  have h1:=he.dev x
  rw[hx]at h1
  rw[h1.v_inv]
  simpa using hr
 ·rename_i cl xs t hx hts
  obtain⟨ht,h⟩:=h.t
  obtain⟨el,hu⟩:=slTy_some ht
  have hts':ts= #[t]:=by apply Array.ext';rw[hts]
  refine AOP.mk h fun X ec _ he=>⟨_,exec_len ho ?_,.v _⟩
  obtain⟨a,c,sz,vals,hy,_⟩:=dev_row he hx
  rw[hy,hts']
  exact pr_len hu _ _ _
 ·rename_i b i n hh t hx hts
  obtain⟨ht,h⟩:=h.t
  obtain⟨el,hu⟩:=slTy_some ht
  have hts':ts= #[t]:=by apply Array.ext';rw[hts]
  refine AOP.mk h fun X ec _ he=>⟨_,exec_len ho ?_,.v _⟩
  have h1:=he.dev x
  rw[hx]at h1
  generalize hy:evl ec x=y at h1
  cases h1
  rw[hts']
  exact pr_len hu _ _ _
 ·exact h.elim
def bval:Option D→Option (Option Int)
 | none=>some none
 | some (.v (.int _ i))=>some (some i)
 | _=>none
def lo':Option Int→Nat
 | none=>0
 | some i=>i.toNat
def hi'(n:Nat):Option Int→Nat
 | none=>n
 | some i=>i.toNat
def pos':Option Int→Bool
 | none=>true
 | some i=>nonneg i
def cutL(xs:List (List D))(l h:Option Int):List (List D):=match l,h with
 | none,none=>xs
 | none,some h=>xs.take h.toNat
 | some l,none=>xs.drop l.toNat
 | some l,some h=>(xs.drop l.toNat).take (h.toNat-l.toNat)
def dslice(P:Program)(t:TypeId)(x:D)(l h m:Option (Option Int))(H:Heap)(K:D→Prop):Prop:=match l,h,m with
 | some l,some h,some none=>(match x with
  | .v (.string s)=>Ck (pos' l&&(pos' h&&(Nat.ble (lo' l) (hi' s.size h)&&Nat.ble (hi' s.size h) s.size))&&(match P.underlying t with | some .string=>true | _=>false)) (K (.v (.string (s.extract (lo' l) (hi' s.size h)))))
  | .row _ xs=>Ck (pos' l&&(pos' h&&(Nat.ble (lo' l) (hi' xs.length h)&&Nat.ble (hi' xs.length h) xs.length))&&(match slk P t with | some (_,sz)=>xs.all (fun l=>Nat.beq l.length sz) | _=>false)) (K (.row false (cutL xs l h)))
  | .sl b i n hh=>datarr H b fun _ sz xs=>Ck (Nat.beq xs.length hh) (Ck (pos' l&&(pos' h&&(Nat.ble (lo' l) (hi' n h)&&Nat.ble (hi' n h) n))&&(match slk P t with | some (_,sz')=>Nat.beq sz sz' | _=>false)) (K (.sl b (i+lo' l) (hi' n h-lo' l) hh)))
  | .v (.slice none 0 0)=>Ck (pos' l&&(pos' h&&(Nat.beq (lo' l) 0&&Nat.beq (hi' 0 h) 0))&&(slk P t).isSome) (K (.v (.slice none 0 0)))
  | _=>False)
 | _,_,_=>False
theorem bval_of{X:Cx}{ec:Env}(he:Renv X e ec){lo:Option Operand}{l:Option Int}(h:bval (lo.map (dev e))=some l):(∀q,lo=some q→∃k i,evl ec q= .int k i∧l=some i)∧(lo=none→l=none):=by
 cases lo with
 | none=>cases h;exact⟨fun q hq=>(by cases hq),fun _=>rfl⟩
 | some q=>
  refine⟨fun q' hq=>?_,fun h=>by cases h⟩
  cases hq
  simp only[Option.map_some]at h
  unfold bval at h
  split at h
  ·rename_i hd;cases hd
  ·rename_i k i hd
   cases h
   have h1:=he.dev q
   rw[show dev e q= .v (.int k i)from Option.some.inj hd]at h1
   exact⟨k,i,h1.v_inv,rfl⟩
  ·cases h
theorem loB_lo{l:Option Int}(h:pos' l=true):loB l (lo' l):=by
 cases l with
 | none=>rfl
 | some i=>have:=nonneg_iff.1 h;show i=((i.toNat:Nat):Int);omega
theorem hiB_hi{l:Option Int}{n:Nat}(h:pos' l=true):hiB l n (hi' n l):=by
 cases l with
 | none=>rfl
 | some i=>have:=nonneg_iff.1 h;show i=((i.toNat:Nat):Int);omega
theorem cutL_eq{xs:List (List D)}{l h:Option Int}(h2:hi' xs.length h≤xs.length):cutL xs l h=(xs.drop (lo' l)).take (hi' xs.length h-lo' l):=by
 cases l<;>cases h<;>simp[cutL,lo',hi']
 rw[List.take_of_length_le (by simp)]
theorem dslice_ok{t:TypeId}{x:Operand}{lo hi:Option Operand}(ho:o.op= .slice t x lo hi none){K:D→Prop}(h:dslice P t (dev e x) (bval (lo.map (dev e))) (bval (hi.map (dev e))) (bval none) H K):AOP P o K e H:=by
 unfold dslice at h
 split at h
 case h_2=>exact h.elim
 rename_i l hh hl hhi _
 split at h
 ·rename_i s hx
  obtain⟨hb,h⟩:=h.t
  simp only[Bool.and_eq_true]at hb
  obtain⟨⟨h1,h2,h3,h4⟩,h5⟩:=hb
  have h5':P.underlying t=some .string:=by
   split at h5
   ·assumption
   ·cases h5
  refine AOP.mk h fun X ec _ he=>⟨_,?_,.v _⟩
  obtain⟨a1,a2⟩:=bval_of he hl
  obtain⟨b1,b2⟩:=bval_of he hhi
  have hr:=he.dev x
  rw[hx]at hr
  exact ex_slstr h5' ho hr.v_inv a1 a2 b1 b2 ⟨_,_,loB_lo h1,hiB_hi h2,Nat.le_of_ble_eq_true h3,Nat.le_of_ble_eq_true h4,rfl⟩
 ·rename_i cl xs hx
  obtain⟨hb,h⟩:=h.t
  simp only[Bool.and_eq_true]at hb
  obtain⟨⟨h1,h2,h3,h4⟩,h5⟩:=hb
  have h3:=Nat.le_of_ble_eq_true h3
  have h4:=Nat.le_of_ble_eq_true h4
  split at h5
  case h_2=>cases h5
  rename_i el sz hsl
  have hz:∀l∈xs,l.length=sz:=fun l hm=>Nat.eq_of_beq_eq_true (List.all_eq_true.1 h5 l hm)
  refine AOP.mk h fun X ec _ he=>?_
  obtain⟨a1,a2⟩:=bval_of he hl
  obtain⟨b1,b2⟩:=bval_of he hhi
  obtain⟨a,c,sz',vals,hy,hcl,⟨hle,hlm⟩,hs,hn,hF,hc,hr⟩:=dev_row he hx
  rw[cutL_eq h4]
  obtain⟨ys,hys⟩:∃ys,ys=(xs.drop (lo' l)).take (hi' xs.length hh-lo' l):=⟨_,rfl⟩
  have hlen:((xs.drop (lo' l)).take (hi' xs.length hh-lo' l)).length=hi' xs.length hh-lo' l:=by simp;omega
  have hmem:∀p q d,at2 ((xs.drop (lo' l)).take (hi' xs.length hh-lo' l)) p q=some d→at2 xs (lo' l+p) q=some d:=fun p q d hd=>by
   obtain⟨k,g1,g2⟩:=at2_some.1 hd
   rw[List.getElem?_take]at g1
   split at g1
   ·rw[List.getElem?_drop]at g1;exact at2_some.2 ⟨k,g1,g2⟩
   ·cases g1
  have hsub:∀ds∈(xs.drop (lo' l)).take (hi' xs.length hh-lo' l),ds∈xs:=fun ds hd=>List.mem_of_mem_drop (List.mem_of_mem_take hd)
  rw[←hys]at hlen hmem hsub ⊢
  refine⟨_,ex_slsl hsl ho hy a1 a2 b1 b2 ⟨_,_,loB_lo h1,hiB_hi h2,h3,by omega,rfl,rfl,rfl⟩,?_⟩
  rw[←hlen]
  by_cases hcl2:c=lo' l
  ·rw[if_pos hcl2]
   have:ys=[]:=List.eq_nil_of_length_eq_zero (by rw[hlen];omega)
   rw[this]
   exact .row (sz:=sz) (fun _ _=>undef) (fun h=>by cases h) ⟨Nat.zero_le _,Nat.zero_le _⟩ (fun _ h=>by cases h) (fun _=>rfl) (fun a0 _ h=>absurd rfl h) (fun a0 i j d _ h=>by simp[at2]at h) fun i j d h=>by simp[at2]at h
  ·rw[if_neg hcl2]
   cases a with
   | none=>
    have hx0:=hn rfl
    have:ys=[]:=by rw[hys,hx0];simp
    rw[this]
    exact .row (sz:=sz) (fun _ _=>undef) (fun h=>by cases h) ⟨Nat.zero_le _,Nat.zero_le _⟩ (fun _ h=>by cases h) (fun _=>rfl) (fun a0 _ h=>absurd rfl h) (fun a0 i j d _ h=>by simp[at2]at h) fun i j d h=>by simp[at2]at h
   | some a0=>
    refine .row (cl:=false) (a:=some (a0.add (lo' l*sz))) (sz:=sz) (c:=c-lo' l) (fun i j=>vals (lo' l+i) j) (fun h=>by cases h) ⟨by rw[hlen];omega,by rw[hlen];omega⟩ (fun ds hd=>hz ds (hsub ds hd)) (fun h=>by cases h) (fun a1 ha hne=>?_) (fun a1 p q d ha hd=>?_) fun p q d hd=>hr _ _ d (hmem p q d hd)
    ·cases ha
     rw[add_block]
     exact hF a0 rfl fun e=>hne (by rw[hys,e];simp)
    ·cases ha
     have h0:=hc a0 _ _ d rfl (hmem p q d hd)
     obtain⟨k,g1,_⟩:=at2_some.1 (hmem p q d hd)
     have hze:sz'=sz:=by rw[←hs k (List.mem_of_getElem? g1),hz k (List.mem_of_getElem? g1)]
     rw[hze]at h0
     rw[add_add,show lo' l*sz+(p*sz+q)=(lo' l+p)*sz+q by rw[Nat.add_mul];omega]
     exact h0
 ·rename_i b i n hh' hx
  obtain⟨T,sz,xs,hb,h⟩:=datarr_some h
  obtain⟨hlen,h1⟩:=h.t
  obtain⟨hb',hK⟩:=h1.t
  clear h h1
  simp only[Bool.and_eq_true]at hb'
  obtain⟨⟨h1,h2,h3,h4⟩,h5⟩:=hb'
  have hlen:=Nat.eq_of_beq_eq_true hlen
  have h3:=Nat.le_of_ble_eq_true h3
  have h4:=Nat.le_of_ble_eq_true h4
  split at h5
  case h_2=>cases h5
  rename_i el sz' hsl
  have h5:=Nat.eq_of_beq_eq_true h5
  subst h5
  refine AOP.mk hK fun X ec hH he=>?_
  subst hH
  obtain⟨a1,a2⟩:=bval_of he hl
  obtain⟨b1,b2⟩:=bval_of he hhi
  obtain⟨a,c,hy,halt⟩:=dev_sl he hx hb hlen
  have hnc:n≤c:=by rcases halt with⟨h,h'⟩ | ⟨_,_,h,_⟩<;>omega
  refine⟨_,ex_slsl hsl ho hy a1 a2 b1 b2 ⟨_,_,loB_lo h1,hiB_hi h2,h3,by omega,rfl,rfl,rfl⟩,.sl (lt_of_some hb) fun T2 sz2 xs2 hx2=>?_⟩
  rw[hb]at hx2
  cases hx2
  refine⟨by omega,fun _=>?_⟩
  rcases halt with⟨h,h'⟩ | ⟨hg,rfl,_,hcm,cur,hcur,hcs⟩
  ·exact .inl ⟨by omega,by omega⟩
  ·by_cases hcl:c=lo' l
   ·exact .inl ⟨by omega,by omega⟩
   ·rw[if_neg hcl]
    refine .inr ⟨hg,?_,by omega,by omega,cur,hcur,?_⟩
    ·simp only[Option.map_some,add_mk,←Nat.add_mul]
    ·rw[show i+lo' l+(c-lo' l)=i+c by omega];exact hcs
 ·rename_i hx
  obtain⟨hb,h⟩:=h.t
  simp only[Bool.and_eq_true]at hb
  obtain⟨⟨h1,h2,h3,h4⟩,h5⟩:=hb
  have h3:=Nat.eq_of_beq_eq_true h3
  have h4:=Nat.eq_of_beq_eq_true h4
  obtain⟨⟨el,sz⟩,hsl⟩:=Option.isSome_iff_exists.1 h5
  refine AOP.mk h fun X ec _ he=>⟨_,?_,.v _⟩
  obtain⟨a1,a2⟩:=bval_of he hl
  obtain⟨b1,b2⟩:=bval_of he hhi
  have hr:=he.dev x
  rw[hx]at hr
  exact ex_slsl hsl ho hr.v_inv a1 a2 b1 b2 ⟨0,0,by have:=loB_lo h1;rwa[h3]at this,by have:=hiB_hi (n:=0) h2;rwa[h4]at this,Nat.le_refl _,Nat.le_refl _,rfl,rfl,rfl⟩
 ·exact h.elim
end
end Go.Ax
namespace Go.Ax
open Go Go.Wx
variable [Globs]
structure AC(P:Program)(f:FuncId)(args:List D)(H:Heap)(R:OpK):Prop where
 cb:callB P f=true
 run:∀X M vs,Sim X M→X.H=H→RpL X args vs→Cl P f vs.toArray X.w fun v w'=>∃X' M' d ms,Ev (fun b=>b∈ms) X M X' M'∧Sim X' M'∧X'.w=w'∧Rp X' d v∧R d X'.H ms
section
variable {P : Program} {X X' : Cx} {M M' : Nat → Prop} {e : Nat → D} {H : Heap} {o : Oper}
theorem AC.mono{f:FuncId}{args:List D}{R R':OpK}(h:AC P f args H R)(hr:∀d H ms,R d H ms→R' d H ms):AC P f args H R':=⟨h.cb,fun X M vs hs hH ha=>
 Cl.mono (h.run X M vs hs hH ha) fun _ _ ⟨X',M',d,ms,h1,h2,h3,h4,h5⟩=>⟨X',M',d,ms,h1,h2,h3,h4,hr _ _ _ h5⟩⟩
def dcall(P:Program)(f:D)(args:List D)(H:Heap)(K:OpK):Prop:=match f with
 | .v (.func (.func g) ⟨[]⟩ ⟨[]⟩)=>AC P g args H K
 | .clo g caps=>AC P g (args++caps) H K
 | _=>False
theorem dcall_ok{f:Operand}{args:Array Operand}{ts:Array TypeId}{K:OpK}(ho:o.op= .call {callee:= .value f,args:=args,argTypes:=ts})(h:dcall P (dev e f) (args.toList.map (dev e)) H K):AO1 P o K e H:=by
 unfold dcall at h
 split at h
 ·rename_i g hf
  obtain⟨hg,h⟩:=h
  intro X M ec hs hH he
  have hr:=he.dev f
  rw[hf]at hr
  have ha:=RpL.map (X:=X) (fun x=>he.dev x) args.toList
  refine stepE_call (ex_callv (c:= #[]) ho hr.v_inv rfl hg) ?_
  have:=h X M _ hs hH ha
  rw[show args.map (evl ec)++ #[]=(args.toList.map (evl ec)).toArray from Array.ext' (by simp)]
  exact this
 ·rename_i g caps hf
  obtain⟨hg,h⟩:=h
  intro X M ec hs hH he
  have hr:=he.dev f
  rw[hf]at hr
  generalize hy:evl ec f=y at hr
  have ha:=RpL.map (X:=X) (fun x=>he.dev x) args.toList
  cases hr with
  | clo hl hrc=>
   rename_i vs
   refine stepE_call (ex_callv (c:=vs.toArray) ho hy rfl hg) ?_
   have:=h X M _ hs hH (ha.app ⟨hl,hrc⟩)
   rw[show args.map (evl ec)++vs.toArray=(args.toList.map (evl ec)++vs).toArray from Array.ext' (by simp)]
   exact this
 ·exact h.elim
def dconvert(P:Program)(s t:TypeId)(x:D)(K:D→Prop):Prop:=match x with
 | .v a=>opt (pureRun P (convert s t a)) fun r=>K (.v r)
 | _=>False
theorem dconvert_ok{s t:TypeId}{x:Operand}(ho:o.op= .convert s t x){K:D→Prop}(h:dconvert P s t (dev e x) K):AOP P o K e H:=by
 unfold dconvert at h
 split at h
 ·rename_i a hx
  obtain⟨r,hr,h⟩:=opt_some h
  refine AOP.mk h fun X ec _ he=>⟨r,exec_val (f:=fun ec=>convert s t (evl ec x)) (by unfold execOp;simp only[ho]) ?_,.v r⟩
  have h1:=he.dev x
  rw[hx]at h1
  rw[h1.v_inv];exact hr
 ·exact h.elim
def bytesOf:List (List D)→Option (List Int)
 |[]=>some []
 |[.v (.int .u8 n)]::l=>(bytesOf l).map (n:: ·)
 | _=>none
def strOf(ns:List Int):ByteArray:=⟨(ns.map fun n=>UInt8.ofNat n.toNat).toArray⟩
theorem bytesOf_get:∀{xs:List (List D)} {ns:List Int},bytesOf xs=some ns→ns.length=xs.length∧∀(i:Nat) n,ns[i]? =some n→xs[i]? =some [.v (.int .u8 n)]
 |[],ns,h=>by cases h;exact⟨rfl,fun i n h=>by simp at h⟩
 | l::xs,ns,h=>by
  unfold bytesOf at h
  split at h
  ·cases ‹_::_=[]›
  ·rename_i n l' heq
   obtain⟨rfl,rfl⟩:=List.cons.inj heq
   obtain⟨ns',hn,rfl⟩:=Option.map_eq_some_iff.1 h
   obtain⟨h1,h2⟩:=bytesOf_get hn
   refine⟨by simp[h1],fun i m hm=>?_⟩
   cases i with
   | zero=>simp at hm;subst hm;rfl
   | succ i=>exact h2 i m (by simpa using hm)
  ·cases h
theorem fold_push:∀(ns:List Int) (s:ByteArray),ns.foldl (fun r n=>r.push (UInt8.ofNat n.toNat)) s=⟨s.data++(ns.map fun n=>UInt8.ofNat n.toNat).toArray⟩
 |[],s=>by simp
 | n::ns,s=>by
  rw[List.foldl_cons,fold_push ns]
  congr 1
  simp[ByteArray.push]
def bytesTy(P:Program)(s t:TypeId):Bool:=match P.underlying s,P.underlying t with
 | some (.slice el),some .string=>(match P.underlying el with | some (.int .u8)=>true | _=>false)
 | _,_=>false
abbrev rws(r:Option (List (List D)))(K:List (List D)→Prop):Prop:=match r with | some v=>K v | none=>False
theorem rws_some{r:Option (List (List D))}{K:List (List D)→Prop}(h:rws r K):∃v,r=some v∧K v:=by
 cases r with
 | none=>exact h.elim
 | some v=>exact⟨v,rfl,h⟩
def blkOf:D→Option Nat
 | .sl b _ _ _=>some b
 | _=>none
def dbytes(P:Program)(s t:TypeId)(x:D)(H:Heap)(K:D→Option Nat→Prop):Prop:=match x with
 | .v a=>dconvert P s t (.v a) fun d=>K d none
 | x=>rws (rowOf H x) fun xs=>(match bytesOf xs with | some ns=>Ck (bytesTy P s t) (K (.v (.string (strOf ns))) (blkOf x)) | none=>False)
theorem exec_bytes {s t : TypeId} {x : Operand} {ec : Env} {w : World} {a : Addr} {n c : Nat} {ns : List Int} (ho : o.op = .convert s t x) (ht : bytesTy P s t = true) (hx : evl ec x = .slice (some a) n c) (h : (loadCells a n).run P w = .ok (ns.map (Value.int .u8)).toArray w) :
    (execOp (evl ec) o).run P w = .ok (.value (.string (strOf ns))) w := by
  unfold bytesTy at ht
  split at ht
  case h_2 => cases ht
  rename_i el h1 h2
  split at ht
  case h_2 => cases ht
  rename_i h3
  unfold execOp
  simp only [ho, hx]
  rw [run_bind, run_convert_bytes_string w s t el _ n c h1 h3 h2, run_bytesToString w a n c ns h, fold_push]
  simp only [run_pure]
  congr 3
  unfold strOf
  congr 1
  simp
theorem exec_bytes0{s t:TypeId}{x:Operand}{ec:Env}{w:World}{a:Option Addr}{c:Nat}(ho:o.op= .convert s t x)(ht:bytesTy P s t=true)(hx:evl ec x= .slice a 0 c):(execOp (evl ec) o).run P w= .ok (.value (.string (strOf []))) w:=by
 cases a with
 | some a=>exact exec_bytes (ns:=[]) ho ht hx rfl
 | none=>
  unfold bytesTy at ht
  split at ht
  case h_2=>cases ht
  rename_i el h1 h2
  split at ht
  case h_2=>cases ht
  rename_i h3
  unfold execOp
  simp only[ho,hx]
  rw[run_bind,run_convert_bytes_string w s t el _ 0 c h1 h3 h2]
  rfl
theorem dbytes_ok{s t:TypeId}{x:Operand}(ho:o.op= .convert s t x){K:D→Option Nat→Prop}(h:dbytes P s t (dev e x) H K):AOL P o K e H:=by
 unfold dbytes at h
 split at h
 ·rename_i a hx
  rw[←hx]at h
  exact(dconvert_ok (K:=fun d=>K d none) ho h).l
 ·obtain⟨xs,hxs,h⟩:=rws_some h
  split at h
  case h_2=>exact h.elim
  rename_i ns hns
  obtain⟨hty,h⟩:=h.t
  obtain⟨hl,hget⟩:=bytesOf_get hns
  have hz:xs.all (fun l=>Nat.beq l.length 1)=true:=List.all_eq_true.2 fun l hm=>by
   obtain⟨i,hi,rfl⟩:=List.getElem_of_mem hm
   have:=hget i (ns[i]'(by omega)) (List.getElem?_eq_getElem _)
   rw[List.getElem?_eq_getElem hi]at this
   rw[Option.some.inj this];rfl
  have hnv:∀a,dev e x=D.v a→False:=by assumption
  generalize hdx:dev e x=dx at h hxs hnv
  unfold rowOf at hxs
  split at hxs
  ·rename_i cl ys
   cases hxs
   refine⟨_,none,h,fun b hb=>(by cases hb),fun X M ec hs hH he=>⟨.string (strOf ns),.v _,fun B X' M' E _=>?_⟩⟩
   obtain⟨a,c,sz,vals,hy,hcl,hle,hss,hn,hF,hc,hr⟩:=dev_row he hdx
   cases a with
   | none=>
    have:=hn rfl
    subst this
    have:ns=[]:=List.eq_nil_of_length_eq_zero hl
    subst this
    exact exec_bytes0 ho hty hy
   | some a0=>
    refine exec_bytes ho hty hy ?_
    unfold loadCells
    have:=Go.Wx.run_loadCellsFrom (P:=P) (w:=X'.w) (a:=a0) xs.length 0 #[] (ns.map (Value.int .u8)) (by simp[hl]) (fun j v hv=>?_)
    ·simpa using this
    ·rw[List.getElem?_map,Option.map_eq_some_iff]at hv
     obtain⟨n,hn',rfl⟩:=hv
     have hxj:=hget j n hn'
     have hd:at2 xs j 0=some (.v (.int .u8 n)):=at2_some.2 ⟨_,hxj,rfl⟩
     have hsz:sz=1:=by rw[←hss _ (List.mem_of_getElem? hxj)];rfl
     obtain⟨g1,_⟩:=hc a0 j 0 _ rfl hd
     have g2:=(hr j 0 _ hd).v_inv
     rw[g2,hsz,Nat.mul_one,Nat.add_zero]at g1
     rw[Nat.zero_add]
     refine cell_frm g1 E.frm ?_
     rw[add_block]
     exact hs.dj _ (hF a0 rfl fun e=>by rw[e]at hxj;simp at hxj)
  ·rename_i b i n h0
   split at hxs
   case h_2=>cases hxs
   rename_i T sz' ys hb
   obtain⟨hc,hx⟩:=cond_some hxs
   simp only[Bool.and_eq_true]at hc
   have hlen:=Nat.eq_of_beq_eq_true hc.1
   have hle:=Nat.le_of_ble_eq_true hc.2
   have hxs':xs=(ys.drop i).take n:=by
    rw[←hx]
    cases hq:Nat.beq i 0&&Nat.beq n ys.length with
    | false=>rfl
    | true=>
     simp only[Bool.and_eq_true]at hq
     have e1:=Nat.eq_of_beq_eq_true hq.1
     have e2:=Nat.eq_of_beq_eq_true hq.2
     subst e1;subst e2
     simp
   have hxn:xs.length=n:=by rw[hxs'];simp;omega
   refine⟨_,some b,h,fun b' hb'=>(by cases hb';exact lt_of_some hb),fun X M ec hs hH he=>⟨.string (strOf ns),.v _,fun B X' M' E hn=>?_⟩⟩
   subst hH
   obtain⟨a,c,hy,halt⟩:=dev_sl he hdx hb hlen
   rcases halt with⟨h0,_⟩ | ⟨hg,rfl,hnc,hcm,cur,hcur,hcs⟩
   ·subst h0
    have:ns=[]:=List.eq_nil_of_length_eq_zero (by omega)
    subst this
    exact exec_bytes0 ho hty hy
   ·refine exec_bytes ho hty hy ?_
    unfold loadCells
    have:=Go.Wx.run_loadCellsFrom (P:=P) (w:=X'.w) (a:=⟨X.ρ b,i*sz',none⟩) n 0 #[] (ns.map (Value.int .u8)) (by simp[hl,hxn]) (fun j v hv=>?_)
    ·simpa using this
    ·rw[List.getElem?_map,Option.map_eq_some_iff]at hv
     obtain⟨m,hn',rfl⟩:=hv
     have hxj:=hget j m hn'
     have hyj:ys[i+j]? =some [.v (.int .u8 m)]:=by
      rw[hxs',List.getElem?_take]at hxj
      split at hxj
      ·rw[List.getElem?_drop]at hxj;exact hxj
      ·cases hxj
     obtain⟨_,cur',v,hcur',_,hsz,hv,_,hr⟩:=hs.cell hb hyj (j:=0) rfl
     rw[hcur]at hcur'
     cases hcur'
     have hsz:sz'=1:=hsz.symm
     rw[hr.v_inv,hsz,Nat.mul_one,Nat.add_zero]at hv
     have hk:=(E.old b (lt_of_some hb) (hn b rfl)).2.2.2 hg
     rw[add_mk,hsz,Nat.mul_one,Nat.zero_add]
     exact cell_blk (hk.trans hcur) hv
  ·exact absurd rfl (hnv _)
  ·exact absurd rfl (hnv _)
  ·cases hxs
def valsOf:List D→Option (List Value)
 |[]=>some []
 | .v x::l=>(valsOf l).map (x:: ·)
 | _=>none
theorem valsOf_rp:∀{ds:List D} {xs vs:List Value},valsOf ds=some xs→RpL X ds vs→vs=xs
 |[],xs,vs,h,hr=>by cases h;exact List.eq_nil_of_length_eq_zero hr.1
 | d::ds,xs,vs,h,hr=>by
  unfold valsOf at h
  split at h
  ·cases ‹_::_=[]›
  ·rename_i x l heq
   obtain⟨rfl,rfl⟩:=List.cons.inj heq
   obtain⟨xs',hx,rfl⟩:=Option.map_eq_some_iff.1 h
   cases vs with
   | nil=>have:=hr.1;simp at this
   | cons v vs=>
    have h1:=hr.2 0 _ v rfl rfl
    rw[h1.v_inv,valsOf_rp hx ⟨by have:=hr.1;simpa using this,fun j d y h2 h3=>hr.2 (j+1) d y h2 h3⟩]
  ·cases h
def dminmax(P:Program)(b:Builtin)(args:List D)(K:D→Prop):Prop:=match valsOf args,b with
 | some xs,.min=>opt (pureRun P (Builtin.min_ #[] 0 xs.toArray)) fun r=>K (.v r)
 | some xs,.max=>opt (pureRun P (Builtin.max_ #[] 0 xs.toArray)) fun r=>K (.v r)
 | _,_=>False
theorem dminmax_ok{b:Builtin}{args:Array Operand}{ts:Array TypeId}(ho:o.op= .call {callee:= .builtin b,args:=args,argTypes:=ts}){K:D→Prop}(h:dminmax P b (args.toList.map (dev e)) K):AOP P o K e H:=by
 unfold dminmax at h
 split at h
 ·rename_i xs hv
  obtain⟨r,hr,h⟩:=opt_some h
  refine AOP.mk h fun X ec _ he=>⟨r,?_,.v r⟩
  have:=valsOf_rp hv (RpL.map (X:=X) (fun x=>he.dev x) args.toList)
  have ha:args.map (evl ec)=xs.toArray:=Array.ext' (by simpa using this)
  have hr':pureRun P (Builtin.min_ ts o.type xs.toArray)=some r:=hr
  unfold execOp
  simp only[ho,resolve,invoke,builtin,pr_bind,pr_pure,Option.bind_some,ha]
  simp[hr',pr_bind,pr_pure,pr_map]
 ·rename_i xs hv
  obtain⟨r,hr,h⟩:=opt_some h
  refine AOP.mk h fun X ec _ he=>⟨r,?_,.v r⟩
  have:=valsOf_rp hv (RpL.map (X:=X) (fun x=>he.dev x) args.toList)
  have ha:args.map (evl ec)=xs.toArray:=Array.ext' (by simpa using this)
  have hr':pureRun P (Builtin.max_ ts o.type xs.toArray)=some r:=hr
  unfold execOp
  simp only[ho,resolve,invoke,builtin,pr_bind,pr_pure,Option.bind_some,ha]
  simp[hr',pr_bind,pr_pure,pr_map]
 ·exact h.elim
end
end Go.Ax
namespace Go.Ax
open Go Go.Wx
variable [Globs]
def leafEq:Value→Value→Bool
 | .int _ a,.int _ b=>a==b
 | .string a,.string b=>strEq a b
 | .bool a,.bool b=>a==b
 | _,_=>false
def leafTy(P:Program)(t:TypeId)(a b:Value):Bool:=match P.underlying t,a,b with
 | some (.int _),.int k _,.int k' _=>kEq k k'
 | some .string,.string _,.string _=>true
 | some .bool,.bool _,.bool _=>true
 | _,_,_=>false
def eqLs:List Value→List Value→Bool
 | a::as,b::bs=>leafEq a b&&eqLs as bs
 | _,_=>true
theorem eqLs_split:∀(n:Nat) (vs us:List Value),eqLs vs us=(eqLs (vs.take n) (us.take n)&&eqLs (vs.drop n) (us.drop n))
 | 0,vs,us=>by simp[eqLs]
 | n+1,[],us=>by simp[eqLs]
 | n+1,a::vs,[]=>by simp[eqLs]
 | n+1,a::vs,b::us=>by
  simp only[eqLs,List.take_succ_cons,List.drop_succ_cons]
  rw[eqLs_split n vs us,Bool.and_assoc]
def eqFs(P:Program)(rec:TypeId→List Value→List Value→Bool):Nat→List Field→List Value→List Value→Bool
 | _,[],vs,us=>vs.isEmpty&&us.isEmpty
 | pos,f::fs,vs,us=>(match tyk P f.type with
  | some (_,n)=>decide (f.name≠ "_")&&(Nat.beq f.offset pos&&(Nat.ble n vs.length&&(Nat.ble n us.length&&(rec f.type (vs.take n) (us.take n)&&eqFs P rec (pos+n) fs (vs.drop n) (us.drop n)))))
  | none=>false)
def eqEs(rec:List Value→List Value→Bool)(n:Nat):Nat→List Value→List Value→Bool
 | 0,vs,us=>vs.isEmpty&&us.isEmpty
 | k+1,vs,us=>Nat.ble n vs.length&&(Nat.ble n us.length&&(rec (vs.take n) (us.take n)&&eqEs rec n k (vs.drop n) (us.drop n)))
def eqTyN(P:Program):Nat→TypeId→List Value→List Value→Bool
 | 0,_,_,_=>false
 | d+1,t,vs,us=>match P.underlying t with
  | some (.struct fs)=> !P.stoodInHeld t&&eqFs P (eqTyN P d) 0 fs.toList vs us
  | some (.array len e)=>(match tyk P e with
   | some (_,n)=>eqEs (eqTyN P d e) n len vs us
   | none=>false)
  | _=>(match vs,us with |[a],[b]=>leafTy P t a b | _,_=>false)
def packV(g:Bool)(vs:List Value):Value:=match g,vs with
 | true,vs=> .agg vs.toArray
 | false,a::_=>a
 | false,[]=>undef
section
variable {P : Program} {w : World}
theorem run_part{t:TypeId}{g:Bool}{n off:Nat}{cs:Array Value}(h:tyk P t=some (g,n))(hg:g=false→((cs.toList.drop off).take n).length=1):(part t cs off).run P w= .ok (packV g ((cs.toList.drop off).take n)) w:=by
 obtain⟨h1,h2⟩:=tyk_run (w:=w) h
 unfold part
 simp only[run_bind,h1,h2]
 cases g with
 | true=>
  simp only[if_true,run_bind,h2,run_pure,packV]
  congr 2
  apply Array.toList_inj.1
  simp[List.extract_eq_take_drop]
 | false=>
  have hl:=hg rfl
  simp only[Bool.false_eq_true,if_false]
  have hx:∃a,(cs.toList.drop off).take n=[a]:=by
   match hc:(cs.toList.drop off).take n,hl with
   |[a],_=>exact⟨a,rfl⟩
  obtain⟨a,ha⟩:=hx
  have h0:cs[off]? =some a:=by
   have:((cs.toList.drop off).take n)[0]? =some a:=by rw[ha];rfl
   rw[List.getElem?_take]at this
   split at this
   ·rw[List.getElem?_drop,Nat.add_zero,Array.getElem?_toList]at this;exact this
   ·cases this
  rw[ha,h0]
  rfl
theorem leaf_run{m:Nat}{t:TypeId}{a b:Value}(h:leafTy P t a b=true):(Op.equalIn (m+1) t a b).run P w= .ok (leafEq a b) w:=by
 unfold leafTy at h
 split at h
 ·obtain rfl:=kEq_eq h
  rw[run_equalIn_int w m t _ _ _ _ (by assumption)];rfl
 ·rw[run_equalIn_string w m t _ _ (by assumption)]
  rfl
 ·rw[run_equalIn_bool' w m t _ _ (by assumption)];rfl
 ·cases h
theorem eqTyN_one{d:Nat}{t:TypeId}{n:Nat}{vs us:List Value}(ht:tyk P t=some (false,n))(h:eqTyN P d t vs us=true):∃a b,vs=[a]∧us=[b]∧leafTy P t a b=true:=by
 cases d with
 | zero=>cases h
 | succ d=>
  have hu:∀fs,P.underlying t≠some (.struct fs):=fun fs hu=>by
   unfold tyk at ht
   rw[hu]at ht
   cases hi:P.info? t with
   | none=>rw[hi]at ht;cases ht
   | some i=>rw[hi]at ht;cases ht
  have hu':∀l e,P.underlying t≠some (.array l e):=fun l e hu=>by
   unfold tyk at ht
   rw[hu]at ht
   cases hi:P.info? t with
   | none=>rw[hi]at ht;cases ht
   | some i=>rw[hi]at ht;cases ht
  unfold eqTyN at h
  split at h
  ·exact absurd (by assumption) (hu _)
  ·exact absurd (by assumption) (hu' _ _)
  ·split at h
   ·exact⟨_,_,rfl,rfl,h⟩
   ·cases h
theorem eqFs_run {d m : Nat} (ih : ∀ {t : TypeId} {g : Bool} {n : Nat} {vs us : List Value}, tyk P t = some (g, n) → eqTyN P d t vs us = true → (Op.equalIn (m + d) t (packV g vs) (packV g us)).run P w = .ok (eqLs vs us) w) (xs ys : Array Value) :
    ∀ (fs : List Field) (pos : Nat) (vs us : List Value), xs.toList.drop pos = vs → ys.toList.drop pos = us → eqFs P (eqTyN P d) pos fs vs us = true → (Op.eqFields (m + d) xs ys fs).run P w = .ok (eqLs vs us) w
  | [], pos, vs, us, hv, hu, h => by
    simp [eqFs] at h
    rw [h.1]
    simp [Op.eqFields, eqLs, run_pure]
  | f :: fs, pos, vs, us, hv, hu, h => by
    unfold eqFs at h
    split at h
    case h_2 => cases h
    rename_i g n ht
    simp only [Bool.and_eq_true, decide_eq_true_eq] at h
    obtain ⟨hn, ho, hl1, hl2, hr, hf⟩ := h
    have ho := Nat.eq_of_beq_eq_true ho
    have hl1 := Nat.le_of_ble_eq_true hl1
    have hl2 := Nat.le_of_ble_eq_true hl2
    have h1 : g = false → (vs.take n).length = 1 ∧ (us.take n).length = 1 := fun e => by
      subst e
      obtain ⟨a, b, e1, e2, _⟩ := eqTyN_one ht hr
      rw [e1, e2]; exact ⟨rfl, rfl⟩
    have p1 := run_part (w := w) (cs := xs) (off := f.offset) ht (fun e => by rw [ho, hv]; exact (h1 e).1)
    have p2 := run_part (w := w) (cs := ys) (off := f.offset) ht (fun e => by rw [ho, hu]; exact (h1 e).2)
    rw [ho, hv] at p1
    rw [ho, hu] at p2
    have p3 := ih ht hr
    have p4 := eqFs_run ih xs ys fs (pos + n) (vs.drop n) (us.drop n) (by rw [← hv, List.drop_drop]) (by rw [← hu, List.drop_drop]) hf
    simp only [Op.eqFields]
    rw [if_pos hn, ho]
    simp only [run_bind, p1, p2, p3]
    rw [eqLs_split n vs us]
    cases he : eqLs (vs.take n) (us.take n) with
    | false => simp [run_pure]
    | true => simp [p4]
theorem eqEs_run {d m : Nat} {t : TypeId} {g : Bool} {n : Nat} (ht : tyk P t = some (g, n)) (ih : ∀ {vs us : List Value}, eqTyN P d t vs us = true → (Op.equalIn (m + d) t (packV g vs) (packV g us)).run P w = .ok (eqLs vs us) w) (xs ys : Array Value) :
    ∀ (k j : Nat) (vs us : List Value), xs.toList.drop (j * n) = vs → ys.toList.drop (j * n) = us → eqEs (eqTyN P d t) n k vs us = true → (Op.eqItems (m + d) t n xs ys (List.range' j k)).run P w = .ok (eqLs vs us) w
  | 0, j, vs, us, hv, hu, h => by
    simp [eqEs] at h
    rw [h.1]
    simp [Op.eqItems, eqLs, run_pure]
  | k + 1, j, vs, us, hv, hu, h => by
    simp only [eqEs, Bool.and_eq_true] at h
    obtain ⟨hl1, hl2, hr, hf⟩ := h
    have h1 : g = false → (vs.take n).length = 1 ∧ (us.take n).length = 1 := fun e => by
      subst e
      obtain ⟨a, b, e1, e2, _⟩ := eqTyN_one ht hr
      rw [e1, e2]; exact ⟨rfl, rfl⟩
    have p1 := run_part (w := w) (cs := xs) (off := j * n) ht (fun e => by rw [hv]; exact (h1 e).1)
    have p2 := run_part (w := w) (cs := ys) (off := j * n) ht (fun e => by rw [hu]; exact (h1 e).2)
    rw [hv] at p1
    rw [hu] at p2
    have p3 := ih hr
    have p4 := eqEs_run ht ih xs ys k (j + 1) (vs.drop n) (us.drop n) (by rw [← hv, List.drop_drop, Nat.succ_mul]) (by rw [← hu, List.drop_drop, Nat.succ_mul]) hf
    rw [List.range'_succ]
    simp only [Op.eqItems, run_bind, p1, p2, p3]
    rw [eqLs_split n vs us]
    cases he : eqLs (vs.take n) (us.take n) with
    | false => simp [run_pure]
    | true => simp [p4]
theorem eqTyN_run{m:Nat}:∀{d:Nat} {t:TypeId} {g:Bool} {n:Nat} {vs us:List Value},tyk P t=some (g,n)→eqTyN P d t vs us=true→(Op.equalIn (m+d) t (packV g vs) (packV g us)).run P w= .ok (eqLs vs us) w
 | 0,t,g,n,vs,us,ht,h=>by cases h
 | d+1,t,g,n,vs,us,ht,h=>by
  cases g with
  | false=>
   obtain⟨a,b,rfl,rfl,h'⟩:=eqTyN_one ht h
   simp only[packV,eqLs,Bool.and_true]
   exact leaf_run (m:=m+d) h'
  | true=>
   simp only[packV]
   unfold eqTyN at h
   split at h
   ·rename_i fs hu
    simp only[Bool.and_eq_true,Bool.not_eq_true']at h
    have hf:P.fieldsOf t=fs:=by simp[Program.fieldsOf,hu]
    rw[show m+(d+1)=(m+d)+1 by omega,run_equalIn_struct w (m+d) t _ _ (by rw[hf];exact hu) h.1,hf]
    exact eqFs_run (fun ht h=>eqTyN_run ht h) vs.toArray us.toArray fs.toList 0 vs us (by simp) (by simp) h.2
   ·rename_i len e hu
    split at h
    case h_2=>cases h
    rename_i g n' hte
    have hi:∃i,P.info? e=some i∧P.cellsOf e=n':=by
     unfold tyk at hte
     cases hi:P.info? e with
     | none=>rw[hi]at hte;cases hq:P.underlying e<;>rw[hq]at hte<;>simp at hte
     | some i=>
      refine⟨i,rfl,?_⟩
      rw[hi]at hte
      cases hq:P.underlying e with
      | none=>rw[hq]at hte;simp at hte
      | some q=>rw[hq]at hte;cases q<;>simp at hte<;>simp[Program.cellsOf,hi,hte.2]
    obtain⟨i,hi,hc⟩:=hi
    rw[show m+(d+1)=(m+d)+1 by omega,run_equalIn_array w (m+d) vs.toArray us.toArray hu hi,hc,List.range_eq_range']
    exact eqEs_run hte (fun h=>eqTyN_run hte h) vs.toArray us.toArray len 0 vs us (by simp) (by simp) h
   ·rename_i hn1 hn2
    unfold tyk at ht
    cases hu:P.underlying t with
    | none=>rw[hu]at ht;simp at ht
    | some q=>
     rw[hu]at ht
     cases hi:P.info? t with
     | none=>rw[hi]at ht;simp at ht
     | some i=>
      rw[hi]at ht
      cases q<;>simp at ht
      all_goals first | exact absurd hu (hn1 _) | exact absurd hu (hn2 _ _)
end
section
variable {P : Program} {X X' : Cx} {M M' : Nat → Prop} {e : Nat → D} {H : Heap} {o : Oper}
def valsD:D→Option (List Value)
 | .agg ds=>valsOf ds
 | .v (.agg cs)=>some cs.toList
 | _=>none
theorem valsD_rp{d:D}{vs:List Value}(h:valsD d=some vs){y:Value}(hr:Rp X d y):y= .agg vs.toArray:=by
 unfold valsD at h
 split at h
 ·cases hr with
  | agg hl hr=>rw[valsOf_rp h ⟨hl,hr⟩]
 ·cases h;rw[hr.v_inv]
 ·cases h
def EqT(P:Program)(t:TypeId)(vs us:List Value):Prop:=P.eqGuardType P.depth t=false∧(match tyk P t with | some (true,_)=>eqTyN P 9 t vs us | _=>false)=true
theorem EqT.run{t:TypeId}{vs us:List Value}(h:EqT P t vs us)(w:World):(Op.equal t (.agg vs.toArray) (.agg us.toArray)).run P w= .ok (eqLs vs us) w:=by
 obtain⟨_,h⟩:=h
 split at h
 ·exact eqTyN_run (m:=9991) (by assumption) h
 ·cases h
abbrev vls(r:Option (List Value))(K:List Value→Prop):Prop:=match r with | some v=>K v | none=>False
theorem vls_some{r:Option (List Value)}{K:List Value→Prop}(h:vls r K):∃v,r=some v∧K v:=by
 cases r with
 | none=>exact h.elim
 | some v=>exact⟨v,rfl,h⟩
def eqRes(op:BinOp)(b:Bool)(K:Value→Prop):Prop:=match op with
 | .eql=>K (.bool b)
 | .neq=>K (.bool (!b))
 | _=>False
def dbinA(P:Program)(op:BinOp)(t:TypeId)(a b:D)(K:Value→Prop):Prop:=vls (valsD a) fun vs=>vls (valsD b) fun us=>EqT P t vs us∧eqRes op (eqLs vs us) K
def ptrTy(P:Program)(t:TypeId):Bool:=match P.underlying t with | some (.pointer _)=>true | _=>false
def nilc(P:Program)(op:BinOp)(t:TypeId)(K:Value→Prop):Prop:=Ck (ptrTy P t) (eqRes op false K)
def dbinX(P:Program)(op:BinOp)(t:TypeId)(x y:Operand)(a b:D)(H:Heap)(K:Value→Prop):Prop:=match a,b with
 | .agg as,b=>dbinA P op t (.agg as) b K
 | .v (.agg as),b=>dbinA P op t (.v (.agg as)) b K
 | .fp _,.v (.pointer none)=>nilc P op t K
 | .v (.pointer none),.fp _=>nilc P op t K
 | .ptr b _ _ h,.v (.pointer none)=>datarr H b fun _ _ xs=>Ck (Nat.beq xs.length h) (nilc P op t K)
 | .v (.pointer none),.ptr b _ _ h=>datarr H b fun _ _ xs=>Ck (Nat.beq xs.length h) (nilc P op t K)
 | a,b=>dbin P op t x y a b K
theorem exec_binS{op:BinOp}{t t':TypeId}{x y:Operand}{ec:Env}{r:Value}(ho:o.op= .binOp op t x y t')(h:∀w,(do eqGuard op t x y (evl ec x) (evl ec y);binOp op t (evl ec x) (evl ec y):Sem Value).run P w= .ok r w):∀w,(execOp (evl ec) o).run P w= .ok (.value r) w:=fun w=>by
 unfold execOp
 simp only[ho]
 rw[run_bind,h w]
 rfl
theorem eqRes_ok{op:BinOp}{b:Bool}{K:Value→Prop}(h:eqRes op b K):(op= .eql∧K (.bool b))∨(op= .neq∧K (.bool (!b))):=by
 unfold eqRes at h
 split at h
 ·exact .inl ⟨rfl,h⟩
 ·exact .inr ⟨rfl,h⟩
 ·exact h.elim
theorem dbinA_ok{op:BinOp}{t t':TypeId}{x y:Operand}{a b:D}(ho:o.op= .binOp op t x y t'){K:D→Prop}(ha:dev e x=a)(hb:dev e y=b)(h:dbinA P op t a b fun r=>K (.v r)):AOR P o K e H:=by
 obtain⟨vs,hv,h⟩:=vls_some h
 obtain⟨us,hu,hE,h⟩:=vls_some h
 have key:∀X ec,Renv X e ec→∀w,(Op.equal t (evl ec x) (evl ec y)).run P w= .ok (eqLs vs us) w∧evl ec x= .agg vs.toArray∧evl ec y= .agg us.toArray:=fun X ec he w=>by
  have h1:=he.dev x
  have h2:=he.dev y
  rw[ha]at h1;rw[hb]at h2
  rw[valsD_rp hv h1,valsD_rp hu h2]
  exact⟨hE.run w,rfl,rfl⟩
 rcases eqRes_ok h with⟨rfl,h⟩ | ⟨rfl,h⟩
 ·refine⟨_,h,fun X ec _ he=>⟨_,exec_binS ho fun w=>?_,.v _⟩⟩
  obtain⟨k1,k2,k3⟩:=key X ec he w
  rw[k2,k3]at k1 ⊢
  rw[run_bind,run_eqGuard_agg w _ t x y _ _ hE.1]
  simp only[binOp,run_bind,k1,run_pure]
 ·refine⟨_,h,fun X ec _ he=>⟨_,exec_binS ho fun w=>?_,.v _⟩⟩
  obtain⟨k1,k2,k3⟩:=key X ec he w
  rw[k2,k3]at k1 ⊢
  rw[run_bind,run_eqGuard_agg w _ t x y _ _ hE.1]
  simp only[binOp,run_bind,k1,run_pure]
theorem nilc_ok {op : BinOp} {t t' : TypeId} {x y : Operand} (ho : o.op = .binOp op t x y t') {K : D → Prop}
    (hv : ∀ X ec, X.H = H → Renv X e ec → (∃ a, evl ec x = .pointer (some a) ∧ evl ec y = .pointer none) ∨ (∃ a, evl ec y = .pointer (some a) ∧ evl ec x = .pointer none)) (h : nilc P op t fun r => K (.v r)) : AOR P o K e H := by
  obtain ⟨ht, h⟩ := h.t
  have hu : ∃ el, P.underlying t = some (.pointer el) := by
    unfold ptrTy at ht
    split at ht
    · exact ⟨_, by assumption⟩
    · cases ht
  obtain ⟨el, hu⟩ := hu
  have key : ∀ X ec, X.H = H → Renv X e ec → ∀ w, (do eqGuard op t x y (evl ec x) (evl ec y); binOp .eql t (evl ec x) (evl ec y) : Sem Value).run P w = .ok (.bool false) w ∧ (do eqGuard op t x y (evl ec x) (evl ec y); binOp .neq t (evl ec x) (evl ec y) : Sem Value).run P w = .ok (.bool true) w := fun X ec hH he w => by
    rcases hv X ec hH he with ⟨a, h1, h2⟩ | ⟨a, h1, h2⟩
    · rw [h1, h2]
      have hg : ∀ w, (eqGuard op t x y (.pointer (some a)) (.pointer none)).run P w = .ok () w := fun w => by unfold eqGuard; cases op <;> simp [run_pure]
      have he : ∀ w, (Op.equal t (.pointer (some a)) (.pointer none)).run P w = .ok false w := fun w => by
        unfold Op.equal Op.maxDepth
        rw [Op.equalIn]
        simp only [run_bind, run_underlying hu, run_pure]
      simp only [run_bind, hg, binOp, he, run_pure, Bool.not_false, and_self]
    · rw [h1, h2]
      have hg : ∀ w, (eqGuard op t x y (.pointer none) (.pointer (some a))).run P w = .ok () w := fun w => by unfold eqGuard; cases op <;> simp [run_pure]
      have he : ∀ w, (Op.equal t (.pointer none) (.pointer (some a))).run P w = .ok false w := fun w => by
        unfold Op.equal Op.maxDepth
        rw [Op.equalIn]
        simp only [run_bind, run_underlying hu, run_pure, Option.isNone_some]
      simp only [run_bind, hg, binOp, he, run_pure, Bool.not_false, and_self]
  rcases eqRes_ok h with ⟨rfl, h⟩ | ⟨rfl, h⟩
  · exact ⟨_, h, fun X ec hH he => ⟨_, exec_binS ho fun w => (key X ec hH he w).1, .v _⟩⟩
  · exact ⟨_, h, fun X ec hH he => ⟨_, exec_binS ho fun w => (key X ec hH he w).2, .v _⟩⟩
theorem dbinX_ok{op:BinOp}{t t':TypeId}{x y:Operand}(ho:o.op= .binOp op t x y t'){K:D→Prop}(h:dbinX P op t x y (dev e x) (dev e y) H fun r=>K (.v r)):AOR P o K e H:=by
 unfold dbinX at h
 split at h
 ·exact dbinA_ok ho (by assumption) rfl h
 ·exact dbinA_ok ho (by assumption) rfl h
 ·rename_i ds hx hy
  refine nilc_ok ho (fun X ec _ he=> .inl ?_) h
  obtain⟨a,_,h1,_⟩:=dev_fp he hx
  have h2:=he.dev y
  rw[hy]at h2
  exact⟨a,h1,h2.v_inv⟩
 ·rename_i ds hx hy
  refine nilc_ok ho (fun X ec _ he=> .inr ?_) h
  obtain⟨a,_,h1,_⟩:=dev_fp he hy
  have h2:=he.dev x
  rw[hx]at h2
  exact⟨a,h1,h2.v_inv⟩
 ·rename_i b i off hh hx hy
  obtain⟨T,sz,xs,hb,h⟩:=datarr_some h
  obtain⟨hl,h⟩:=h.t
  refine nilc_ok ho (fun X ec hH he=> .inl ?_) h
  subst hH
  obtain⟨_,h1⟩:=dev_ptr he hx hb (Nat.eq_of_beq_eq_true hl)
  have h2:=he.dev y
  rw[hy]at h2
  exact⟨_,h1,h2.v_inv⟩
 ·rename_i b i off hh hx hy
  obtain⟨T,sz,xs,hb,h⟩:=datarr_some h
  obtain⟨hl,h⟩:=h.t
  refine nilc_ok ho (fun X ec hH he=> .inr ?_) h
  subst hH
  obtain⟨_,h1⟩:=dev_ptr he hy hb (Nat.eq_of_beq_eq_true hl)
  have h2:=he.dev x
  rw[hx]at h2
  exact⟨_,h1,h2.v_inv⟩
 ·exact(dbin_ok ho h).r
end
end Go.Ax
namespace Go.Ax
open Go Go.Wx
variable [Globs]
section
variable {P : Program} {w : World}
theorem strEq_iff'{a b:ByteArray}:strEq a b=true↔a=b:=by
 unfold strEq
 rw[←beq_toListBytes]
 exact Go.MapKept.bytes_beq _ _
theorem checkFs {em : Bool} {d m : Nat} (ih : ∀ {t : TypeId} {g : Bool} {n : Nat} {vs : List Value}, tyk P t = some (g, n) → eqTyN P d t vs vs = true → (Instr.checkKey em (m + d) t (packV g vs)).run P w = .ok () w) (xs : Array Value) :
    ∀ (fs : List Field) (pos : Nat) (vs : List Value), xs.toList.drop pos = vs → eqFs P (eqTyN P d) pos fs vs vs = true →
      (forIn fs PUnit.unit fun f _ => (if f.name ≠ "_" then (do
        let v ← part f.type xs f.offset
        Instr.checkKey em (m + d) f.type v
        pure (ForInStep.yield PUnit.unit)) else pure (ForInStep.yield PUnit.unit) : Sem (ForInStep PUnit)) : Sem PUnit).run P w = .ok () w
  | [], pos, vs, hv, h => by simp [run_pure]
  | f :: fs, pos, vs, hv, h => by
    unfold eqFs at h
    split at h
    case h_2 => cases h
    rename_i g n ht
    simp only [Bool.and_eq_true, decide_eq_true_eq] at h
    obtain ⟨hn, ho, hl1, hl2, hr, hf⟩ := h
    have ho := Nat.eq_of_beq_eq_true ho
    have h1 : g = false → (vs.take n).length = 1 := fun e => by
      subst e
      obtain ⟨a, b, e1, e2, _⟩ := eqTyN_one ht hr
      rw [e1]; rfl
    have p1 := run_part (w := w) (cs := xs) (off := f.offset) ht (fun e => by rw [ho, hv]; exact h1 e)
    rw [ho, hv] at p1
    have p3 := ih ht hr
    have p4 := checkFs ih xs fs (pos + n) (vs.drop n) (by rw [← hv, List.drop_drop]) hf
    simp only [List.forIn_cons, run_bind]
    rw [if_pos hn, ho]
    simp only [run_bind, p1, p3, run_pure]
    simpa only [run_bind] using p4
theorem checkEs {em : Bool} {d m : Nat} {t : TypeId} {g : Bool} {n : Nat} (ht : tyk P t = some (g, n)) (ih : ∀ {vs : List Value}, eqTyN P d t vs vs = true → (Instr.checkKey em (m + d) t (packV g vs)).run P w = .ok () w) (xs : Array Value) :
    ∀ (k j : Nat) (vs : List Value), xs.toList.drop (j * n) = vs → eqEs (eqTyN P d t) n k vs vs = true →
      (forIn (List.range' j k) PUnit.unit fun i _ => (do
        let z ← sizeOf t
        let v ← part t xs (i * z)
        Instr.checkKey em (m + d) t v
        pure (ForInStep.yield PUnit.unit) : Sem (ForInStep PUnit)) : Sem PUnit).run P w = .ok () w
  | 0, j, vs, hv, h => by simp [run_pure]
  | k + 1, j, vs, hv, h => by
    simp only [eqEs, Bool.and_eq_true] at h
    obtain ⟨hl1, hl2, hr, hf⟩ := h
    have h1 : g = false → (vs.take n).length = 1 := fun e => by
      subst e
      obtain ⟨a, b, e1, e2, _⟩ := eqTyN_one ht hr
      rw [e1]; rfl
    have p1 := run_part (w := w) (cs := xs) (off := j * n) ht (fun e => by rw [hv]; exact h1 e)
    rw [hv] at p1
    have p3 := ih hr
    have p4 := checkEs ht ih xs k (j + 1) (vs.drop n) (by rw [← hv, List.drop_drop, Nat.succ_mul]) hf
    rw [List.range'_succ]
    simp only [List.forIn_cons, run_bind, (tyk_run (w := w) ht).2, p1, p3, run_pure]
    simpa only [run_bind] using p4
theorem checkKey_run{em:Bool}{m:Nat}:∀{d:Nat} {t:TypeId} {g:Bool} {n:Nat} {vs:List Value},tyk P t=some (g,n)→eqTyN P d t vs vs=true→(Instr.checkKey em (m+d) t (packV g vs)).run P w= .ok () w
 | 0,t,g,n,vs,ht,h=>by cases h
 | d+1,t,g,n,vs,ht,h=>by
  cases g with
  | false=>
   obtain⟨a,b,h1,h2,h'⟩:=eqTyN_one ht h
   subst h1
   cases h2
   simp only[packV]
   rw[show m+(d+1)=(m+d)+1 by omega,Instr.checkKey]
   unfold leafTy at h'
   split at h'
   ·simp only[run_bind,run_underlying (by assumption),run_pure]
   ·simp only[run_bind,run_underlying (by assumption),run_pure]
   ·simp only[run_bind,run_underlying (by assumption),run_pure]
   ·cases h'
  | true=>
   simp only[packV]
   unfold eqTyN at h
   split at h
   ·rename_i fs hu
    simp only[Bool.and_eq_true,Bool.not_eq_true']at h
    rw[show m+(d+1)=(m+d)+1 by omega,Instr.checkKey]
    simp only[run_bind,run_underlying hu]
    rw[←Array.forIn_toList]
    have:=checkFs (em:=em) (m:=m) (fun ht h=>checkKey_run ht h) vs.toArray fs.toList 0 vs (by simp) h.2
    rw[this]
    rfl
   ·rename_i len e hu
    split at h
    case h_2=>cases h
    rename_i g n' hte
    rw[show m+(d+1)=(m+d)+1 by omega,Instr.checkKey]
    simp only[run_bind,run_underlying hu]
    simp only[Std.Legacy.Range.forIn_eq_forIn_range',Std.Legacy.Range.size,Nat.sub_zero,Nat.add_one_sub_one,Nat.div_one]
    have:=checkEs (em:=em) (m:=m) hte (fun h=>checkKey_run hte h) vs.toArray len 0 vs (by simp) h
    rw[this]
    rfl
   ·rename_i hn1 hn2
    unfold tyk at ht
    cases hu:P.underlying t with
    | none=>rw[hu]at ht;simp at ht
    | some q=>
     rw[hu]at ht
     cases hi:P.info? t with
     | none=>rw[hi]at ht;simp at ht
     | some i=>
      rw[hi]at ht
      cases q<;>simp at ht
      all_goals first | exact absurd hu (hn1 _) | exact absurd hu (hn2 _ _)
def vEq:Value→Value→Bool
 | .agg as,.agg bs=>eqLs as.toList bs.toList
 | a,b=>leafEq a b
def keyP(P:Program)(kt:TypeId):Value→Value→Bool
 | .agg as,.agg bs=>(match tyk P kt with | some (true,_)=>eqTyN P 9 kt as.toList bs.toList | _=>false)
 | a,b=>leafTy P kt a b
def KeysOk(P:Program)(kt:TypeId)(key:Value)(ks:List Value):Prop:=keyP P kt key key=true∧∀k∈ks,keyP P kt key k=true
def isAggV:Value→Bool
 | .agg _=>true
 | _=>false
theorem keyP_leaf{kt:TypeId}{a b:Value}(h:keyP P kt a b=true)(ha:isAggV a=false):leafTy P kt a b=true∧vEq a b=leafEq a b:=by
 unfold keyP at h
 split at h
 ·cases ha
 ·refine⟨h,?_⟩
  unfold vEq
  split
  ·cases ha
  ·rfl
theorem keyP_agg{kt:TypeId}{as:Array Value}{b:Value}(h:keyP P kt (.agg as) b=true):∃bs n,b= .agg bs∧tyk P kt=some (true,n)∧eqTyN P 9 kt as.toList bs.toList=true:=by
 unfold keyP at h
 split at h
 ·rename_i as' bs h1
  cases h1
  split at h
  ·exact⟨bs,_,rfl,by assumption,h⟩
  ·cases h
 ·unfold leafTy at h
  split at h<;>first | contradiction | simp_all
theorem key_check{kt:TypeId}{key:Value}(h:keyP P kt key key=true)(em:Bool):(Instr.checkKey em 10000 kt key).run P w= .ok () w:=by
 cases ha:isAggV key with
 | false=>
  obtain⟨h',_⟩:=keyP_leaf h ha
  rw[show 10000=9999+1 from rfl,Instr.checkKey]
  unfold leafTy at h'
  split at h'
  ·simp only[run_bind,run_underlying (by assumption),run_pure]
  ·simp only[run_bind,run_underlying (by assumption),run_pure]
  ·simp only[run_bind,run_underlying (by assumption),run_pure]
  ·cases h'
 | true=>
  cases key<;>first | cases ha | skip
  rename_i as
  obtain⟨bs,n,hb,ht,h'⟩:=keyP_agg h
  cases hb
  have:=checkKey_run (w:=w) (em:=em) (m:=9991) ht h'
  simp only[packV,Array.toArray_toList]at this
  exact this
theorem key_equal{kt:TypeId}{a b:Value}(h:keyP P kt a b=true):(Op.equal kt a b).run P w= .ok (vEq a b) w:=by
 cases ha:isAggV a with
 | false=>
  obtain⟨h1,h2⟩:=keyP_leaf h ha
  rw[h2]
  exact leaf_run (m:=9999) h1
 | true=>
  cases a<;>first | cases ha | skip
  obtain⟨bs,n,rfl,ht,h'⟩:=keyP_agg h
  have:=eqTyN_run (w:=w) (m:=9991) ht h'
  simp only[packV,Array.toArray_toList]at this
  exact this
def kidx(key:Value):List Value→Option Nat
 |[]=>none
 | k::ks=>cond (vEq key k) (some 0) ((kidx key ks).map (· +1))
theorem findAsk {kt : TypeId} {key : Value} : ∀ {es : List MapEntry} {ks : List Value} {i : Nat}, es.map (·.key) = ks → (∀ k ∈ ks, keyP P kt key k = true) →
    (Instr.findAsking kt key es i).run P w = .ok ((kidx key ks).bind fun j => (es[j]?).map fun e => (i + j, e.val)) w
  | [], ks, i, h, hk => by
    cases h
    simp [Instr.findAsking, kidx, run_pure]
  | e :: es, ks, i, h, hk => by
    cases ks with
    | nil => cases h
    | cons k ks =>
      simp only [List.map_cons, List.cons.injEq] at h
      obtain ⟨rfl, h⟩ := h
      simp only [Instr.findAsking, run_bind, key_equal (hk _ List.mem_cons_self), kidx]
      cases vEq key e.key with
      | true => simp [run_pure]
      | false =>
        simp only [Bool.false_eq_true, if_false, cond_false]
        rw [findAsk h fun k hm => hk k (List.mem_cons_of_mem _ hm)]
        congr 1
        cases kidx key ks with
        | none => rfl
        | some j => simp [Nat.add_assoc, Nat.add_comm 1 j]
theorem findNow_leaf {kt : TypeId} {kd : TypeDesc} (hu : P.underlying kt = some kd) {key : Value} (ha : isAggV key = false) : ∀ {es : List MapEntry} {ks : List Value} {i : Nat}, es.map (·.key) = ks → (∀ k ∈ ks, keyP P kt key k = true) →
    Instr.findNow kd key es i = some ((kidx key ks).bind fun j => (es[j]?).map fun e => (i + j, e.val))
  | [], ks, i, h, hk => by cases h; rfl
  | e :: es, ks, i, h, hk => by
    cases ks with
    | nil => cases h
    | cons k ks =>
      simp only [List.map_cons, List.cons.injEq] at h
      obtain ⟨rfl, h⟩ := h
      have ih := findNow_leaf hu ha (i := i + 1) h fun k hm => hk k (List.mem_cons_of_mem _ hm)
      obtain ⟨h1, h2⟩ := keyP_leaf (hk _ List.mem_cons_self) ha
      have hs : Instr.sameNow kd key e.key = some (vEq key e.key) := by
        rw [h2]
        unfold leafTy at h1
        split at h1
        · rename_i h4 h5
          rw [hu] at h4; cases h4
          obtain rfl := kEq_eq h1
          simp only [h5, Instr.sameNow, if_true, leafEq]
        · rename_i h4 h5
          rw [hu] at h4; cases h4
          simp only [h5, Instr.sameNow, leafEq, Option.some.injEq]
          rw [Bool.eq_iff_iff, strEq_iff']
          exact Go.MapKept.bytes_beq _ _
        · rename_i h4 h5
          rw [hu] at h4; cases h4
          simp only [h5, Instr.sameNow, leafEq]
        · cases h1
      unfold Instr.findNow
      rw [hs]
      simp only [kidx]
      cases vEq key e.key with
      | true => simp
      | false =>
        simp only [cond_false]
        rw [ih]
        congr 1
        cases kidx key ks with
        | none => rfl
        | some j => simp [Nat.add_assoc, Nat.add_comm 1 j]
theorem findKey_run {kt : TypeId} {key : Value} {es : List MapEntry} {ks : List Value} (hes : es.map (·.key) = ks) (h : KeysOk P kt key ks) :
    (Instr.findKey kt key es).run P w = .ok ((kidx key ks).bind fun j => (es[j]?).map fun e => (j, e.val)) w := by
  obtain ⟨h0, hk⟩ := h
  have hu : ∃ kd, P.underlying kt = some kd := by
    cases ha : isAggV key with
    | false =>
      have := (keyP_leaf h0 ha).1
      unfold leafTy at this
      split at this <;> first | exact ⟨_, by assumption⟩ | cases this
    | true =>
      cases key <;> first | cases ha | skip
      obtain ⟨bs, n, _, ht, _⟩ := keyP_agg h0
      unfold tyk at ht
      cases hu : P.underlying kt with
      | none => rw [hu] at ht; simp at ht
      | some q => exact ⟨q, rfl⟩
  obtain ⟨kd, hu⟩ := hu
  unfold Instr.findKey
  simp only [run_bind, run_underlying hu]
  cases ha : isAggV key with
  | false =>
    rw [findNow_leaf hu ha (i := 0) hes hk]
    simp [run_pure]
  | true =>
    cases key <;> first | cases ha | skip
    rename_i as
    have := findAsk (w := w) (i := 0) hes hk
    simp only [Nat.zero_add] at this
    cases es with
    | nil => cases hes; simp [Instr.findNow, kidx, run_pure]
    | cons e es =>
      have hn : Instr.findNow kd (.agg as) (e :: es) 0 = none := by
        unfold Instr.findNow
        have : Instr.sameNow kd (.agg as) e.key = none := by
          cases kd <;> rfl
        rw [this]
      rw [hn]
      exact this
theorem eqLs_eq:∀{vs us:List Value} {d:Nat} {t:TypeId},eqTyN P d t vs us=true→eqLs vs us=true→vs=us:=by
 have hleaf:∀{t:TypeId} {a b:Value},leafTy P t a b=true→leafEq a b=true→a=b:=by
  intro t a b h1 h2
  unfold leafTy at h1
  split at h1
  ·obtain rfl:=kEq_eq h1
   simp[leafEq]at h2;rw[h2]
  ·simp only[leafEq,strEq_iff']at h2;rw[h2]
  ·simp[leafEq]at h2;rw[h2]
  ·cases h1
 have main:∀(d:Nat) (t:TypeId) (vs us:List Value),eqTyN P d t vs us=true→eqLs vs us=true→vs=us:=by
  intro d
  induction d with
  | zero=>intro t vs us h;cases h
  | succ d ih=>
   intro t vs us h he
   have hF:∀(fs:List Field) (pos:Nat) (vs us:List Value),eqFs P (eqTyN P d) pos fs vs us=true→eqLs vs us=true→vs=us:=by
    intro fs
    induction fs with
    | nil=>
     intro pos vs us h _
     simp[eqFs]at h
     rw[h.1,h.2]
    | cons f fs ihf=>
     intro pos vs us h he
     unfold eqFs at h
     split at h
     case h_2=>cases h
     rename_i g n ht
     simp only[Bool.and_eq_true,decide_eq_true_eq]at h
     obtain⟨hn,ho,hl1,hl2,hr,hf⟩:=h
     rw[eqLs_split n,Bool.and_eq_true]at he
     rw[←List.take_append_drop n vs,←List.take_append_drop n us,ih _ _ _ hr he.1,ihf _ _ _ hf he.2]
   have hE:∀(e:TypeId) (n k:Nat) (vs us:List Value),eqEs (eqTyN P d e) n k vs us=true→eqLs vs us=true→vs=us:=by
    intro e n k
    induction k with
    | zero=>
     intro vs us h _
     simp[eqEs]at h
     rw[h.1,h.2]
    | succ k ihk=>
     intro vs us h he
     simp only[eqEs,Bool.and_eq_true]at h
     obtain⟨hl1,hl2,hr,hf⟩:=h
     rw[eqLs_split n,Bool.and_eq_true]at he
     rw[←List.take_append_drop n vs,←List.take_append_drop n us,ih _ _ _ hr he.1,ihk _ _ hf he.2]
   unfold eqTyN at h
   split at h
   ·simp only[Bool.and_eq_true]at h
    exact hF _ _ _ _ h.2 he
   ·split at h
    ·exact hE _ _ _ _ _ h he
    ·cases h
   ·split at h
    ·simp only[eqLs,Bool.and_true]at he
     rw[hleaf h he]
    ·cases h
 intro vs us d t
 exact main d t vs us
theorem vEq_eq{kt:TypeId}{a b:Value}(h:keyP P kt a b=true)(he:vEq a b=true):a=b:=by
 cases ha:isAggV a with
 | false=>
  obtain⟨h1,h2⟩:=keyP_leaf h ha
  rw[h2]at he
  unfold leafTy at h1
  split at h1
  ·obtain rfl:=kEq_eq h1
   simp[leafEq]at he;rw[he]
  ·simp only[leafEq,strEq_iff']at he;rw[he]
  ·simp[leafEq]at he;rw[he]
  ·cases h1
 | true=>
  cases a<;>first | cases ha | skip
  obtain⟨bs,n,rfl,ht,h'⟩:=keyP_agg h
  simp only[vEq]at he
  have:=eqLs_eq h' he
  rw[Array.toList_inj.1 this]
def isLeafV:Value→Bool
 | .int _ _=>true
 | .string _=>true
 | .bool _=>true
 | _=>false
theorem leafTy_leaf{t:TypeId}{a b:Value}(h:leafTy P t a b=true):isLeafV a=true:=by
 unfold leafTy at h
 split at h<;>first | rfl | cases h
theorem eqTyN_leaf:∀(d:Nat) (t:TypeId) (vs us:List Value),eqTyN P d t vs us=true→∀v∈vs,isLeafV v=true:=by
 intro d
 induction d with
 | zero=>intro t vs us h;cases h
 | succ d ih=>
  intro t vs us h
  have hF:∀(fs:List Field) (pos:Nat) (vs us:List Value),eqFs P (eqTyN P d) pos fs vs us=true→∀v∈vs,isLeafV v=true:=by
   intro fs
   induction fs with
   | nil=>
    intro pos vs us h
    simp[eqFs]at h
    rw[h.1];intro v hv;cases hv
   | cons f fs ihf=>
    intro pos vs us h
    unfold eqFs at h
    split at h
    case h_2=>cases h
    rename_i g n ht
    simp only[Bool.and_eq_true,decide_eq_true_eq]at h
    obtain⟨hn,ho,hl1,hl2,hr,hf⟩:=h
    intro v hv
    rw[←List.take_append_drop n vs]at hv
    rcases List.mem_append.1 hv with hv | hv
    ·exact ih _ _ _ hr v hv
    ·exact ihf _ _ _ hf v hv
  have hE:∀(e:TypeId) (n k:Nat) (vs us:List Value),eqEs (eqTyN P d e) n k vs us=true→∀v∈vs,isLeafV v=true:=by
   intro e n k
   induction k with
   | zero=>
    intro vs us h
    simp[eqEs]at h
    rw[h.1];intro v hv;cases hv
   | succ k ihk=>
    intro vs us h
    simp only[eqEs,Bool.and_eq_true]at h
    obtain⟨hl1,hl2,hr,hf⟩:=h
    intro v hv
    rw[←List.take_append_drop n vs]at hv
    rcases List.mem_append.1 hv with hv | hv
    ·exact ih _ _ _ hr v hv
    ·exact ihk _ _ hf v hv
  unfold eqTyN at h
  split at h
  ·simp only[Bool.and_eq_true]at h
   exact hF _ _ _ _ h.2
  ·split at h
   ·exact hE _ _ _ _ _ h
   ·cases h
  ·split at h
   ·intro v hv
    rw[List.mem_singleton]at hv
    rw[hv];exact leafTy_leaf h
   ·cases h
theorem leaf_bits{n:Nat}{v:Value}(h:isLeafV v=true):Instr.sameBits n v v=true:=by
 cases v<;>first | cases h | skip
 all_goals (cases n<;>simp[Instr.sameBits])
 all_goals exact(Go.MapKept.bytes_beq _ _).2 rfl
theorem key_stays{kt:TypeId}{a:Value}(h:keyP P kt a a=true):(Instr.keyThatStays a a).run P w= .ok a w:=by
 have hb:Instr.sameBits 10000 a a=true:=by
  cases ha:isAggV a with
  | false=>exact leaf_bits (leafTy_leaf (keyP_leaf h ha).1)
  | true=>
   cases a<;>first | cases ha | skip
   rename_i as
   obtain⟨bs,n,hb,ht,h'⟩:=keyP_agg h
   cases hb
   have hl:=eqTyN_leaf _ _ _ _ h'
   rw[show 10000=9999+1 from rfl,Instr.sameBits]
   simp only[beq_self_eq_true,Bool.true_and,List.all_eq_true]
   intro p hp
   obtain⟨x,y⟩:=p
   have:x=y∧x∈as.toList:=by
    obtain⟨i,hi,e⟩:=List.getElem_of_mem hp
    rw[List.getElem_zip]at e
    cases e
    exact⟨rfl,List.getElem_mem _⟩
   obtain⟨rfl,hx⟩:=this
   exact leaf_bits (hl x hx)
 unfold Instr.keyThatStays
 rw[hb,if_pos rfl]
 rfl
end
end Go.Ax
