/- The law holds: part 335. Conditions: none. -/
import Derived.Test.YtpndfdfipkadkaaGreatDoorKU2
import Derived.Maps.RangeRun
set_option linter.all false
namespace Go.Ax
open Go Go.Wx
variable [Globs]
section
variable {P : Program} {X X' : Cx} {M M' : Nat → Prop} {e : Nat → D} {H : Heap} {o : Oper} {K : OpK}
abbrev dmap(H:Heap)(x:D)(K:List Value→List D→Option Nat→Prop):Prop:=match x with
 | .fmap ks ds=>K ks ds none
 | .map b=>(match H[b]? with | some (.map ks ds)=>K ks ds (some b) | _=>False)
 | _=>False
theorem dmap_at{b:Nat}{ks:List Value}{ds:List D}{K:List Value→List D→Option Nat→Prop}(h:H[b]? =some (.map ks ds))(k:K ks ds (some b)):dmap H (.map b) K:=by
 show(match H[b]? with | some (.map ks ds)=>K ks ds (some b) | _=>False)
 rw[h];exact k
theorem dmap_ok {x : D} {K : List Value → List D → Option Nat → Prop} (h : dmap H x K) : ∃ ks ds ob, K ks ds ob ∧ (∀ b, ob = some b → b < H.length) ∧ ∀ X M y, Sim X M → X.H = H → Rp X x y → ∃ k l, y = .map (some k) ∧ MapL l ks ∧ ds.length = ks.length ∧
    (∀ (i : Nat) d m, ds[i]? = some d → l[i]? = some m → Rp X d m.val) ∧ (∀ B X' M', Ev B X M X' M' → (∀ b, ob = some b → ¬ B b) → X'.w.heap[k]? = some (.map l ks.length)) ∧ (∀ b, ob = some b → X.gh b = false ∧ k = X.ρ b ∧ H[b]? = some (.map ks ds)) := by
  unfold dmap at h
  split at h
  · rename_i ks ds
    refine ⟨ks, ds, none, h, fun b hb => (by cases hb), fun X M y hs _ hr => ?_⟩
    cases hr with
    | fmap hF hw hl hd hr => exact ⟨_, _, rfl, hl, hd, hr, fun B X' M' E _ => (E.frm.blk _ (hs.flt _ hF) (hs.dj _ hF)).trans hw, fun b hb => by cases hb⟩
  · rename_i b
    split at h
    · rename_i ks ds hb
      refine ⟨ks, ds, some b, h, fun b' e => by cases e; exact lt_of_some hb, fun X M y hs hH hr => ?_⟩
      subst hH
      cases hr with
      | map hb' hm =>
        obtain ⟨hg, l, hc, hl, hd, hv⟩ := hs.blk b _ hb
        exact ⟨_, l, rfl, hl, hd, hv, fun B X' M' E hn => ((E.old b (lt_of_some hb) (hn b rfl)).2.2.2 hg).trans hc, fun b' e => by cases e; exact ⟨hg, rfl, hb⟩⟩
    · exact h.elim
  · exact h.elim
def valV:D→Option Value
 | .v x=>some x
 | .agg ds=>(match valsOf ds with | some l=>some (.agg l.toArray) | none=>none)
 | _=>none
theorem valV_rp{d:D}{v y:Value}(h:valV d=some v)(hr:Rp X d y):y=v:=by
 unfold valV at h
 split at h
 ·cases h;exact hr.v_inv
 ·split at h
  ·cases h
   cases hr with
   | agg hl hr=>rw[valsOf_rp (by assumption) ⟨hl,hr⟩]
  ·cases h
 ·cases h
def zeroV(P:Program)(t:TypeId):Option Value:=match P.info? t with
 | some i=>i.zero
 | none=>none
theorem zeroV_run{t:TypeId}{z:Value}(h:zeroV P t=some z)(w:World):(zeroValue t).run P w= .ok z w:=by
 unfold zeroV at h
 split at h
 case h_2=>cases h
 rename_i i hi
 unfold zeroValue typeInfo
 simp only[run_bind,program,Sem.run,hi,run_pure,h]
def mget(key:Value)(ks:List Value)(ds:List D):Option D:=match ks,ds with
 | k::ks,d::ds=>cond (vEq key k) (some d) (mget key ks ds)
 | _,_=>none
theorem mget_eq:∀{key:Value} {ks:List Value} {ds:List D},mget key ks ds=(kidx key ks).bind fun j=>ds[j]?
 | key,[],ds=>by simp[mget,kidx]
 | key,k::ks,[]=>by simp[mget]
 | key,k::ks,d::ds=>by
  simp only[mget,kidx]
  cases vEq key k with
  | true=>simp
  | false=>
   simp only[cond_false]
   rw[mget_eq]
   cases kidx key ks<;>simp
theorem kidx_lt:∀{key:Value} {ks:List Value} {j:Nat},kidx key ks=some j→∃k,ks[j]? =some k∧vEq key k=true
 | key,[],j,h=>by cases h
 | key,k::ks,j,h=>by
  simp only[kidx]at h
  cases hv:vEq key k with
  | true=>rw[hv]at h;cases h;exact⟨k,rfl,hv⟩
  | false=>
   rw[hv]at h
   simp only[cond_false,Option.map_eq_some_iff]at h
   obtain⟨i,hi,rfl⟩:=h
   obtain⟨k',h1,h2⟩:=kidx_lt hi
   exact⟨k',by simpa using h1,h2⟩
abbrev mlk(r:Option D)(Kt:D→Prop)(Kf:Prop):Prop:=match r with | some d=>Kt d | none=>Kf
theorem mlk_some{r:Option D}{d:D}{Kt:D→Prop}{Kf:Prop}(h:r=some d)(k:Kt d):mlk r Kt Kf:=by subst h;exact k
theorem mlk_none{r:Option D}{Kt:D→Prop}{Kf:Prop}(h:r=none)(k:Kf):mlk r Kt Kf:=by subst h;exact k
abbrev vlv(r:Option Value)(K:Value→Prop):Prop:=match r with | some v=>K v | none=>False
theorem vlv_some{r:Option Value}{K:Value→Prop}(h:vlv r K):∃v,r=some v∧K v:=by
 cases r with
 | none=>exact h.elim
 | some v=>exact⟨v,rfl,h⟩
def mapTy(P:Program)(t:TypeId):Option (TypeId × TypeId):=match P.underlying t with
 | some (.map k e)=>some (k,e)
 | _=>none
theorem mapTy_some{t k e:TypeId}(h:mapTy P t=some (k,e)):P.underlying t=some (.map k e):=by
 unfold mapTy at h
 split at h
 ·cases h;assumption
 ·cases h
abbrev mty(r:Option (TypeId × TypeId))(K:TypeId→TypeId→Prop):Prop:=match r with | some (k,e)=>K k e | none=>False
theorem mty_some{r:Option (TypeId × TypeId)}{K:TypeId→TypeId→Prop}(h:mty r K):∃k e,r=some (k,e)∧K k e:=by
 cases r with
 | none=>exact h.elim
 | some v=>exact⟨v.1,v.2,rfl,h⟩
theorem MapL.keys{l:Array MapEntry}{ks:List Value}(h:MapL l ks):l.toList.map (·.key)=ks:=by
 apply List.ext_getElem?
 intro i
 rw[List.getElem?_map]
 cases hi:l.toList[i]? with
 | none=>
  rw[List.getElem?_eq_none_iff,Array.length_toList,h.1]at hi
  rw[List.getElem?_eq_none hi];rfl
 | some m=>
  rw[Array.getElem?_toList]at hi
  rw[(h.2 i m hi).1];rfl
theorem run_getMap{w:World}{k:Nat}{l:Array MapEntry}{c:Nat}(h:w.heap[k]? =some (.map l c)):(getObj k).run P w= .ok (.map l c) w:=by simp[getObj,Sem.run,h]
theorem run_getIter{w:World}{k:Nat}{m:Option Nat}{s:Nat}{l:Array Nat}{c:Nat}(h:w.heap[k]? =some (.mapIter m s l c)):(getObj k).run P w= .ok (.mapIter m s l c) w:=by simp[getObj,Sem.run,h]
def dlookup(P:Program)(t:TypeId)(x key:D)(ok:Bool)(H:Heap)(K:D→Option Nat→Prop):Prop:=mty (mapTy P t) fun kt el=>vlv (zeroV P el) fun z=>vlv (valV key) fun kv=>dmap H x fun ks ds ob=>KeysOk P kt kv ks∧
 mlk (mget kv ks ds) (fun d=>K (cond ok (.tup [d,.v (.bool true)]) d) ob) (K (cond ok (.tup [.v z,.v (.bool false)]) (.v z)) ob)
theorem dlookup_ok {t : TypeId} {x y : Operand} {ok : Bool} (ho : o.op = .lookup t x y ok) {K : D → Option Nat → Prop} (h : dlookup P t (dev e x) (dev e y) ok H K) : AOL P o K e H := by
  obtain ⟨kt, el, ht, h⟩ := mty_some h
  obtain ⟨z, hz, h⟩ := vlv_some h
  obtain ⟨kv, hkv, h⟩ := vlv_some h
  obtain ⟨ks, ds, ob, ⟨hk, h⟩, hob, hm⟩ := dmap_ok h
  have hu := mapTy_some ht
  have run : ∀ {w : World} {k : Nat} {l : Array MapEntry}, w.heap[k]? = some (.map l ks.length) → MapL l ks → (Instr.lookup t (.map (some k)) kv ok).run P w = .ok (match (kidx kv ks).bind fun j => (l[j]?).map (·.val) with
      | some v => if ok then .tuple #[v, .bool true] else v
      | none => if ok then .tuple #[z, .bool false] else z) w := fun {w k l} hw hl => by
    unfold Instr.lookup
    simp only [run_bind, run_underlying hu, run_getMap hw, run_pure, key_check hk.1, findKey_run hl.keys hk]
    simp only [Array.getElem?_toList]
    cases hi : kidx kv ks with
    | none => simp only [Option.bind_none, run_bind, zeroV_run hz, run_pure]
    | some j =>
      simp only [Option.bind_some]
      cases hj : l[j]? with
      | none => simp only [Option.map_none, run_bind, zeroV_run hz, run_pure]
      | some m => simp only [Option.map_some, run_bind, run_pure]
  have exec : ∀ {ec : Env} {w : World} {v : Value}, (Instr.lookup t (evl ec x) (evl ec y) ok).run P w = .ok v w → (execOp (evl ec) o).run P w = .ok (.value v) w := fun hv => ex_lookup ho rfl rfl hv
  cases hg : mget kv ks ds with
  | none =>
    rw [hg] at h
    refine ⟨_, ob, h, hob, fun X M ec hs hH he => ?_⟩
    obtain ⟨k, l, hy, hl, hd, hv, hE, _⟩ := hm X M _ hs hH (he.dev x)
    have hkey := valV_rp hkv (he.dev y)
    have hno : ((kidx kv ks).bind fun j => (l[j]?).map (·.val)) = none := by
      rw [mget_eq] at hg
      cases hi : kidx kv ks with
      | none => rfl
      | some j =>
        obtain ⟨k', h1, _⟩ := kidx_lt hi
        rw [hi] at hg
        have := (List.getElem?_eq_some_iff.1 h1).1
        simp only [Option.bind_some] at hg
        rw [List.getElem?_eq_none_iff] at hg
        omega
    refine ⟨if ok then .tuple #[z, .bool false] else z, ?_, fun B X' M' E hn => exec ?_⟩
    · cases ok
      · exact .v z
      · exact .tup rfl fun j d x h1 h2 => by
          match j with
          | 0 => cases h1; cases h2; exact .v _
          | 1 => cases h1; cases h2; exact .v _
          | _ + 2 => cases h1
    · rw [hy, hkey, run (hE B X' M' E hn) hl, hno]
  | some d =>
    rw [hg] at h
    refine ⟨_, ob, h, hob, fun X M ec hs hH he => ?_⟩
    obtain ⟨k, l, hy, hl, hd, hv, hE, _⟩ := hm X M _ hs hH (he.dev x)
    have hkey := valV_rp hkv (he.dev y)
    rw [mget_eq, Option.bind_eq_some_iff] at hg
    obtain ⟨j, hj, hdj⟩ := hg
    have hlt := (List.getElem?_eq_some_iff.1 hdj).1
    have hm' : l[j]? = some (l[j]'(by rw [hl.1]; omega)) := Array.getElem?_eq_getElem _
    have hr := hv j d _ hdj hm'
    refine ⟨if ok then .tuple #[(l[j]'(by rw [hl.1]; omega)).val, .bool true] else (l[j]'(by rw [hl.1]; omega)).val, ?_, fun B X' M' E hn => exec ?_⟩
    · cases ok
      · exact hr
      · exact .tup rfl fun j d x h1 h2 => by
          match j with
          | 0 => cases h1; cases h2; exact hr
          | 1 => cases h1; cases h2; exact .v _
          | _ + 2 => cases h1
    · rw [hy, hkey, run (hE B X' M' E hn) hl, hj]
      simp only [Option.bind_some, hm', Option.map_some]
def dlenM(P:Program)(ts:List TypeId)(x:D)(H:Heap)(K:D→Option Nat→Prop):Prop:=match ts with
 |[t]=>mty (mapTy P t) fun _ _=>dmap H x fun ks _ ob=>K (.v (.int .i64 ks.length)) ob
 | _=>False
theorem exec_lenS{ts:Array TypeId}{x:Operand}{ec:Env}{w:World}{v:Value}(ho:o.op= .call {callee:= .builtin .len,args:= #[x],argTypes:=ts})(h:(Builtin.len_ ts o.type #[evl ec x]).run P w= .ok v w):(execOp (evl ec) o).run P w= .ok (.value v) w:=by
 unfold execOp
 simp only[ho,resolve,invoke,builtin,run_bind,run_pure]
 simp[h,run_bind,run_pure]
theorem dlenM_ok{ts:Array TypeId}{x:Operand}(ho:o.op= .call {callee:= .builtin .len,args:= #[x],argTypes:=ts}){K:D→Option Nat→Prop}(h:dlenM P ts.toList (dev e x) H K):AOL P o K e H:=by
 unfold dlenM at h
 split at h
 case h_2=>exact h.elim
 rename_i t hts
 obtain⟨kt,el,ht,h⟩:=mty_some h
 obtain⟨ks,ds,ob,h,hob,hm⟩:=dmap_ok h
 have hu:=mapTy_some ht
 refine⟨_,ob,h,hob,fun X M ec hs hH he=>?_⟩
 obtain⟨k,l,hy,hl,hd,hv,hE,_⟩:=hm X M _ hs hH (he.dev x)
 refine⟨_,.v _,fun B X' M' E hn=>exec_lenS ho ?_⟩
 have hts':ts= #[t]:=by apply Array.ext';rw[hts]
 rw[hy,hts']
 unfold Builtin.len_
 simp only[List.getElem?_toArray,List.getElem?_cons_zero,run_bind,run_underlying hu,run_getMap (hE B X' M' E hn),run_pure,goInt,hl.1]
theorem AO1.newO {d : D} {ao : AO} (hK : K d (H ++ [ao]) []) (h : ∀ X M ec, Sim X M → X.H = H → Renv X e ec → ∃ y ob, (execOp (evl ec) o).run P X.w = .ok (.value y) (X.w.alloc ob) ∧
    Blk (newX X (X.w.alloc ob) X.w.heap.size ao) X.H.length ao ∧ Rp (newX X (X.w.alloc ob) X.w.heap.size ao) d y) : AO1 P o K e H := by
  intro X M ec hs hH he
  obtain ⟨y, ob, hy, hB, hr⟩ := h X M ec hs hH he
  have E := new_ev (o := ao) hs (frm_alloc (w := X.w) ob) (Nat.le_refl _)
  refine stepE_val hy ⟨_, _, d, [], E, new_sim hs (frm_alloc _) (Nat.le_refl _) ?_ hB, rfl, hr, by rw [← hH] at hK; exact hK⟩
  simp
theorem dmakeMap_ok{t:TypeId}(ho:o.op= .makeMap t none)(h:K (.map H.length) (H++[.map [] []]) []):AO1 P o K e H:=by
 refine AO1.newO h fun X M ec hs hH he=>⟨.map (some X.w.heap.size),.map #[] 0,?_,⟨newX_new.2.2,#[],?_,⟨rfl,fun i m hm=>by simp at hm⟩,rfl,fun i d m hd=>by simp at hd⟩,?_⟩
 ·unfold execOp
  simp only[ho,Instr.makeMap,run_bind]
  rfl
 ·rw[newX_new.2.1];exact heap_alloc_new X.w _
 ·rw[←hH]
  have:=Rp.map (X:=newX X (X.w.alloc (.map #[] 0)) X.w.heap.size (.map [] [])) (b:=X.H.length) (by simp[newX]) ⟨[],[],newX_new.1⟩
  rw[newX_new.2.1]at this
  exact this
def drange(P:Program)(t:TypeId)(x:D)(H:Heap)(K:OpK):Prop:=mty (mapTy P t) fun _ _=>dmap H x fun ks _ _=>K (.it H.length) (H++[.iter x ks.length []]) []
theorem drange_ok{t:TypeId}{x:Operand}(ho:o.op= .range t x)(h:drange P t (dev e x) H K):AO1 P o K e H:=by
 obtain⟨kt,el,ht,h⟩:=mty_some h
 obtain⟨ks,ds,ob,h,hob,hm⟩:=dmap_ok h
 have hu:=mapTy_some ht
 refine AO1.newO h fun X M ec hs hH he=>?_
 obtain⟨k,l,hy,hl,hd,hv,hE,_⟩:=hm X M _ hs hH (he.dev x)
 have hw:=hE (fun _=>False) X M (Ev.refl _ _ _) (fun _ _=>id)
 have E:=new_ev (o:= .iter (dev e x) ks.length []) hs (frm_alloc (w:=X.w) (.mapIter (some k) ks.length #[] ks.length)) (Nat.le_refl _)
 refine⟨.pointer (some ⟨X.w.heap.size,0,none⟩),.mapIter (some k) ks.length #[] ks.length,?_,⟨newX_new.2.2,k,?_,?_⟩,?_⟩
 ·refine ex_range ho hy ?_
  unfold Instr.range
  simp only[run_bind,run_underlying hu,run_getMap hw,run_pure]
  rfl
 ·rw[newX_new.2.1];exact heap_alloc_new X.w _
 ·have:=(he.dev x).ev E hs
  rw[hy]at this
  exact this
 ·rw[←hH]
  have:=Rp.it (X:=newX X (X.w.alloc (.mapIter (some k) ks.length #[] ks.length)) X.w.heap.size (.iter (dev e x) ks.length [])) (b:=X.H.length) (by simp[newX]) ⟨_,_,_,newX_new.1⟩
  rw[newX_new.2.1]at this
  exact this
theorem setO_ev (hs : Sim X M) {b : Nat} {ao ao' : AO} {ob : Obj} (hb : X.H[b]? = some ao) (hg : X.gh b = false) (hk : (∃ ks ds ks' ds', ao = .map ks ds ∧ ao' = .map ks' ds') ∨ ∃ m n l l', ao = .iter m n l ∧ ao' = .iter m n l') :
    Ev (fun k => k ∈ [b]) X M (setX X (setB X.w (X.ρ b) ob) b ao') M where
  frm := frm_setB.mono fun k _ e => by subst e; exact hs.im b (lt_of_some hb) hg
  mn _ h := .inl h
  ff _ h := h
  fn _ h := .inl h
  len := by simp [setX]
  old b' hb' hn := by
    have hne : b' ≠ b := by simpa using hn
    refine ⟨setX_old hne, rfl, rfl, fun hg' => getElem_setB_ne fun e => hne ?_⟩
    exact hs.inj b' b hb' (lt_of_some hb) hg' hg e
  arr b' T' sz' xs2 hb' hx := by
    have hne : b' ≠ b := fun e => by
      subst e
      rw [setX_new hb'] at hx
      rcases hk with ⟨_, _, _, _, _, rfl⟩ | ⟨_, _, _, _, _, rfl⟩ <;> cases hx
    rw [setX_old hne] at hx
    refine ⟨xs2, hx, .inr ⟨rfl, rfl, rfl, fun _ c hc' => ⟨c, ?_, rfl⟩⟩⟩
    by_cases he : X.ρ b' = X.ρ b
    · exfalso
      have h2 := hs.blk b _ hb
      rw [he] at hc'
      rcases hk with ⟨_, _, _, _, rfl, _⟩ | ⟨_, _, _, _, rfl, _⟩
      · obtain ⟨_, l, hc, _⟩ := h2
        rw [hc] at hc'; cases hc'
      · obtain ⟨_, l, hc, _⟩ := h2
        rw [hc] at hc'; cases hc'
    · exact (getElem_setB_ne he).trans hc'
  map b' ks ds hb' := by
    by_cases hne : b' = b
    · subst hne
      rw [hb] at hb'
      rcases hk with ⟨_, _, ks', ds', rfl, rfl⟩ | ⟨_, _, _, _, rfl, _⟩
      · exact ⟨rfl, ks', ds', setX_new (lt_of_some hb)⟩
      · cases hb'
    · exact ⟨rfl, ks, ds, (setX_old hne).trans hb'⟩
  iter b' m n l hb' := by
    by_cases hne : b' = b
    · subst hne
      rw [hb] at hb'
      rcases hk with ⟨_, _, ks', ds', rfl, rfl⟩ | ⟨m', n', l', l'', rfl, rfl⟩
      · cases hb'
      · cases hb'
        exact ⟨rfl, l'', setX_new (lt_of_some hb)⟩
    · exact ⟨rfl, l, (setX_old hne).trans hb'⟩
  nw b' hb' hg' := .inr ⟨by simpa [setX] using hb', rfl, hg'⟩
theorem setO_sim (hs : Sim X M) {b : Nat} {ao ao' : AO} {ob : Obj} (hb : X.H[b]? = some ao) (hg : X.gh b = false) (hk : (∃ ks ds ks' ds', ao = .map ks ds ∧ ao' = .map ks' ds') ∨ ∃ m n l l', ao = .iter m n l ∧ ao' = .iter m n l')
    (hB : Blk (setX X (setB X.w (X.ρ b) ob) b ao') b ao') : Sim (setX X (setB X.w (X.ρ b) ob) b ao') M := by
  have hlen : (setX X (setB X.w (X.ρ b) ob) b ao').H.length = X.H.length := by simp [setX]
  refine hs.step (setO_ev hs hb hg hk) (fun k hk => by rw [show (setX X (setB X.w (X.ρ b) ob) b ao').w = setB X.w (X.ρ b) ob from rfl, size_setB]; exact hs.mlt k hk)
    (fun k hk => by rw [show (setX X (setB X.w (X.ρ b) ob) b ao').w = setB X.w (X.ρ b) ob from rfl, size_setB]; exact hs.flt k hk) hs.dj
    (fun b' hb' hg' => hs.im b' (hlen ▸ hb') hg') (fun b1 b2 h1 h2 g1 g2 => hs.inj b1 b2 (hlen ▸ h1) (hlen ▸ h2) g1 g2) ?_
  intro b' o hb'
  by_cases hne : b' = b
  · subst hne
    rw [setX_new (lt_of_some hb)] at hb'
    cases hb'
    exact .inr hB
  · exact .inl ⟨hlen ▸ lt_of_some hb', by simpa using hne⟩
def mput(key:Value)(v:D)(ks:List Value)(ds:List D):AO:=match kidx key ks with
 | some j=> .map ks (ds.set j v)
 | none=> .map (ks++[key]) (ds++[v])
def dmapUp(P:Program)(t:TypeId)(x key v:D)(H:Heap)(K:OpK):Prop:=mty (mapTy P t) fun kt _=>vlv (valV key) fun kv=>match x with
 | .map b=>(match H[b]? with
  | some (.map ks ds)=>KeysOk P kt kv ks∧K (.v undef) (H.set b (mput kv v ks ds)) [b]
  | _=>False)
 | _=>False
theorem ex_mapUp2{w w':World}{ec:Env}{t:TypeId}{x y z:Operand}{vx vy vz:Value}(ho:o.op= .mapUpdate t x y z∨o.op= .insert t x y z)(hx:evl ec x=vx)(hy:evl ec y=vy)(hz:evl ec z=vz)(h:(Instr.mapUpdate t vx vy vz).run P w= .ok () w'):(execOp (evl ec) o).run P w= .ok .skip w':=by
 rcases ho with ho | ho
 ·exact ex_mapUpdate ho hx hy hz h
 ·unfold execOp;simp only[ho,hx,hy,hz,run_bind,h,run_pure]
theorem dmapUp_ok{t:TypeId}{x y z:Operand}(ho:o.op= .mapUpdate t x y z∨o.op= .insert t x y z)(h:dmapUp P t (dev e x) (dev e y) (dev e z) H K):AO1 P o K e H:=by
 obtain⟨kt,el,ht,h⟩:=mty_some h
 obtain⟨kv,hkv,h⟩:=vlv_some h
 split at h
 case h_2=>exact h.elim
 rename_i b hx
 split at h
 case h_2=>exact h.elim
 rename_i ks ds hb
 obtain⟨hk,h⟩:=h
 have hu:=mapTy_some ht
 intro X M ec hs hH he
 subst hH
 have hxm:=he.dev x
 rw[hx]at hxm
 have hkey:=valV_rp hkv (he.dev y)
 have hz:=he.dev z
 generalize hy:evl ec x=y' at hxm
 generalize hzv:evl ec z=z' at hz
 cases hxm with
 | map hb' hm=>
  obtain⟨hg,l,hc,hl,hd,hv⟩:=hs.blk b _ hb
  have hlt:=lt_of_some hb
  cases hi:kidx kv ks with
  | none=>
   have hput:mput kv (dev e z) ks ds= .map (ks++[kv]) (ds++[dev e z]):=by unfold mput;rw[hi]
   rw[hput]at h
   have E:=setO_ev (ob:= .map (l.push ⟨kv,z',ks.length⟩) (ks.length+1)) hs hb hg (.inl ⟨_,_,ks++[kv],ds++[dev e z],rfl,rfl⟩)
   refine stepE_skip (w':=setB X.w (X.ρ b) (.map (l.push ⟨kv,z',ks.length⟩) (ks.length+1))) (ex_mapUp2 ho hy hkey hzv ?_) ⟨_,M,_,[b],E,setO_sim hs hb hg (.inl ⟨_,_,_,_,rfl,rfl⟩) ⟨hg,l.push ⟨kv,z',ks.length⟩,?_,⟨by simp[hl.1],fun i m hm=>?_⟩,by simp[hd],fun i d m h1 h2=>?_⟩,rfl,.v _,h⟩
   ·unfold Instr.mapUpdate
    simp only[run_bind,run_underlying hu,run_getMap hc,run_pure,key_check hk.1,findKey_run hl.keys hk,hi,Option.bind_none]
    simp[setObj,Sem.run,hc,setB]
   ·rw[List.length_append];exact getElem_setB_self hc
   ·rw[Array.getElem?_push,hl.1]at hm
    split at hm
    ·rename_i e;subst e;cases hm;exact⟨by simp,rfl⟩
    ·have:=hl.2 i m hm
     rw[List.getElem?_append_left (List.getElem?_eq_some_iff.1 this.1).1]
     exact this
   ·rw[Array.getElem?_push,hl.1]at h2
    split at h2
    ·rename_i e;subst e;cases h2
     rw[←hd,List.getElem?_append_right (Nat.le_refl _)]at h1
     simp at h1;subst h1
     exact hz.ev E hs
    ·have hlt':i<ds.length:=by
      have:=(List.getElem?_eq_some_iff.1 h1).1
      rw[List.length_append,List.length_singleton]at this;omega
     rw[List.getElem?_append_left hlt']at h1
     exact(hv i d m h1 h2).ev E hs
  | some j=>
   have hput:mput kv (dev e z) ks ds= .map ks (ds.set j (dev e z)):=by unfold mput;rw[hi]
   rw[hput]at h
   obtain⟨k',hk1,hk2⟩:=kidx_lt hi
   have hkk:=vEq_eq (hk.2 k' (List.mem_of_getElem? hk1)) hk2
   subst hkk
   have hjl:=(List.getElem?_eq_some_iff.1 hk1).1
   have hm':l[j]? =some (l[j]'(by rw[hl.1];omega)):=Array.getElem?_eq_getElem _
   obtain⟨hkm,hbn⟩:=hl.2 j _ hm'
   rw[hk1]at hkm
   have hkm:(l[j]'(by rw[hl.1];omega)).key=kv:=(Option.some.inj hkm).symm
   have E:=setO_ev (ob:= .map (l.modify j fun e=>{e with key:=kv,val:=z'}) ks.length) hs hb hg (.inl ⟨_,_,ks,ds.set j (dev e z),rfl,rfl⟩)
   have hget:∀(i:Nat) m,(l.modify j fun e=>{e with key:=kv,val:=z'})[i]? =some m→∃m0,l[i]? =some m0∧m.born=m0.born∧(i=j∧m.key=kv∧m.val=z'∨i≠j∧m=m0):=fun i m hm=>by
    rw[Array.getElem?_modify]at hm
    split at hm
    ·rename_i e;subst e
     rw[hm']at hm
     cases hm
     exact⟨_,hm',rfl,.inl ⟨rfl,rfl,rfl⟩⟩
    ·rename_i e
     exact⟨m,hm,rfl,.inr ⟨fun e'=>e e'.symm,rfl⟩⟩
   refine stepE_skip (w':=setB X.w (X.ρ b) (.map (l.modify j fun e=>{e with key:=kv,val:=z'}) ks.length)) (ex_mapUp2 ho hy hkey hzv ?_) ⟨_,M,_,[b],E,setO_sim hs hb hg (.inl ⟨_,_,_,_,rfl,rfl⟩) ⟨hg,(l.modify j fun e=>{e with key:=kv,val:=z'}),?_,⟨by simp[hl.1],fun i m hm=>?_⟩,by simp[hd],fun i d m h1 h2=>?_⟩,rfl,.v _,h⟩
   ·unfold Instr.mapUpdate
    simp only[run_bind,run_underlying hu,run_getMap hc,run_pure,key_check hk.1,findKey_run hl.keys hk,hi,Option.bind_some,Array.getElem?_toList,hm',Option.map_some,Option.getD_some,hkm,key_stays hk.1]
    simp[setObj,Sem.run,hc,setB]
   ·exact getElem_setB_self hc
   ·obtain⟨m0,g1,g2,g3⟩:=hget i m hm
    rcases g3 with⟨rfl,g3,g4⟩ | ⟨_,rfl⟩
    ·rw[g2,g3];exact⟨hk1,(hl.2 _ _ g1).2⟩
    ·exact hl.2 _ _ g1
   ·obtain⟨m0,g1,g2,g3⟩:=hget i m h2
    rcases g3 with⟨rfl,g3,g4⟩ | ⟨g3,rfl⟩
    ·rw[List.getElem?_set_self (by rw[hd];exact hjl)]at h1
     cases h1
     rw[g4];exact hz.ev E hs
    ·rw[List.getElem?_set_ne (Ne.symm g3)]at h1
     exact(hv i d _ h1 g1).ev E hs
abbrev dite(H:Heap)(x:D)(K:Nat→D→Nat→List Nat→Prop):Prop:=match x with
 | .it b=>(match H[b]? with | some (.iter m n l)=>K b m n l | _=>False)
 | _=>False
theorem dite_at{b n:Nat}{m:D}{l:List Nat}{K:Nat→D→Nat→List Nat→Prop}(h:H[b]? =some (.iter m n l))(k:K b m n l):dite H (.it b) K:=by
 show(match H[b]? with | some (.iter m n l)=>K b m n l | _=>False)
 rw[h];exact k
theorem dite_some{x:D}{K:Nat→D→Nat→List Nat→Prop}(h:dite H x K):∃b m n l,x= .it b∧H[b]? =some (.iter m n l)∧K b m n l:=by
 unfold dite at h
 split at h
 ·split at h
  ·exact⟨_,_,_,_,rfl,by assumption,h⟩
  ·exact h.elim
 ·exact h.elim
def dnext(x:D)(H:Heap)(K:OpK):Prop:=dite H x fun b m n l=>dmap H m fun ks ds _=>Ck (Nat.beq ks.length n)
 ((∀j k d,ks[j]? =some k→ds[j]? =some d→j ∉ l→K (.tup [.v (.bool true),.v k,d]) (H.set b (.iter m n (l++[j]))) [b])∧((∀j,j<n→j∈l)→K (.tup [.v (.bool false)]) H []))
theorem dnext_ok {x : Operand} (ho : o.op = .next x false) (h : dnext (dev e x) H K) : AO1 P o K e H := by
  obtain ⟨b, m, n, l, hx, hb, h⟩ := dite_some h
  obtain ⟨ks, ds, ob, h, hob, hm⟩ := dmap_ok h
  obtain ⟨hn, h1, h2⟩ := h.t
  have hn := Nat.eq_of_beq_eq_true hn
  intro X M ec hs hH he
  have hxi := he.dev x
  rw [hx] at hxi
  generalize hy : evl ec x = y at hxi
  cases hxi with
  | it hb' _ =>
    have hbX : X.H[b]? = some (.iter m n l) := by rw [hH]; exact hb
    obtain ⟨hg, k, hc, hr⟩ := hs.blk b _ hbX
    obtain ⟨k', es, hk', hl, hd, hv, hE, _⟩ := hm X M _ hs hH hr
    cases hk'
    have hw := hE (fun _ => False) X M (Ev.refl _ _ _) (fun _ _ => id)
    rw [hn] at hw
    have hborn : ∀ x ∈ es.toList, x.born < n := fun x hx => by
      obtain ⟨i, hi⟩ := List.getElem?_of_mem hx
      rw [Array.getElem?_toList] at hi
      obtain ⟨g1, g2⟩ := hl.2 i x hi
      have := (List.getElem?_eq_some_iff.1 g1).1
      omega
    rcases run_next_at (P := P) X.w o.type (X.ρ b) k n n l.toArray es n hc hw hborn (Nat.le_refl _) with ⟨h0, hrun⟩ | ⟨x', hx', w1, hw1, hrun⟩
    · refine stepE_val (ex_next ho hy hrun) ⟨X, M, _, [], Ev.refl _ _ _, hs, rfl, ?_, hH ▸ h2 fun j hj => ?_⟩
      · exact .tup rfl fun j d x g1 g2 => by
          match j with
          | 0 => cases g1; cases g2; exact .v _
          | _ + 1 => cases g1
      · apply Classical.byContradiction
        intro hnot
        have hj' : j < es.size := by rw [hl.1]; omega
        have hget : es[j]? = some es[j] := Array.getElem?_eq_getElem hj'
        have := (hl.2 j _ hget).2
        have hmem : es[j] ∈ leftOf es l.toArray := by
          unfold leftOf
          rw [Array.mem_filter]
          refine ⟨Array.getElem_mem _, ?_⟩
          rw [this]
          simpa using hnot
        have h0' : leftOf es l.toArray = #[] := Array.eq_empty_of_size_eq_zero h0
        rw [h0'] at hmem
        simp at hmem
    · obtain ⟨hmem, hseen⟩ := mem_left hx'
      obtain ⟨j, hj⟩ := List.getElem?_of_mem hmem
      rw [Array.getElem?_toList] at hj
      obtain ⟨g1, g2⟩ := hl.2 j x' hj
      have hjl := (List.getElem?_eq_some_iff.1 g1).1
      have hdj : ds[j]? = some (ds[j]'(by omega)) := List.getElem?_eq_getElem _
      have hK := h1 j x'.key _ g1 hdj (by rw [g2] at hseen; simpa using hseen)
      have E0 : Ev (fun k => k ∈ [b]) X M { X with w := w1 } M := by
        rcases hw1 with rfl | rfl
        · exact Ev.refl _ _ _
        · exact {
            frm := Ext.frm frm_drew
            mn := fun _ h => .inl h
            ff := fun _ h => h
            fn := fun _ h => .inl h
            len := Nat.le_refl _
            old := fun b hb _ => ⟨rfl, rfl, rfl, fun _ => rfl⟩
            arr := fun b T sz xs' hb hx => ⟨xs', hx, .inr ⟨rfl, rfl, rfl, fun _ cur hc => ⟨cur, hc, rfl⟩⟩⟩
            map := fun b es c hb => ⟨rfl, es, c, hb⟩
            iter := fun b m n l hb => ⟨rfl, l, hb⟩
            nw := fun b hb hg => .inr ⟨hb, rfl, hg⟩ }
      have hsz : w1.heap = X.w.heap := by rcases hw1 with rfl | rfl <;> rfl
      have S0 : Sim { X with w := w1 } M := hs.step E0 (fun k hk => by show k < w1.heap.size; rw [hsz]; exact hs.mlt k hk) (fun k hk => by show k < w1.heap.size; rw [hsz]; exact hs.flt k hk) hs.dj hs.im hs.inj fun b' o hb2 => by
        by_cases hbb : b' = b
        · subst hbb
          have hb2 : X.H[b']? = some o := hb2
          rw [hbX] at hb2
          cases hb2
          exact .inr ⟨hg, k, by show w1.heap[X.ρ b']? = _; rw [hsz]; exact hc, hr.ev E0 hs⟩
        · exact .inl ⟨lt_of_some hb2, by simpa using hbb⟩
      have hbk : (∃ ks ds ks' ds', (AO.iter m n l) = .map ks ds ∧ (AO.iter m n (l ++ [j])) = .map ks' ds') ∨ ∃ m0 n0 l0 l', (AO.iter m n l) = .iter m0 n0 l0 ∧ (AO.iter m n (l ++ [j])) = .iter m0 n0 l' := .inr ⟨_, _, _, _, rfl, rfl⟩
      have E := setO_ev (ob := .mapIter (some k) n (l.toArray.push x'.born) n) S0 hbX hg hbk
      have E2 := E0.trans E hs
      refine stepE_val (ex_next ho hy hrun) ⟨_, M, .tup [.v (.bool true), .v x'.key, ds[j]], [b], E2, setO_sim S0 hbX hg hbk ⟨hg, k, ?_, (hr.ev E0 hs).ev E S0⟩, rfl, ?_, ?_⟩
      · rw [show (l ++ [j]).toArray = l.toArray.push x'.born by rw [g2]; simp]
        exact getElem_setB_self (by show w1.heap[X.ρ b]? = _; rw [hsz]; exact hc)
      · refine .tup rfl fun i d x g3 g4 => ?_
        match i with
        | 0 => cases g3; cases g4; exact .v _
        | 1 => cases g3; cases g4; exact .v _
        | 2 => cases g3; cases g4; exact (hv j _ x' hdj hj).ev E2 hs
        | _ + 3 => cases g3
      · show K _ (X.H.set b _) _
        rw [hH]; exact hK
def dentry(x:D)(H:Heap)(K:OpK):Prop:=dite H x fun _ m n l=>dmap H m fun ks ds _=>Ck (Nat.beq ks.length n) (match l.getLast? with
 | some j=>(match ks[j]? with | some k=>ptr? ds[j]? fun d=>K (.tup [.v k,d]) H [] | none=>False)
 | none=>False)
theorem dentry_ok{x:Operand}(ho:o.op= .entry x)(h:dentry (dev e x) H K):AO1 P o K e H:=by
 obtain⟨b,m,n,l,hx,hb,h⟩:=dite_some h
 obtain⟨ks,ds,ob,h,hob,hm⟩:=dmap_ok h
 obtain⟨hn,h⟩:=h.t
 have hn:=Nat.eq_of_beq_eq_true hn
 split at h
 case h_2=>exact h.elim
 rename_i j hlast
 split at h
 case h_2=>exact h.elim
 rename_i k0 hkj
 obtain⟨d,hdj,h⟩:=ptr?_some h
 intro X M ec hs hH he
 have hxi:=he.dev x
 rw[hx]at hxi
 generalize hy:evl ec x=y at hxi
 cases hxi with
 | it hb' _=>
  have hbX:X.H[b]? =some (.iter m n l):=by rw[hH];exact hb
  obtain⟨hg,k,hc,hr⟩:=hs.blk b _ hbX
  obtain⟨k',es,hk',hl,hd,hv,hE,_⟩:=hm X M _ hs hH hr
  cases hk'
  have hw:=hE (fun _=>False) X M (Ev.refl _ _ _) (fun _ _=>id)
  have hjl:=(List.getElem?_eq_some_iff.1 hkj).1
  have hj':j<es.size:=by rw[hl.1];exact hjl
  have hget:es[j]? =some es[j]:=Array.getElem?_eq_getElem hj'
  obtain⟨g1,g2⟩:=hl.2 j _ hget
  have hkk:es[j].key=k0:=by rw[hkj]at g1;exact(Option.some.inj g1).symm
  have hfind:es.find? (·.born==j)=some es[j]:=by
   rw[←Array.find?_toList]
   have hmem:es[j]∈es.toList:=by simp
   have hnd:(es.toList.map (·.born)).Nodup:=by
    rw[show es.toList.map (·.born)=List.range es.size from ?_]
    ·exact List.nodup_range
    ·apply List.ext_getElem?
     intro i
     rw[List.getElem?_map,Array.getElem?_toList]
     by_cases hi:i<es.size
     ·have:=(hl.2 i _ (Array.getElem?_eq_getElem hi)).2
      rw[Array.getElem?_eq_getElem hi,List.getElem?_range hi]
      simp[this]
     ·rw[Array.getElem?_eq_none (by omega),List.getElem?_eq_none (by simp;omega)];rfl
   have:=find_born es[j] es.toList hnd hmem
   rw[g2]at this
   exact this
  have hrun:(Instr.entry (.pointer (some ⟨X.ρ b,0,none⟩))).run P X.w= .ok (.tuple #[es[j].key,es[j].val]) X.w:=by
   unfold Instr.entry
   simp only[run_bind,run_getIter hc,run_getMap hw,run_pure]
   have hback:l.toArray.back? =some j:=by
    rw[←hlast]
    simp[Array.back?,List.getLast?_eq_getElem?]
   simp only[hback,run_bind,run_getMap hw,hn,bne_self_eq_false,Bool.false_eq_true,if_false,hfind,run_pure]
  refine stepE_val (ex_entry ho hy hrun) ⟨X,M,_,[],Ev.refl _ _ _,hs,rfl,?_,hH▸h⟩
  refine .tup rfl fun i d' x g3 g4=>?_
  match i with
  | 0=>cases g3;cases g4;rw[hkk];exact .v _
  | 1=>cases g3;cases g4;exact hv j _ _ hdj hget
  | _+2=>cases g3
end
end Go.Ax
namespace Go.Ax
open Go Go.Wx
variable [Globs]
section
variable {P : Program} {X X' : Cx} {M M' : Nat → Prop} {e : Nat → D} {H : Heap} {o : Oper} {K : OpK}
def fillR(xs:List (List D))(i n:Nat)(ds:List D):List (List D):=xs.take i++(List.replicate n ds++xs.drop (i+n))
theorem fillR_len{xs:List (List D)}{i n:Nat}{ds:List D}(h:i+n≤xs.length):(fillR xs i n ds).length=xs.length:=by simp[fillR];omega
theorem fillR_get{xs:List (List D)}{i n j:Nat}{ds:List D}(h:i+n≤xs.length):(fillR xs i n ds)[j]? =if i≤j∧j<i+n then some ds else xs[j]? :=by
 unfold fillR
 have hl:(xs.take i).length=i:=by simp;omega
 by_cases h1:j<i
 ·rw[List.getElem?_append_left (by omega),List.getElem?_take_of_lt h1,if_neg (by omega)]
 ·rw[List.getElem?_append_right (by omega),hl]
  by_cases h2:j<i+n
  ·rw[List.getElem?_append_left (by simp;omega),if_pos (by omega),List.getElem?_replicate,if_pos (by omega)]
  ·rw[List.getElem?_append_right (by simp;omega),List.getElem?_drop,if_neg (by omega)]
   congr 1;simp;omega
def dclear(P:Program)(ts:List TypeId)(x:D)(H:Heap)(K:OpK):Prop:=match ts with
 |[t]=>(match slk P t with
  | some (el,sz)=>(match zeroD P el with
   | some zs=>(match x with
    | .sl b i n h=>datarr H b fun T sz' xs=>Ck (Nat.beq sz 1&&(Nat.beq sz' 1&&(Nat.beq zs.length 1&&zs.all one))) (Ck (Nat.beq xs.length h) (Ck (Nat.ble (i+n) xs.length) (K (.tup []) (H.set b (.arr T sz' (fillR xs i n zs))) [b])))
    | _=>False)
   | _=>False)
  | _=>False)
 | _=>False
theorem set_same{α:Type}{l:List α}{i:Nat}{x:α}(h:l[i]? =some x):l.set i x=l:=by
 obtain⟨h1,h2⟩:=List.getElem?_eq_some_iff.1 h
 rw[←h2,List.set_getElem_self]
theorem dclear_ok {ts : Array TypeId} {x : Operand} (ho : o.op = .call { callee := .builtin .clear, args := #[x], argTypes := ts }) (h : dclear P ts.toList (dev e x) H K) : AO1 P o K e H := by
  unfold dclear at h
  split at h
  case h_2 => exact h.elim
  rename_i t hts
  obtain rfl : ts = #[t] := by apply Array.ext'; rw [hts]
  split at h
  case h_2 => exact h.elim
  rename_i el sz hslk
  obtain ⟨hu, _⟩ := slk_spec hslk
  split at h
  case h_2 => exact h.elim
  rename_i zs hz
  obtain ⟨z, rfl, hzr⟩ := zeroD_run hz
  split at h
  case h_2 => exact h.elim
  rename_i b i n hh hx
  obtain ⟨T, sz', xs, hb, h⟩ := datarr_some h
  obtain ⟨hc, h⟩ := h.t
  obtain ⟨hl, h⟩ := h.t
  obtain ⟨hin, h⟩ := h.t
  simp only [Bool.and_eq_true] at hc
  obtain ⟨hs1, hs2, hzl, hzo⟩ := hc
  have hs2 := Nat.eq_of_beq_eq_true hs2
  have hl := Nat.eq_of_beq_eq_true hl
  have hin := Nat.le_of_ble_eq_true hin
  subst hs2
  have hz1 : z.cells.toList.length = 1 := by have := Nat.eq_of_beq_eq_true hzl; simpa using this
  obtain ⟨z0, hz0⟩ : ∃ z0, z.cells.toList = [z0] := List.length_eq_one_iff.1 hz1
  have hz0c : z.cells = #[z0] := by apply Array.ext'; rw [hz0]
  rw [hz0] at h hzo
  have hone : z0.oneCell' = true := by simpa [one] using hzo
  intro X M ec hs hH he
  subst hH
  have hr := he.dev x
  rw [hx] at hr
  obtain ⟨a, c, hy⟩ : ∃ a c, evl ec x = .slice a n c := by
    generalize evl ec x = y at hr
    cases hr
    exact ⟨_, _, rfl⟩
  rw [hy] at hr
  have hsame : n = 0 → X.H.set b (.arr T 1 (fillR xs i n [.v z0])) = X.H := fun h0 => by
    refine set_same ?_
    rw [hb, h0]
    simp [fillR]
  have hexec : ∀ {w'}, (Builtin.clear_ #[t] o.type #[evl ec x]).run P X.w = .ok (.tuple #[]) w' → (execOp (evl ec) o).run P X.w = .ok (.value (.tuple #[])) w' := fun {w'} hrun => by
    unfold execOp
    simp only [ho, resolve, invoke, builtin, run_bind, run_pure]
    simp [hrun]
  have empty : n = 0 → stepE P (execOp (evl ec) o) X.w fun v w' => ∃ X' M' d ms, Ev (fun b => b ∈ ms) X M X' M' ∧ Sim X' M' ∧ X'.w = w' ∧ Rp X' d v ∧ K d X'.H ms := fun h0 => by
    rw [show [z0].map D.v = [D.v z0] from rfl, hsame h0] at h
    refine stepE_val (hexec (w' := X.w) ?_) ⟨X, M, _, [b], ?_, hs, rfl, .tup rfl fun j d x h1 _ => (by simp at h1), h⟩
    · subst h0
      rw [hy]
      unfold Builtin.clear_
      cases a <;> simp [run_bind, run_pure, run_underlying hu]
    · exact Ev.refl _ X M
  rcases hs.sl hr hb hl with ⟨h0, _⟩ | ⟨hg, rfl, hnc, hcm, cur, hcur, hcs⟩
  · exact empty h0
  by_cases h0 : n = 0
  · exact empty h0
  have hfit : i + n ≤ cur.size := by have := Nat.mul_one (i + c); omega
  have hsz := size_putAt (List.replicate n z0) cur i
  have E := set_ev (xs' := fillR xs i n [.v z0]) (cur' := putAt cur i (List.replicate n z0)) hs hb hg (.inl (fillR_len hin)) hcur hsz
  rcases hs.blk b _ hb with ⟨hg', _⟩ | ⟨_, cur2, hcur2, hl2, hzz, hv⟩
  · rw [hg] at hg'; cases hg'
  rw [hcur] at hcur2
  cases hcur2
  have S := set_sim (xs' := fillR xs i n [.v z0]) (cur' := putAt cur i (List.replicate n z0)) hs hb hg (.inl (fillR_len hin)) hcur hsz (.inr ⟨hg, _, getElem_setB_self hcur, by rw [hsz, fillR_len hin]; exact hl2, fun ds hd => by
      unfold fillR at hd
      simp only [List.mem_append, List.mem_replicate] at hd
      rcases hd with hd | hd | hd
      · exact hzz ds (List.mem_of_mem_take hd)
      · rw [hd.2]; rfl
      · exact hzz ds (List.mem_of_mem_drop hd), fun i' j' d hd => by
      obtain ⟨ds, h1, h2⟩ := at2_some.1 hd
      rw [fillR_get hin] at h1
      rw [get_putAt _ _ _ _ (by simpa using hfit), List.length_replicate]
      by_cases hr : i ≤ i' ∧ i' < i + n
      · rw [if_pos hr] at h1
        cases h1
        obtain rfl : j' = 0 := by have := (List.getElem?_eq_some_iff.1 h2).1; simp at this; omega
        cases h2
        rw [if_pos (by omega), List.getElem?_replicate, if_pos (by omega)]
        exact ⟨z0, rfl, hone, .v z0⟩
      · rw [if_neg hr] at h1
        have hj : j' = 0 := by
          have g1 := (List.getElem?_eq_some_iff.1 h2).1
          rw [hzz ds (List.mem_of_getElem? h1)] at g1
          omega
        subst hj
        rw [if_neg (by omega)]
        obtain ⟨x, hx, ho', hr'⟩ := hv i' 0 d (at2_some.2 ⟨ds, h1, h2⟩)
        exact ⟨x, hx, ho', hr'.ev E hs⟩⟩)
  refine stepE_val (hexec ?_) ⟨_, M, _, [b], E, S, rfl, .tup rfl fun j d x h1 _ => (by simp at h1), h⟩
  rw [hy]
  have hzc : (Builtin.zeroCells z.cells n).toList = List.replicate n z0 := by
    rw [hz0c]
    unfold Builtin.zeroCells
    refine List.ext_getElem? fun j => ?_
    simp [Nat.mod_one]
    rw [List.getElem?_replicate]
    by_cases hj : j < n
    · rw [List.getElem?_eq_getElem (by simpa using hj), if_pos hj]; rfl
    · rw [List.getElem?_eq_none (by simpa using hj), if_neg hj]; rfl
  have hst := run_storeCells (P := P) (List.replicate n z0) 0 (w := X.w) (b := X.ρ b) (off := i) hcur (by simpa using hfit) (fun u hu => by rw [(List.mem_replicate.1 hu).2]; exact hone)
  unfold Builtin.clear_
  cases n with
  | zero => exact absurd rfl h0
  | succ n =>
    simp [run_bind, run_pure, run_underlying hu, hzr, hzc, Nat.mul_one]
    rw [Nat.add_zero] at hst
    rw [hst]
    rfl
def dslnil(P:Program)(t:TypeId)(x:D)(H:Heap)(K:OpK):Prop:=match x with
 | .row _ []=>Ck (slTy P t) (K (.v (.bool true)) H []∧K (.v (.bool false)) H [])
 | .row _ (_::_)=>Ck (slTy P t) (K (.v (.bool false)) H [])
 | _=>False
theorem slnil_run {t el : TypeId} (hu : P.underlying t = some (.slice el)) {x y : Operand} {ec : Env} {t' : TypeId} (ho : o.op = .binOp .eql t x y t') {a : Option Addr} {n c : Nat} (hx : evl ec x = .slice a n c) (hy : evl ec y = .slice none 0 0) (w : World) :
    (execOp (evl ec) o).run P w = .ok (.value (.bool a.isNone)) w := by
  have hg : ∀ w, (eqGuard .eql t x y (.slice a n c) (.slice none 0 0)).run P w = .ok () w := fun w => by unfold eqGuard; simp [run_pure]
  have he : ∀ w, (Op.equal t (.slice a n c) (.slice none 0 0)).run P w = .ok a.isNone w := fun w => by
    unfold Op.equal Op.maxDepth
    rw [Op.equalIn]
    cases a <;> simp only [run_bind, run_underlying hu, run_pure] <;> rfl
  refine exec_binS ho (fun w => ?_) w
  rw [hx, hy]
  simp only [run_bind, hg, binOp, he, run_pure]
theorem dslnil_ok{t t':TypeId}{x y:Operand}(ho:o.op= .binOp .eql t x y t')(hy:dev e y= .v (.slice none 0 0))(h:dslnil P t (dev e x) H K):AO1 P o K e H:=by
 unfold dslnil at h
 intro X M ec hs hH he
 have h2:=he.dev y
 rw[hy]at h2
 have h2:=h2.v_inv
 split at h
 ·rename_i cl hx
  obtain⟨ht,h3,h4⟩:=h.t
  obtain⟨el,hu⟩:=slTy_some ht
  obtain⟨a,c,sz',vals,h1,_⟩:=dev_row he hx
  cases a with
  | none=>exact stepE_val (slnil_run hu ho h1 h2 X.w) ⟨X,M,_,[],Ev.refl _ _ _,hs,rfl,.v _,by rw[hH];exact h3⟩
  | some a=>exact stepE_val (slnil_run hu ho h1 h2 X.w) ⟨X,M,_,[],Ev.refl _ _ _,hs,rfl,.v _,by rw[hH];exact h4⟩
 ·rename_i cl r rs hx
  obtain⟨ht,h3⟩:=h.t
  obtain⟨el,hu⟩:=slTy_some ht
  obtain⟨a,c,sz',vals,h1,_,_,_,hn,_⟩:=dev_row he hx
  cases a with
  | none=>exact absurd (hn rfl) (by simp)
  | some a=>exact stepE_val (slnil_run hu ho h1 h2 X.w) ⟨X,M,_,[],Ev.refl _ _ _,hs,rfl,.v _,by rw[hH];exact h3⟩
 ·exact h.elim
def dclip(P:Program)(t:TypeId)(x h m:D)(K:D→Prop):Prop:=match h,m with
 | .v (.int _ i),.v (.int _ j)=>(match x with
  | .row _ xs=>Ck ((slk P t).isSome&&(decide (i=(xs.length:Int))&&decide (j=(xs.length:Int)))) (K (.row true xs))
  | .v (.slice none 0 0)=>Ck ((slk P t).isSome&&(decide (i=0)&&decide (j=0))) (K (.v (.slice none 0 0)))
  | _=>False)
 | _,_=>False
theorem clip_run {t el : TypeId} {inf : TypeInfo} (hu : P.underlying t = some (.slice el)) (hi : P.info? el = some inf) {x h m : Operand} {ec : Env} (ho : o.op = .slice t x none (some h) (some m)) {a : Option Addr} {n c : Nat} {k k' : IntKind} (hx : evl ec x = .slice a n c) (hh : evl ec h = .int k n) (hm : evl ec m = .int k' n) (hc : n ≤ c) :
    pureRun P (execOp (evl ec) o) = some (.value (.slice a n n)) := by
  have hsz : pureRun P (sizeOf el) = some inf.size := by
    unfold sizeOf typeInfo; simp only [pr_bind, Go.program, pureRun, Option.bind_some, hi]; rfl
  unfold execOp
  simp only [ho, hx, Instr.sliceAt, Instr.slice, pr_bind, pr_underlying hu, Option.bind_some, Option.map_none, Option.map_some]
  simp [Instr.sliceBounds, pr_bind, pr_pure, pr_map, hh, hm, slbound_lo (show (n : Int) = (n : Nat) from rfl) hc, slbound_lo (show (n : Int) = (n : Nat) from rfl) (Nat.le_refl n), hsz]
  intro _
  cases a with
  | none => rfl
  | some a => simp [Addr.add]
theorem dclip_ok{t:TypeId}{x h m:Operand}(ho:o.op= .slice t x none (some h) (some m)){K:D→Prop}(hK:dclip P t (dev e x) (dev e h) (dev e m) K):AOP P o K e H:=by
 unfold dclip at hK
 split at hK
 case h_2=>exact hK.elim
 rename_i k i k' j hh hm
 have hv:∀{X:Cx} {ec:Env},Renv X e ec→evl ec h= .int k i∧evl ec m= .int k' j:=fun he=>by
  have h1:=he.dev h
  have h2:=he.dev m
  rw[hh]at h1
  rw[hm]at h2
  exact⟨h1.v_inv,h2.v_inv⟩
 split at hK
 ·rename_i cl xs hx
  obtain⟨hb,hK2⟩:=hK.t
  simp only[Bool.and_eq_true,decide_eq_true_eq]at hb
  obtain⟨ht,rfl,rfl⟩:=hb
  obtain⟨⟨el,sz⟩,hsl⟩:=Option.isSome_iff_exists.1 ht
  obtain⟨hu,inf,hi,_⟩:=slk_spec hsl
  refine AOP.mk hK2 fun X ec _ he=>?_
  obtain⟨a,c,sz',vals,h1,hcl,⟨hle,hlm⟩,hs,hn,hF,hc,hr⟩:=dev_row he hx
  exact⟨_,clip_run hu hi ho h1 (hv he).1 (hv he).2 hle,.row (cl:=true) vals (fun _=>rfl) ⟨Nat.le_refl _,hlm⟩ hs hn hF hc hr⟩
 ·rename_i hx
  obtain⟨hb,hK2⟩:=hK.t
  simp only[Bool.and_eq_true,decide_eq_true_eq]at hb
  obtain⟨ht,rfl,rfl⟩:=hb
  obtain⟨⟨el,sz⟩,hsl⟩:=Option.isSome_iff_exists.1 ht
  obtain⟨hu,inf,hi,_⟩:=slk_spec hsl
  refine AOP.mk hK2 fun X ec _ he=>⟨_,?_,.v _⟩
  have hr:=he.dev x
  rw[hx]at hr
  exact clip_run (n:=0) (c:=0) hu hi ho hr.v_inv (hv he).1 (hv he).2 (Nat.le_refl _)
 ·exact hK.elim
end
end Go.Ax
namespace Go.Ax
open Go Go.Wx
variable [Globs]
section
variable {P : Program} {X X' : Cx} {M M' : Nat → Prop} {e : Nat → D} {H : Heap} {o : Oper}
def makeTy(P:Program)(t:TypeId):Option (TypeId × Nat × Nat × List D):=match P.underlying t with
 | some (.slice el)=>(match P.info? el with
  | some ie=>(match ie.zero with
   | some z=>cond (Nat.beq z.cells.size ie.size) (some (el,ie.size,ie.bytes,z.cells.toList.map .v)) none
   | none=>none)
  | none=>none)
 | _=>none
def dmake(P:Program)(t:TypeId)(l c:D)(H:Heap)(K:OpK):Prop:=match makeTy P t,l,c with
 | some (el,sz,by_,z),.v (.int _ l),.v (.int _ c)=>Ck (z.all one&&(nonneg l&&nonneg c)) (Ck (Nat.ble l.toNat c.toNat&&(Nat.ble (by_*c.toNat) 281474976710656&&Nat.ble c.toNat maxLen)) (K (.sl H.length 0 l.toNat l.toNat) (H++[.arr el sz (List.replicate l.toNat z)]) []))
 | _,_,_=>False
theorem dmake_ok{t:TypeId}{l c:Operand}{K:OpK}(ho:o.op= .makeSlice t l c)(h:dmake P t (dev e l) (dev e c) H K):AO1 P o K e H:=by
 unfold dmake at h
 split at h
 case h_2=>exact h.elim
 rename_i el sz by_ zs kl l' kc c' hm hl hc
 obtain⟨hb,hA⟩:=h.t
 obtain⟨hb2,hK⟩:=hA.t
 clear h hA
 simp only[Bool.and_eq_true,nonneg_iff]at hb hb2
 obtain⟨hone,hl0,hc0⟩:=hb
 obtain⟨h1,h2,h3⟩:=hb2
 have h1:=Nat.le_of_ble_eq_true h1
 have h2:=Nat.le_of_ble_eq_true h2
 have h3:=Nat.le_of_ble_eq_true h3
 unfold makeTy at hm
 split at hm
 case h_2=>cases hm
 rename_i el' hu
 split at hm
 case h_2=>cases hm
 rename_i ie hie
 split at hm
 case h_2=>cases hm
 rename_i z hz
 obtain⟨hsz,hm⟩:=cond_some hm
 cases hm
 have hsz:=Nat.eq_of_beq_eq_true hsz
 refine AO1.new (T:=el) hK fun X M ec hs hH he=>?_
 have hlc:=he.dev l
 have hcc:=he.dev c
 rw[hl]at hlc;rw[hc]at hcc
 have hby:(ie.bytes:Int)*c'≤281474976710656:=by
  have h2':((ie.bytes*c'.toNat:Nat):Int)≤((281474976710656:Nat):Int):=Int.ofNat_le.2 h2
  rw[Int.natCast_mul,Int.toNat_of_nonneg hc0]at h2'
  exact h2'
 have hrun:=run_make (P:=P) X.w t el ie z hu hie hz kl kc l' c' hl0 (by omega) hby (by simp only[maxLen]at h3;omega)
 have hrun':(execOp (evl ec) o).run P X.w= .ok (.value (.slice (some ⟨X.w.heap.size,0,none⟩) l'.toNat c'.toNat)) (X.w.alloc (.cells (madeCells z.cells (c'.toNat*ie.size)) el)):=by
  unfold execOp
  simp only[ho]
  rw[hlc.v_inv,hcc.v_inv,run_bind,hrun]
  rfl
 have hcs:(madeCells z.cells (c'.toNat*ie.size)).size=c'.toNat*ie.size:=size_madeCells _ _
 refine⟨_,_,hrun',.inr ⟨newX_new.2.2,madeCells z.cells (c'.toNat*ie.size),by rw[newX_new.2.1];exact heap_alloc_new X.w _,?_,?_,fun i j d hd=>?_⟩,?_⟩
 ·rw[hcs,List.length_replicate];exact Nat.mul_le_mul_right _ h1
 ·intro ds hd
  rw[(List.mem_replicate.1 hd).2];simp[hsz]
 ·obtain⟨ds,g1,g2⟩:=at2_some.1 hd
  have hi:=(List.getElem?_eq_some_iff.1 g1).1
  rw[List.length_replicate]at hi
  rw[List.getElem?_replicate,if_pos hi]at g1
  cases g1
  rw[List.getElem?_map,Option.map_eq_some_iff]at g2
  obtain⟨x,hx,rfl⟩:=g2
  have hj:=(List.getElem?_eq_some_iff.1 hx).1
  rw[Array.length_toList,hsz]at hj
  have hlt:i*ie.size+j<c'.toNat*ie.size:=by
   have:(i+1)*ie.size≤c'.toNat*ie.size:=Nat.mul_le_mul_right _ (by omega)
   rw[Nat.succ_mul]at this
   omega
  have hmod:(i*ie.size+j) % ie.size=j:=by rw[Nat.mul_comm,Nat.mul_add_mod];exact Nat.mod_eq_of_lt hj
  refine⟨x,?_,?_,.v x⟩
  ·unfold madeCells
   rw[Array.getElem?_map,Array.getElem?_range,if_pos hlt]
   simp only[Option.map_some,hsz,hmod]
   rw[Array.getElem?_toList]at hx
   rw[getElem!_def,hx]
  ·have:=List.all_eq_true.1 hone (.v x) (List.mem_map.2 ⟨x,List.mem_of_getElem? hx,rfl⟩)
   exact this
 ·rw[←hH]
  exact rp_whole (heap_alloc_new X.w _) (by simp) h1 h3 (by rw[hcs];exact Nat.le_refl _)
def dopP(P:Program)(o:Oper)(e:Nat→D)(H:Heap)(K:D→Prop):Prop:=match o.op with
 | .move x=>K (dev e x)
 | .assign x=>K (dev e x)
 | .pick c x y=>dpick (dev e c) (dev e x) (dev e y) K
 | .binOp op t x y _=>dbinX P op t x y (dev e x) (dev e y) H fun r=>K (.v r)
 | .unOp op _ x=>dun P op (dev e x) fun r=>K (.v r)
 | .extract x i=>dextract (dev e x) i K
 | .field t x f=>dfield P t (dev e x) f K
 | .index t x j=>dindex P t (dev e x) (dev e j) K
 | .build t parts=>dbuild P t (parts.toList.map fun p=>(p.1,dev e p.2)) K
 | .nilCheck x=>dnil (dev e x) H K
 | .makeFunc f first caps=>dfunc f (first.toList.map (dev e)) (caps.toList.map (dev e)) K
 | .makeInterface t x=>difc P t (dev e x) K
 | .fieldAddr s x f=>dfieldAddr P s (dev e x) f H K
 | .indexAddr t x j=>dindexAddr P t (dev e x) (dev e j) H K
 | .slice t x lo hi none=>dslice P t (dev e x) (bval (lo.map (dev e))) (bval (hi.map (dev e))) (bval none) H K
 | .slice t x none (some h) (some m)=>dclip P t (dev e x) (dev e h) (dev e m) K
 | .call ⟨.builtin .len,⟨[x]⟩,ts⟩=>dlen P ts.toList (dev e x) K
 | .call ⟨.builtin b,args,_⟩=>dminmax P b (args.toList.map (dev e)) K
 | .convert s t x=>dconvert P s t (dev e x) K
 | _=>False
theorem dopP_ok{K:D→Prop}(h:dopP P o e H K):AOR P o K e H:=by
 unfold dopP at h
 split at h
 ·exact(dmove_ok (.inl (by assumption)) h).r
 ·exact(dmove_ok (.inr (by assumption)) h).r
 ·exact(dpick_ok (by assumption) h).r
 ·exact dbinX_ok (by assumption) h
 ·exact(dun_ok (by assumption) h).r
 ·exact(dextract_ok' (by assumption) h).r
 ·exact(dfield_ok (by assumption) h).r
 ·exact(dindex_ok (by assumption) h).r
 ·exact dbuild_ok (by assumption) h
 ·exact(dnil_ok (by assumption) h).r
 ·exact(dfunc_ok (by assumption) h).r
 ·exact(difc_ok (by assumption) h).r
 ·exact(dfieldAddr_ok (by assumption) h).r
 ·exact(dindexAddr_ok (by assumption) h).r
 ·exact(dslice_ok (by assumption) h).r
 ·exact(dclip_ok (by assumption) h).r
 ·exact(dlen_ok (by assumption) h).r
 ·exact(dminmax_ok (by assumption) h).r
 ·exact(dconvert_ok (by assumption) h).r
 ·exact h.elim
def dlenX(P:Program)(ts:List TypeId)(x:D)(H:Heap)(K:D→Option Nat→Prop):Prop:=match x with
 | .map b=>dlenM P ts (.map b) H K
 | .fmap ks ds=>dlenM P ts (.fmap ks ds) H K
 | x=>dlen P ts x fun d=>K d none
theorem dlenX_ok{ts:Array TypeId}{x:Operand}(ho:o.op= .call {callee:= .builtin .len,args:= #[x],argTypes:=ts}){K:D→Option Nat→Prop}(h:dlenX P ts.toList (dev e x) H K):AOL P o K e H:=by
 unfold dlenX at h
 split at h
 ·rename_i b hx
  exact dlenM_ok ho (by rw[hx];exact h)
 ·rename_i ks ds hx
  exact dlenM_ok ho (by rw[hx];exact h)
 ·exact(dlen_ok ho h).l
def dopL(P:Program)(o:Oper)(e:Nat→D)(H:Heap)(K:D→Option Nat→Prop):Prop:=match o.op with
 | .load t x=>dload P t (dev e x) H K
 | .lookup t x y ok=>dlookup P t (dev e x) (dev e y) ok H K
 | .call ⟨.builtin .len,⟨[x]⟩,ts⟩=>dlenX P ts.toList (dev e x) H K
 | .convert s t x=>dbytes P s t (dev e x) H K
 | _=>dopP P o e H fun d=>K d none
theorem dopL_ok{K:D→Option Nat→Prop}(h:dopL P o e H K):AOL P o K e H:=by
 unfold dopL at h
 split at h
 ·exact dload_ok (by assumption) h
 ·exact dlookup_ok (by assumption) h
 ·exact dlenX_ok (by assumption) h
 ·exact dbytes_ok (by assumption) h
 ·exact(dopP_ok h).l
def dopE(P:Program)(hp:List Nat)(o:Oper)(e:Nat→D)(H:Heap)(K:OpK):Prop:=match o.op with
 | .store t x y=>dstore P t (dev e x) (dev e y) H K
 | .box t x=>dbox t (dev e x) H K
 | .alloc t=>dalloc P t H K
 | .buildSlice t len parts=>Cnd (match o.dst with | some d=>hp.any (Nat.beq d) | none=>false) (dlitH P t len parts.toList (cellsOf (parts.toList.map fun p=>dev e p.2)) H K) (dlit P t len parts.toList (cellsOf (parts.toList.map fun p=>dev e p.2)) fun d=>K d H [])
 | .makeSlice t l c=>dmake P t (dev e l) (dev e c) H K
 | .call ⟨.builtin .append,⟨[x,y]⟩,ts⟩=>dapp P ts.toList (dev e x) (dev e y) H K
 | .call ⟨.builtin .clear,⟨[x]⟩,ts⟩=>dclear P ts.toList (dev e x) H K
 | .binOp .eql t x (.const (.slice none 0 0)) _=>(match dev e x with
  | .row cl xs=>dslnil P t (.row cl xs) H K
  | _=>dopL P o e H fun d _=>K d H [])
 | .call ⟨.value f,args,_⟩=>dcall P (dev e f) (args.toList.map (dev e)) H K
 | .makeMap _ none=>K (.map H.length) (H++[.map [] []]) []
 | .range t x=>drange P t (dev e x) H K
 | .next x false=>dnext (dev e x) H K
 | .entry x=>dentry (dev e x) H K
 | .mapUpdate t x y z=>dmapUp P t (dev e x) (dev e y) (dev e z) H K
 | .insert t x y z=>dmapUp P t (dev e x) (dev e y) (dev e z) H K
 | _=>dopL P o e H fun d _=>K d H []
theorem dopE_ok{hp:List Nat}{K:OpK}(h:dopE P hp o e H K):AO1 P o K e H:=by
 unfold dopE at h
 split at h
 ·exact dstore_ok (by assumption) h
 ·exact dbox_ok (by assumption) h
 ·exact dalloc_ok (by assumption) h
 ·generalize (match o.dst with | some d=>hp.any (Nat.beq d) | none=>false)=q at h
  cases q
  ·exact dlit_ok (by assumption) h
  ·exact dlitH_ok (by assumption) h
 ·exact dmake_ok (by assumption) h
 ·exact dapp_ok (by assumption) h
 ·exact dclear_ok (by assumption) h
 ·split at h
  ·rename_i hx
   rw[←hx]at h
   exact dslnil_ok (by assumption) rfl h
  ·exact(dopL_ok h).run1
 ·exact dcall_ok (by assumption) h
 ·exact dmakeMap_ok (by assumption) h
 ·exact drange_ok (by assumption) h
 ·exact dnext_ok (by assumption) h
 ·exact dentry_ok (by assumption) h
 ·exact dmapUp_ok (.inl (by assumption)) h
 ·exact dmapUp_ok (.inr (by assumption)) h
 ·exact(dopL_ok h).run1
def dguard(ops:Array Oper)(o:Oper)(e:Nat→D)(Kt Kf:(Nat→D)→Prop):Prop:=match o.guard with
 | none=>Kt e
 | some (j,want)=>(match(ops[j]?).bind (·.dst)with
  | some d=>(match e d with
   | .v (.bool b)=>If b (Cnd want (Kt (dset e d (.v (.bool true)))) (Kf (dset e d (.v (.bool true))))) (Cnd want (Kf (dset e d (.v (.bool false)))) (Kt (dset e d (.v (.bool false)))))
   | .v _=>Kf e
   | _=>False)
  | none=>Kf e)
theorem dset_same{e:Nat→D}{t:Nat}{d:D}(h:e t=d):dset e t d=e:=by
 funext u
 unfold dset
 by_cases hu:u=t
 ·subst hu;simp[h]
 ·simp[beq_ne hu]
theorem dguard_cases{ops:Array Oper}{Kt Kf:(Nat→D)→Prop}(h:dguard ops o e Kt Kf):wantedD ops o e=some true∧Kt e∨wantedD ops o e=some false∧Kf e:=by
 unfold dguard at h
 unfold wantedD
 cases hg:o.guard with
 | none=>rw[hg]at h;exact .inl ⟨rfl,h⟩
 | some q=>
  obtain⟨j,want⟩:=q
  rw[hg]at h
  simp only at h ⊢
  cases hd:(ops[j]?).bind (·.dst)with
  | none=>rw[hd]at h;exact .inr ⟨rfl,h⟩
  | some d=>
   rw[hd]at h
   simp only at h ⊢
   split at h
   ·rename_i b hb
    rw[hb]
    simp only
    rcases h.elim with⟨rfl,h⟩ | ⟨rfl,h⟩
    ·rw[dset_same hb]at h
     cases want
     ·exact .inr ⟨rfl,h⟩
     ·exact .inl ⟨rfl,h⟩
    ·rw[dset_same hb]at h
     cases want
     ·exact .inl ⟨rfl,h⟩
     ·exact .inr ⟨rfl,h⟩
   ·rename_i x hb hx
    rw[hx]
    refine .inr ⟨?_,h⟩
    cases x<;>first | rfl | exact(hb _ rfl).elim
   ·exact h.elim
def force(d:D)(K:D→Prop):Prop:=match d with
 | .v (.int k n)=>K (.v (.int k n))
 | .v (.bool b)=>K (.v (.bool b))
 | .v (.string s)=>K (.v (.string s))
 | .v x=>K (.v x)
 | .ptr b i o h=>K (.ptr b i o h)
 | .sl b i n h=>K (.sl b i n h)
 | .row cl xs=>K (.row cl xs)
 | .fp ds=>K (.fp ds)
 | .map b=>K (.map b)
 | .it b=>K (.it b)
 | .clo f cs=>K (.clo f cs)
 | .agg ds=>K (.agg ds)
 | .tup ds=>K (.tup ds)
 | .ifc t d=>K (.ifc t d)
 | .any=>K .any
 | .fmap ks ds=>K (.fmap ks ds)
theorem force_of{d:D}{K:D→Prop}(h:force d K):K d:=by
 unfold force at h
 split at h<;>exact h
theorem force_to{d:D}{K:D→Prop}(h:K d):force d K:=by
 unfold force
 split<;>exact h
def dops(P:Program)(n:Nat)(A:Nat→Bool)(hp:List Nat)(ops:Array Oper)(l:List Oper):(Nat→D)→Heap→((Nat→D)→Heap→Prop)→Prop:=
 List.rec (motive:=fun _=>(Nat→D)→Heap→((Nat→D)→Heap→Prop)→Prop) (fun e H K=>K e H)
  (fun o _ ih e H K=>Ck (dstB n o.dst) (dguard ops o e (fun e=>dopE P hp o e H fun d H' ms=>Ck (ms.all A) (force d fun d=>ih (dput e o.dst d) H' K)) fun e=>ih (dput e o.dst (.v undef)) H K)) l
theorem dops_cons{n:Nat}{A:Nat→Bool}{hp:List Nat}{ops:Array Oper}{l:List Oper}{K:(Nat→D)→Heap→Prop}:dops P n A hp ops (o::l) e H K=
 Ck (dstB n o.dst) (dguard ops o e (fun e=>dopE P hp o e H fun d H' ms=>Ck (ms.all A) (force d fun d=>dops P n A hp ops l (dput e o.dst d) H' K)) fun e=>dops P n A hp ops l (dput e o.dst (.v undef)) H K):=rfl
theorem AO1.mono{K K':OpK}(h:AO1 P o K e H)(hk:∀d H ms,K d H ms→K' d H ms):AO1 P o K' e H:=fun X M ec hs hH he=>
 stepE_mono (h X M ec hs hH he) fun _ _ ⟨X',M',d,ms,h1,h2,h3,h4,h5⟩=>⟨X',M',d,ms,h1,h2,h3,h4,hk _ _ _ h5⟩
theorem dops_ok{n:Nat}{A:Nat→Bool}{b0:Nat}{hp:List Nat}{ops:Array Oper}{K:(Nat→D)→Heap→Prop}:∀{l:List Oper} {e:Nat→D} {H:Heap},dops P n A hp ops l e H K→AOs P n A b0 ops (fun s=>K s.e s.H) l ⟨e,H⟩
 |[],e,H,h=>AOs_nil h
 | o::l,e,H,h=>by
  rw[dops_cons]at h
  obtain⟨hd,h⟩:=h.t
  rcases dguard_cases h with⟨hw,h⟩ | ⟨hw,h⟩
  ·refine AOs_step (s:=⟨e,H⟩) hw hd ((dopE_ok h).mono fun d H' ms hk=>?_)
   obtain⟨h1,h2⟩:=hk.t
   exact⟨h1,dops_ok (force_of h2)⟩
  ·exact AOs_skip (s:=⟨e,H⟩) hw hd (dops_ok h)
end
end Go.Ax
namespace Go.Ax
open Go Go.Wx
variable [Globs]
section
variable {P : Program} {X X' : Cx} {M M' : Nat → Prop} {e : Nat → D} {H : Heap} {o : Oper}
def PendOk(P:Program)(X:Cx)(M:Nat→Prop)(q:Nat × Option Nat)(p:Pend):Prop:=p.i=q.1∧(∀b,q.2=some b→b<X.H.length)∧
 ∀B X' M',Ev B X M X' M'→(∀b,q.2=some b→¬B b)→p.ok P X'.w
theorem PendOk.ev{B:Nat→Prop}{q:Nat × Option Nat}{p:Pend}(h:PendOk P X M q p)(E:Ev B X M X' M')(hs:Sim X M)(hq:∀b,q.2=some b→¬B b):PendOk P X' M' q p:=by
 obtain⟨h1,h2,h3⟩:=h
 refine⟨h1,fun b hb=>Nat.lt_of_lt_of_le (h2 b hb) E.len,fun B' X'' M'' E' hq'=>?_⟩
 refine h3 (fun b=>B b∨B' b) X'' M'' ((E.weak fun b _ hb=> .inl hb).trans (E'.weak fun b _ hb=> .inr hb) hs) fun b hb hor=>?_
 exact hor.elim (hq b hb) (hq' b hb)
def ADs(P:Program)(n:Nat)(A:Nat→Bool)(b0:Nat)(ops:Array Oper)(T:List (List Nat))(K:St→Prop)(r:List Stp)(pd:List (Nat × Option Nat))(s:St):Prop:=
 ∀X M ec pend,Sim X M→b0≤X.H.length→X.H=s.H→Renv X s.e ec→(∀p∈pend,∃q∈pd,PendOk P X M q p)→
  WC P n ops T (fun ec w=>∃X' M' s',EvB b0 (fun b=>A b=true) X M X' M'∧Sim X' M'∧X'.w=w∧X'.H=s'.H∧Renv X' s'.e ec∧K s') r pend ec X.w
variable {n : Nat} {A : Nat → Bool} {b0 : Nat} {ops : Array Oper} {T : List (List Nat)} {K : St → Prop} {r : List Stp} {pd : List (Nat × Option Nat)} {s : St} {i : Nat}
theorem ADs_nil(h:K s):ADs P n A b0 ops T K [] pd s:=fun X M _ _ hs hl0 hH he _=>⟨X,M,s,(Ev.refl _ _ _).b hl0,hs,rfl,hH,he,h⟩
theorem ADs_skip(σ:Stp)(hσ:σ= .p i∨σ= .l i∨σ= .e i)(ho:ops[i]? =some o)(hd:dstB n o.dst=true)(hw:wantedD ops o s.e=some false)(h:ADs P n A b0 ops T K r pd ⟨dput s.e o.dst (.v undef),s.H⟩):ADs P n A b0 ops T K (σ::r) pd s:=by
 intro X M ec pend hs hl0 hH he hp
 have hw':=wanted_of he hw
 have h2:=h X M _ pend hs hl0 hH (he.put (.v _) _) hp
 rcases hσ with rfl | rfl | rfl<;>exact⟨o,ho,hd,by rw[if_neg (by rw[hw'];simp)];exact h2⟩
theorem ADs_p(ho:ops[i]? =some o)(hd:dstB n o.dst=true)(hw:wantedD ops o s.e=some true)(h:AOR P o (fun d=>ADs P n A b0 ops T K r pd ⟨dput s.e o.dst d,s.H⟩) s.e s.H):ADs P n A b0 ops T K (.p i::r) pd s:=by
 intro X M ec pend hs hl0 hH he hp
 obtain⟨d,hK,h⟩:=h
 obtain⟨y,hy,hr⟩:=h X ec hH he
 exact⟨o,ho,hd,by rw[if_pos (wanted_of he hw)];exact⟨y,hy,hK X M _ pend hs hl0 hH (he.put hr _) hp⟩⟩
theorem ADs_l(ho:ops[i]? =some o)(hd:dstB n o.dst=true)(hw:wantedD ops o s.e=some true)(h:AOL P o (fun d ob=>ADs P n A b0 ops T K r ((i,ob)::pd) ⟨dput s.e o.dst d,s.H⟩) s.e s.H):ADs P n A b0 ops T K (.l i::r) pd s:=by
 intro X M ec pend hs hl0 hH he hp
 obtain⟨d,ob,hK,hlt,h⟩:=h
 obtain⟨y,hr,hy⟩:=h X M ec hs hH he
 refine⟨o,ho,hd,?_⟩
 rw[if_pos (wanted_of he hw)]
 refine⟨y,hy (fun _=>False) X M (Ev.refl _ _ _) fun _ _=>id,hK X M _ _ hs hl0 hH (he.put hr _) fun p hm=>?_⟩
 rcases List.mem_cons.1 hm with rfl | hm
 ·exact⟨(i,ob),List.mem_cons_self,rfl,fun b hb=>by rw[hH];exact hlt b hb,fun B X' M' E hq=>hy B X' M' E hq⟩
 ·obtain⟨q,hq,hok⟩:=hp p hm
  exact⟨q,List.mem_cons_of_mem _ hq,hok⟩
def pendOk(T:List (List Nat))(i:Nat)(ms:List Nat)(pd:List (Nat × Option Nat)):Bool:=pd.all fun q=>(match q.2 with | none=>true | some b=>ms.all fun m=> !(Nat.beq m b))||later T i q.1
theorem ADs_e (ho : ops[i]? = some o) (hd : dstB n o.dst = true) (hw : wantedD ops o s.e = some true)
    (h : AO1 P o (fun d H ms => ms.all A = true ∧ pendOk T i ms pd = true ∧ ADs P n A b0 ops T K r (pd.filter fun q => !later T i q.1) ⟨dput s.e o.dst d, H⟩) s.e s.H) : ADs P n A b0 ops T K (.e i :: r) pd s := by
  intro X M ec pend hs hl0 hH he hp
  refine ⟨o, ho, hd, ?_⟩
  rw [if_pos (wanted_of he hw)]
  refine stepE_mono (h X M ec hs hH he) ?_
  rintro v w' ⟨X', M', d, ms, h1, h2, rfl, h4, hA, hpd, h5⟩
  have hp' : ∀ p ∈ pend.filter (fun p => !later T i p.i), ∃ q ∈ pd.filter (fun q => !later T i q.1), PendOk P X' M' q p := fun p hm => by
    rw [List.mem_filter] at hm
    obtain ⟨q, hq, hok⟩ := hp p hm.1
    have hne : later T i q.1 = false := by rw [← hok.1]; simpa using hm.2
    refine ⟨q, List.mem_filter.2 ⟨hq, by rw [hne]; rfl⟩, hok.ev h1 hs fun b hb hmem => ?_⟩
    have := List.all_eq_true.1 hpd q hq
    rw [hne, Bool.or_false, hb] at this
    have := List.all_eq_true.1 this b hmem
    simp at this
  refine ⟨fun p hm => ?_, ?_⟩
  · obtain ⟨q, _, _, _, hok⟩ := hp' p hm
    exact hok (fun _ => False) X' M' (Ev.refl _ _ _) fun _ _ => id
  · refine WC_mono ?_ _ _ _ _ (h5 X' M' (pute ec o.dst v) _ h2 (Nat.le_trans hl0 h1.len) rfl ((he.ev h1 hs).put h4 _) hp')
    rintro ec2 w2 ⟨X2, M2, s2, g1, g2, g3, g4, g5, g6⟩
    exact ⟨X2, M2, s2, ((h1.weak fun b _ hb => List.all_eq_true.1 hA b hb).b hl0).trans g1 hs, g2, g3, g4, g5, g6⟩
def drewX(X:Cx):Cx:={X with w:={X.w with drawn:=X.w.drawn+1}}
theorem drew_ev(B:Nat→Prop):Ev B X M (drewX X) M where
 frm:=Ext.frm frm_drew
 mn _ h:= .inl h
 ff _ h:=h
 fn _ h:= .inl h
 len:=Nat.le_refl _
 old b hb _:=⟨rfl,rfl,rfl,fun _=>rfl⟩
 arr b T sz xs' hb hx:=⟨xs',hx,.inr ⟨rfl,rfl,rfl,fun _ cur hc=>⟨cur,hc,rfl⟩⟩⟩
 map b es c hb:=⟨rfl,es,c,hb⟩
 iter b m n l hb:=⟨rfl,l,hb⟩
 nw b hb hg:= .inr ⟨hb,rfl,hg⟩
theorem drew_sim(hs:Sim X M):Sim (drewX X) M:=hs.step (drew_ev fun _=>False) hs.mlt hs.flt hs.dj hs.im hs.inj fun b _ hb=> .inl ⟨lt_of_some hb,id⟩
theorem AW_draw{id:Nat}{σ:List Stp}{K:APost}(hm:P.follows .mixedOrders=true)(hB:drawB ops T σ=true)(h:ADs P n A b0 ops T (K .normal) σ [] s):AW P n A b0 (.region id ops true) K s:=by
 refine⟨fun X M ec hs hl0 hH he=>?_⟩
 refine W_draw hm T σ hB (WC_mono ?_ _ _ _ _ (h (drewX X) M ec [] (drew_sim hs) hl0 hH (he.ev (drew_ev fun _=>False) hs) fun _ hp=>by cases hp))
 rintro ec2 w2 ⟨X2,M2,s2,g1,g2,g3,g4,g5,g6⟩
 exact⟨X2,M2,s2,((drew_ev _).b hl0).trans g1 hs,g2,g3,g4,g5,g6⟩
def addNew(l:List Nat):List Nat→List Nat
 |[]=>l
 | x::r=>addNew (cond (l.any (Nat.beq x)) l (x::l)) r
def tabOf(ops:Array Oper):List (List Nat):=ops.toList.foldl (fun T o=>T++[o.after.toList.foldl (fun l x=>cond (Region.binds .any x&&Nat.blt x.on T.length) (addNew (cond (l.any (Nat.beq x.on)) l (x.on::l)) (T.getD x.on [])) l) []]) []
def ddraw(P:Program)(n:Nat)(A:Nat→Bool)(hp:List Nat)(ops:Array Oper)(r:List Stp):List (Nat × Option Nat)→(Nat→D)→Heap→((Nat→D)→Heap→Prop)→Prop:=
 List.rec (motive:=fun _=>List (Nat × Option Nat)→(Nat→D)→Heap→((Nat→D)→Heap→Prop)→Prop) (fun _ e H K=>K e H)
  (fun σ _ ih pd e H K=>match σ with
   | .p i=>(match ops[i]? with
    | some o=>Ck (dstB n o.dst) (dguard ops o e (fun e=>dopP P o e H fun d=>force d fun d=>ih pd (dput e o.dst d) H K) fun e=>ih pd (dput e o.dst (.v undef)) H K)
    | none=>False)
   | .l i=>(match ops[i]? with
    | some o=>Ck (dstB n o.dst) (dguard ops o e (fun e=>dopL P o e H fun d ob=>force d fun d=>ih ((i,ob)::pd) (dput e o.dst d) H K) fun e=>ih pd (dput e o.dst (.v undef)) H K)
    | none=>False)
   | .e i=>(match ops[i]? with
    | some o=>Ck (dstB n o.dst) (dguard ops o e (fun e=>dopE P hp o e H fun d H' ms=>Ck (ms.all A&&pendOk (tabOf ops) i ms pd) (force d fun d=>ih (pd.filter fun q=> !later (tabOf ops) i q.1) (dput e o.dst d) H' K)) fun e=>ih pd (dput e o.dst (.v undef)) H K)
    | none=>False)) r
theorem ddraw_p {hp : List Nat} {K : (Nat → D) → Heap → Prop} : ddraw P n A hp ops (.p i :: r) pd e H K = (match ops[i]? with
    | some o => Ck (dstB n o.dst) (dguard ops o e (fun e => dopP P o e H fun d => force d fun d => ddraw P n A hp ops r pd (dput e o.dst d) H K) fun e => ddraw P n A hp ops r pd (dput e o.dst (.v undef)) H K)
    | none => False) := rfl
theorem ddraw_l {hp : List Nat} {K : (Nat → D) → Heap → Prop} : ddraw P n A hp ops (.l i :: r) pd e H K = (match ops[i]? with
    | some o => Ck (dstB n o.dst) (dguard ops o e (fun e => dopL P o e H fun d ob => force d fun d => ddraw P n A hp ops r ((i, ob) :: pd) (dput e o.dst d) H K) fun e => ddraw P n A hp ops r pd (dput e o.dst (.v undef)) H K)
    | none => False) := rfl
theorem ddraw_e {hp : List Nat} {K : (Nat → D) → Heap → Prop} : ddraw P n A hp ops (.e i :: r) pd e H K = (match ops[i]? with
    | some o => Ck (dstB n o.dst) (dguard ops o e (fun e => dopE P hp o e H fun d H' ms => Ck (ms.all A && pendOk (tabOf ops) i ms pd) (force d fun d => ddraw P n A hp ops r (pd.filter fun q => !later (tabOf ops) i q.1) (dput e o.dst d) H' K)) fun e => ddraw P n A hp ops r pd (dput e o.dst (.v undef)) H K)
    | none => False) := rfl
theorem AOR.mono{K K':D→Prop}(h:AOR P o K e H)(hk:∀d,K d→K' d):AOR P o K' e H:=by
 obtain⟨d,hK,h⟩:=h
 exact⟨d,hk d hK,h⟩
theorem AOL.mono{K K':D→Option Nat→Prop}(h:AOL P o K e H)(hk:∀d ob,K d ob→K' d ob):AOL P o K' e H:=by
 obtain⟨d,ob,hK,h⟩:=h
 exact⟨d,ob,hk d ob hK,h⟩
theorem ddraw_ok{hp:List Nat}{K:(Nat→D)→Heap→Prop}:∀{r:List Stp} {pd:List (Nat × Option Nat)} {e:Nat→D} {H:Heap},ddraw P n A hp ops r pd e H K→ADs P n A b0 ops (tabOf ops) (fun s=>K s.e s.H) r pd ⟨e,H⟩
 |[],_,e,H,h=>ADs_nil h
 | .p i::r,pd,e,H,h=>by
  rw[ddraw_p]at h
  split at h
  case h_2=>exact h.elim
  rename_i o ho
  obtain⟨hd,h⟩:=h.t
  rcases dguard_cases h with⟨hw,h⟩ | ⟨hw,h⟩
  ·exact ADs_p (s:=⟨e,H⟩) ho hd hw ((dopP_ok h).mono fun d hk=>ddraw_ok (force_of hk))
  ·exact ADs_skip (s:=⟨e,H⟩) _ (.inl rfl) ho hd hw (ddraw_ok h)
 | .l i::r,pd,e,H,h=>by
  rw[ddraw_l]at h
  split at h
  case h_2=>exact h.elim
  rename_i o ho
  obtain⟨hd,h⟩:=h.t
  rcases dguard_cases h with⟨hw,h⟩ | ⟨hw,h⟩
  ·exact ADs_l (s:=⟨e,H⟩) ho hd hw ((dopL_ok h).mono fun d ob hk=>ddraw_ok (force_of hk))
  ·exact ADs_skip (s:=⟨e,H⟩) _ (.inr (.inl rfl)) ho hd hw (ddraw_ok h)
 | .e i::r,pd,e,H,h=>by
  rw[ddraw_e]at h
  split at h
  case h_2=>exact h.elim
  rename_i o ho
  obtain⟨hd,h⟩:=h.t
  rcases dguard_cases h with⟨hw,h⟩ | ⟨hw,h⟩
  ·refine ADs_e (s:=⟨e,H⟩) ho hd hw ((dopE_ok h).mono fun d H' ms hk=>?_)
   obtain⟨h1,h2⟩:=hk.t
   simp only[Bool.and_eq_true]at h1
   exact⟨h1.1,h1.2,ddraw_ok (force_of h2)⟩
  ·exact ADs_skip (s:=⟨e,H⟩) _ (.inr (.inr rfl)) ho hd hw (ddraw_ok h)
end
abbrev Plan:=List (Nat × List Stp)
def planAt:Plan→Nat→Option (List Stp)
 |[],_=>none
 | q::l,id=>cond (Nat.beq q.1 id) (some q.2) (planAt l id)
def plansOk(pl:Plan):Code→Bool
 | .region id ops true=>match planAt pl id with | some σ=>drawB ops (tabOf ops) σ | none=>true
 | .seq a b=>plansOk pl a&&plansOk pl b
 | .cond _ a b=>plansOk pl a&&plansOk pl b
 | .block _ a=>plansOk pl a
 | .loop a=>plansOk pl a
 | _=>true
abbrev DPost:=Exit→(Nat→D)→Heap→Prop
def dcode(P:Program)(n:Nat)(A:Nat→Bool)(b0:Nat)(hp:List Nat)(pl:Plan)(c:Code):DPost→(Nat→D)→Heap→Prop:=
 Code.rec (motive:=fun _=>DPost→(Nat→D)→Heap→Prop)
  (fun K e H=>K .normal e H)
  (fun id ops d K e H=>match d with
   | false=>dops P n A hp ops ops.toList e H (K .normal)
   | true=>(match planAt pl id with
    | some σ=>ddraw P n A hp ops σ [] e H (K .normal)
    | none=>AW P n A b0 (.region id ops true) (fun ex s=>K ex s.e s.H) ⟨e,H⟩))
  (fun _ _ iha ihb K e H=>iha (fun ex e H=>match ex with | .normal=>ihb K e H | ex=>K ex e H) e H)
  (fun c _ _ iha ihb K e H=>match dev e c with | .v (.bool t)=>If t (iha K e H) (ihb K e H) | _=>False)
  (fun id _ iha K e H=>iha (fun ex e H=>match ex with | .exit id'=>Cnd (Nat.beq id' id) (K .normal e H) (K (.exit id') e H) | ex=>K ex e H) e H)
  (fun a _ K e H=>AW P n A b0 (.loop a) (fun ex s=>K ex s.e s.H) ⟨e,H⟩)
  (fun f ps a b _ _ K e H=>AW P n A b0 (.rangeFunc f ps a b) (fun ex s=>K ex s.e s.H) ⟨e,H⟩)
  (fun id K e H=>K (.exit id) e H)
  (fun a _ K e H=>AW P n A b0 (.scope a) (fun ex s=>K ex s.e s.H) ⟨e,H⟩)
  (fun l K e H=>AW P n A b0 (.label l) (fun ex s=>K ex s.e s.H) ⟨e,H⟩)
  (fun l K e H=>AW P n A b0 (.goto l) (fun ex s=>K ex s.e s.H) ⟨e,H⟩)
  (fun K e H=>K .ret e H)
  (fun w K e H=>AW P n A b0 (.refuse w) (fun ex s=>K ex s.e s.H) ⟨e,H⟩) c
theorem dcode_ok{P:Program}{n:Nat}{A:Nat→Bool}{b0:Nat}{hp:List Nat}{pl:Plan}(hm:P.follows .mixedOrders=true):∀{c:Code} {K:DPost} {e:Nat→D} {H:Heap},plansOk pl c=true→dcode P n A b0 hp pl c K e H→AW P n A b0 c (fun ex s=>K ex s.e s.H) ⟨e,H⟩:=by
 intro c
 induction c with
 | skip=>intro K e H _ h;exact AW_skip h
 | ret=>intro K e H _ h;exact AW_ret h
 | exit id=>intro K e H _ h;exact AW_exit h
 | seq a b iha ihb=>
  intro K e H hq h
  simp only[plansOk,Bool.and_eq_true]at hq
  refine AW_seq (AW_mono (iha hq.1 h) fun ex s hk=>?_)
  cases ex<;>first | exact ihb hq.2 hk | exact hk
 | cond c a b iha ihb=>
  intro K e H hq h
  simp only[plansOk,Bool.and_eq_true]at hq
  have h:(match dev e c with | .v (.bool t)=>If t (dcode P n A b0 hp pl a K e H) (dcode P n A b0 hp pl b K e H) | _=>False):=h
  split at h
  case h_2=>exact h.elim
  rename_i t ht
  refine AW_cond ht ?_
  rcases h.elim with⟨rfl,h⟩ | ⟨rfl,h⟩
  ·exact⟨fun _=>iha hq.1 h,fun e=>by cases e⟩
  ·exact⟨fun e=>(by cases e),fun _=>ihb hq.2 h⟩
 | block id a iha=>
  intro K e H hq h
  refine AW_block (AW_mono (iha hq h) fun ex s hk=>?_)
  cases ex<;>exact hk
 | region id ops d=>
  intro K e H hq h
  cases d with
  | false=>exact AW_region (dops_ok h)
  | true=>
   have h:(match planAt pl id with | some σ=>ddraw P n A hp ops σ [] e H (K .normal) | none=>AW P n A b0 (.region id ops true) (fun ex s=>K ex s.e s.H) ⟨e,H⟩):=h
   simp only[plansOk]at hq
   cases hpl:planAt pl id with
   | none=>rw[hpl]at h;exact h
   | some σ=>
    rw[hpl]at h hq
    exact AW_draw hm hq (ddraw_ok h)
 | _=>intro K e H _ h;exact h
end Go.Ax
namespace Go.Ax
open Go Go.Wx
variable [Globs]
def dargs(args:List D):Nat→D:=fun t=>args.getD t (.v undef)
def dresL(P:Program)(e:Nat→D)(H:Heap):List ResultVar→(List D→Prop)→Prop
 |[],K=>K []
 | .tmp t::r,K=>dresL P e H r fun l=>K (e t::l)
 | .cell t ty::r,K=>dload P ty (e t) H fun d _=>dresL P e H r fun l=>K (d::l)
def one1(R:OpK)(H:Heap)(ms:List Nat):List D→Prop
 |[d]=>R d H ms
 | l=>R (.tup l) H ms
def dret(P:Program)(rs:List ResultVar)(R:OpK)(ms:List Nat):DPost:=fun ex e H=>match ex with
 | .normal=>dresL P e H rs (one1 R H ms)
 | .ret=>dresL P e H rs (one1 R H ms)
 | _=>False
section
variable {P : Program} {X X' : Cx} {M M' : Nat → Prop} {e : Nat → D} {H : Heap}
def resF(tmps:Array Value):ResultVar→Sem Value
 | .tmp t=>pure (tmps.getD t undef)
 | .cell p t=>do loadVar t (←asAddr (tmps.getD p undef))
theorem results_eq(fn:Func)(tmps:Array Value):results fn tmps=(do let vs ←fn.results.mapM (resF tmps);pure (if h:vs.size=1 then vs[0]else .tuple vs)):=by
 unfold results
 congr 1
theorem dresL_ok (hs : Sim X M) (hH : X.H = H) {ec : Env} (he : Renv X e ec) : ∀ {rs : List ResultVar} {Q : List D → Prop}, dresL P e H rs Q → ∃ ds, Q ds ∧ ∀ (n : Nat) (a : Act), Rep n a ec → ∃ vs, RpL X ds vs ∧
    (rs.mapM (resF a.tmps)).run P X.w = .ok vs X.w
  | [], Q, h => ⟨[], h, fun n a ha => ⟨[], .nil, rfl⟩⟩
  | .tmp t :: rs, Q, h => by
    obtain ⟨ds, hQ, hr⟩ := dresL_ok hs hH he (rs := rs) h
    refine ⟨_, hQ, fun n a ha => ?_⟩
    obtain ⟨vs, h1, h2⟩ := hr n a ha
    refine ⟨ec t :: vs, .cons (he t) h1, ?_⟩
    rw [List.mapM_cons, run_bind]
    simp only [resF, run_pure, ha.get t]
    rw [run_bind, h2]
    rfl
  | .cell t ty :: rs, Q, h => by
    have h' : dload P ty (dev e (.tmp t)) H fun d _ => dresL P e H rs fun l => Q (d :: l) := h
    obtain ⟨d, ob, hK, _, hl⟩ := dload_ok (o := ⟨none, .load ty (.tmp t), 0, "", #[], none⟩) (e := e) rfl h'
    obtain ⟨y, hy, hrun⟩ := hl X M ec hs hH he
    have hrun := hrun (fun _ => False) X M (Ev.refl _ _ _) fun _ _ => id
    obtain ⟨ds, hQ, hr⟩ := dresL_ok hs hH he (rs := rs) hK
    refine ⟨_, hQ, fun n a ha => ?_⟩
    obtain ⟨vs, h1, h2⟩ := hr n a ha
    refine ⟨y :: vs, .cons hy h1, ?_⟩
    have hl2 : (do loadVar ty (← asAddr (a.tmps.getD t undef)) : Sem Value).run P X.w = .ok y X.w := by
      rw [ha.get t]
      unfold execOp at hrun
      simp only [Instr.loadAt] at hrun
      rw [run_bind, run_bind] at hrun
      have hev : evl ec (.tmp t) = ec t := rfl
      rw [hev] at hrun
      rw [run_bind]
      cases hv : ec t with
      | pointer p =>
        rw [hv] at hrun
        cases p with
        | some a0 =>
          simp only [Instr.sureAddr, run_pure, asAddr] at hrun ⊢
          cases hlv : (loadVar ty a0).run P X.w with
          | ok v w => rw [hlv] at hrun; simp only [run_pure] at hrun; cases hrun; rfl
          | halt x w => rw [hlv] at hrun; cases hrun
        | none => simp [Instr.sureAddr, stuck, Sem.run] at hrun
      | _ => rw [hv] at hrun; simp [Instr.sureAddr, stuck, Sem.run] at hrun
    rw [List.mapM_cons, run_bind, show resF a.tmps (.cell t ty) = (do loadVar ty (← asAddr (a.tmps.getD t undef))) from rfl, hl2]
    simp only
    rw [run_bind, h2]
    rfl
theorem AC_fn {f : FuncId} {fn : Func} {c : Code} {args : List D} {n : Nat} {R : OpK} (hf : P.funcs[f]? = some fn) (hb : fn.body = some c) (hn : fn.ntmps = n) (hle : Nat.ble args.length n = true) (ms : List Nat) (A : Nat → Bool)
    (hA : ∀ b, b < H.length → A b = true → b ∈ ms) (h : AW P n A H.length c (fun ex s => dret P fn.results.toList R ms ex s.e s.H) ⟨dargs args, H⟩) (hcb : callB P f = true := by kernel_rfl) : AC P f args H R := by
  refine ⟨hcb, fun X M vs hs hH ha => ?_⟩
  have hle' : Nat.ble vs.length n = true := by rw [ha.1]; exact hle
  have henv : Renv X (dargs args) (argsE vs) := fun t => by
    show Rp X (args.getD t (.v undef)) (vs.getD t undef)
    rw [List.getD_eq_getElem?_getD, List.getD_eq_getElem?_getD]
    cases hd : args[t]? with
    | none =>
      rw [List.getElem?_eq_none_iff] at hd
      rw [List.getElem?_eq_none (by rw [ha.1]; exact hd)]
      exact .v _
    | some d =>
      obtain ⟨x, hx, hr⟩ := ha.get hd
      rw [hx]; exact hr
  refine calls_W hf hb hn hle' (W_mono (h.run X M _ hs (hH ▸ Nat.le_refl _) hH henv) fun ex ec w hl => ?_)
  obtain ⟨X', M', s, h1, h2, rfl, h4, h5, h6⟩ := hl
  have fin : dresL P s.e s.H fn.results.toList (one1 R s.H ms) → ∀ a, Rep n a ec → ∃ v, (results fn a.tmps).run P X'.w = .ok v X'.w ∧ ∃ X2 M2 d ms, Ev (fun b => b ∈ ms) X M X2 M2 ∧ Sim X2 M2 ∧ X2.w = X'.w ∧ Rp X2 d v ∧ R d X2.H ms := by
    intro hd a hra
    obtain ⟨ds, hQ, hr⟩ := dresL_ok h2 h4 h5 hd
    obtain ⟨vs', hvs, hrun⟩ := hr n a hra
    have hev : Ev (fun b => b ∈ ms) X M X' M' := (hH ▸ h1 : EvB X.H.length (fun b => A b = true) X M X' M').ev.weak fun b hb ha => hA b (hH ▸ hb) ha
    have hres : (results fn a.tmps).run P X'.w = .ok (if h : vs'.toArray.size = 1 then vs'.toArray[0] else .tuple vs'.toArray) X'.w := by
      rw [results_eq, run_bind, Array.mapM_eq_mapM_toList, ← bind_pure_comp, run_bind, hrun]
      rfl
    refine ⟨_, hres, ?_⟩
    match ds, vs', hvs, hQ with
    | [d], [v], hvs, hQ => exact ⟨X', M', d, ms, hev, h2, rfl, hvs.2 0 d v rfl rfl, by rw [h4]; exact hQ⟩
    | [], [], hvs, hQ => exact ⟨X', M', _, ms, hev, h2, rfl, .tup hvs.1 hvs.2, by rw [h4]; exact hQ⟩
    | d :: d' :: l, v :: v' :: l', hvs, hQ => exact ⟨X', M', _, ms, hev, h2, rfl, .tup hvs.1 hvs.2, by rw [h4]; exact hQ⟩
    | [], _ :: _, hvs, _ => exact absurd hvs.1 (by simp)
    | [d], [], hvs, _ => exact absurd hvs.1 (by simp)
    | [d], _ :: _ :: _, hvs, _ => exact absurd hvs.1 (by simp)
    | _ :: _ :: _, [], hvs, _ => exact absurd hvs.1 (by simp)
    | _ :: _ :: _, [_], hvs, _ => exact absurd hvs.1 (by simp)
  cases ex with
  | normal => exact fin h6
  | ret => exact fin h6
  | _ => exact h6.elim
inductive Pd:D→Prop
 | v (x:Value):Pd (.v x)
 | row {cl:Bool} {xs:List (List D)} (h:∀l∈xs,∀d∈l,Pd d):Pd (.row cl xs)
 | agg {ds:List D} (h:∀d∈ds,Pd d):Pd (.agg ds)
 | tup {ds:List D} (h:∀d∈ds,Pd d):Pd (.tup ds)
 | fp {ds:List D} (h:∀d∈ds,Pd d):Pd (.fp ds)
 | fmap {ks:List Value} {ds:List D} (h:∀d∈ds,Pd d):Pd (.fmap ks ds)
 | clo {f:FuncId} {ds:List D} (h:∀d∈ds,Pd d):Pd (.clo f ds)
theorem Rp.pd{d:D}{y:Value}(hr:Rp X d y)(hF:∀k,X.F k→X'.F k)(hw':∀k,X.F k→X'.w.heap[k]? =X.w.heap[k]?)(hp:Pd d):Rp X' d y:=by
 have hw:∀a v,X.F a.block→X.w.cell? a=some v→X'.w.cell? a=some v:=fun a v hf hc=>(World.cell?_of_block (hw' _ hf)).trans hc
 induction hr with
 | v x=>exact .v x
 | row vals hcl hle hs hn hF' hc hr ih=>
  cases hp with
  | row hp=>
   refine .row vals hcl hle hs hn (fun a0 ha hx=>hF _ (hF' a0 ha hx)) (fun a0 i j d ha hd=>⟨hw _ _ ?_ (hc a0 i j d ha hd).1,(hc a0 i j d ha hd).2⟩) fun i j d hd=>?_
   ·rw[add_block]
    exact hF' a0 ha fun e=>by rw[e]at hd;simp[at2]at hd
   ·obtain⟨l,h1,h2⟩:=at2_some.1 hd
    exact ih i j d hd (hp l (List.mem_of_getElem? h1) d (List.mem_of_getElem? h2))
 | agg hl hr ih=>
  cases hp with
  | agg hp=>exact .agg hl fun j d x h1 h2=>ih j d x h1 h2 (hp d (List.mem_of_getElem? h1))
 | tup hl hr ih=>
  cases hp with
  | tup hp=>exact .tup hl fun j d x h1 h2=>ih j d x h1 h2 (hp d (List.mem_of_getElem? h1))
 | fp vals hF' hc hr ih=>
  cases hp with
  | fp hp=>exact .fp vals (hF _ hF') (fun j d hd=>⟨hw _ _ (by rw[add_block];exact hF') (hc j d hd).1,(hc j d hd).2⟩) fun j d hd=>ih j d hd (hp d (List.mem_of_getElem? hd))
 | fmap hF' hm hl hd hr ih=>
  cases hp with
  | fmap hp=>exact .fmap (hF _ hF') ((hw' _ hF').trans hm) hl hd fun i d m h1 h2=>ih i d m h1 h2 (hp d (List.mem_of_getElem? h1))
 | clo hl hr ih=>
  cases hp with
  | clo hp=>exact .clo hl fun j d x h1 h2=>ih j d x h1 h2 (hp d (List.mem_of_getElem? h1))
 | _=>cases hp
inductive FrzK (k0 : Nat) (H : Heap) : D → D → Prop
  | pd {d : D} (h : Pd d) : FrzK k0 H d d
  | nil : FrzK k0 H (.v (.slice none 0 0)) (.row false [])
  | row {cl : Bool} {xs : List (List D)} (h : ∀ l ∈ xs, ∀ d ∈ l, Pd d) : FrzK k0 H (.row cl xs) (.row false xs)
  | sl {b i n h T sz : Nat} {xs ys : List (List D)} (hb : H[b]? = some (.arr T sz xs)) (hl : xs.length = h) (hn : i + n ≤ xs.length) (hy : ys.length = n) (hz : ∀ l ∈ ys, l.length = sz)
      (src : Nat → Nat → D) (h1 : ∀ j k d', at2 ys j k = some d' → at2 xs (i + j) k = some (src j k)) (h2 : ∀ j k d', at2 ys j k = some d' → FrzK k0 H (src j k) d') (hk : k0 ≤ b := by exact Nat.zero_le _) : FrzK k0 H (.sl b i n h) (.row false ys)
  | agg {ds ds' : List D} (hl : ds.length = ds'.length) (h : ∀ (j : Nat) d d', ds[j]? = some d → ds'[j]? = some d' → FrzK k0 H d d') : FrzK k0 H (.agg ds) (.agg ds')
  | tup {ds ds' : List D} (hl : ds.length = ds'.length) (h : ∀ (j : Nat) d d', ds[j]? = some d → ds'[j]? = some d' → FrzK k0 H d d') : FrzK k0 H (.tup ds) (.tup ds')
  | clo {f : FuncId} {ds ds' : List D} (hl : ds.length = ds'.length) (h : ∀ (j : Nat) d d', ds[j]? = some d → ds'[j]? = some d' → FrzK k0 H d d') : FrzK k0 H (.clo f ds) (.clo f ds')
  | map {b : Nat} {ks : List Value} {ds ds' : List D} (hb : H[b]? = some (.map ks ds)) (hl : ds'.length = ds.length) (h : ∀ (j : Nat) d d', ds[j]? = some d → ds'[j]? = some d' → FrzK k0 H d d') (hk : k0 ≤ b := by exact Nat.zero_le _) : FrzK k0 H (.map b) (.fmap ks ds')
  | fp {b T sz : Nat} {ds ds' : List D} (hb : H[b]? = some (.arr T sz [ds])) (hl : ds.length = ds'.length) (h : ∀ (j : Nat) d d', ds[j]? = some d → ds'[j]? = some d' → FrzK k0 H d d') (hk : k0 ≤ b := by exact Nat.zero_le _) : FrzK k0 H (.ptr b 0 0 1) (.fp ds')
abbrev Frz(H:Heap):=FrzK 0 H
theorem FrzK.rp{k0:Nat}(hs:Sim X' M'){X2:Cx}(hw:X2.w=X'.w)(hF:∀k,X'.F k→X2.F k)(hM:∀b,k0≤b→b<X'.H.length→X'.gh b=false→X2.F (X'.ρ b)){d d':D}(hf:FrzK k0 X'.H d d'):∀{y:Value},Rp X' d y→Rp X2 d' y:=by
 induction hf with
 | pd hp=>intro y h;exact h.pd (X':=X2) hF (fun k _=>by rw[hw]) hp
 | nil=>
  intro y h
  rw[h.v_inv]
  exact Rp.row (cl:=false) (xs:=[]) (a:=none) (c:=0) (sz:=0) (fun _ _=>undef) (fun h=>nomatch h) ⟨Nat.le_refl _,Nat.zero_le _⟩ (fun _ h=>nomatch h) (fun _=>rfl) (fun _ _ h=>absurd rfl h) (fun _ i j d _ h=>by simp[at2]at h) fun i j d h=>by simp[at2]at h
 | row hp=>
  intro y h
  have:=h.pd (X':=X2) hF (fun k _=>by rw[hw]) (.row hp)
  cases this with
  | row vals hcl hle hs hn hF' hc hr=>exact .row vals (fun h=>nomatch h) hle hs hn hF' hc hr
 | sl hb hl hn hy hz src h1 h2 hk ih=>
  intro y h
  rename_i b i n hh T sz xs ys
  obtain⟨a,c,rfl⟩:∃a c,y= .slice a n c:=by cases h;exact⟨_,_,rfl⟩
  rw[←hy]
  have hnil:n=0→Rp X2 (.row false ys) (.slice a ys.length c):=fun h0=>by
   obtain rfl:ys=[]:=List.eq_nil_of_length_eq_zero (by omega)
   exact Rp.row (cl:=false) (xs:=[]) (a:=a) (c:=c) (sz:=0) (fun _ _=>undef) (fun h=>nomatch h) ⟨Nat.zero_le _,Nat.zero_le _⟩ (fun _ h=>nomatch h) (fun _=>rfl) (fun _ _ h=>absurd rfl h) (fun _ i j d _ h=>by simp[at2]at h) fun i j d h=>by simp[at2]at h
  rcases hs.sl h hb hl with⟨h0,_⟩ | ⟨hg,rfl,hnc,hcm,cur,hcur,hcs⟩
  ·exact hnil h0
  ·rcases hs.blk b _ hb with⟨hg',_⟩ | ⟨_,cur',hcur',hl',hzz,hv⟩
   ·rw[hg]at hg';cases hg'
   rw[hcur]at hcur'
   cases hcur'
   refine Rp.row (cl:=false) (sz:=sz) (fun j k=>(cur[(i+j)*sz+k]?).getD undef) (fun h=>nomatch h) ⟨by omega,by omega⟩ hz (fun h=>nomatch h) (fun a0 ha _=>?_) (fun a0 j k d ha hd=>?_) fun j k d hd=>?_
   ·cases ha
    exact hM b hk (lt_of_some hb) hg
   ·cases ha
    obtain⟨x,hx,ho,_⟩:=hv _ _ _ (h1 j k d hd)
    rw[hx,hw,add_mk,show i*sz+(j*sz+k)=(i+j)*sz+k by rw[Nat.add_mul];omega]
    exact⟨cell_blk hcur hx,ho⟩
   ·obtain⟨x,hx,_,hr⟩:=hv _ _ _ (h1 j k d hd)
    rw[hx]
    exact ih j k d hd hr
 | agg hl h ih=>
  intro y hr
  cases hr with
  | agg hl' hr'=>
   refine .agg (by omega) fun j d x g1 g2=>?_
   have hj:=(List.getElem?_eq_some_iff.1 g1).1
   have hj2:=(List.getElem?_eq_some_iff.1 g2).1
   exact ih j _ d (List.getElem?_eq_getElem (by omega)) g1 (hr' j _ x (List.getElem?_eq_getElem (by omega)) g2)
 | tup hl h ih=>
  intro y hr
  cases hr with
  | tup hl' hr'=>
   refine .tup (by omega) fun j d x g1 g2=>?_
   have hj:=(List.getElem?_eq_some_iff.1 g1).1
   have hj2:=(List.getElem?_eq_some_iff.1 g2).1
   exact ih j _ d (List.getElem?_eq_getElem (by omega)) g1 (hr' j _ x (List.getElem?_eq_getElem (by omega)) g2)
 | clo hl h ih=>
  intro y hr
  cases hr with
  | clo hl' hr'=>
   refine .clo (by omega) fun j d x g1 g2=>?_
   have hj:=(List.getElem?_eq_some_iff.1 g1).1
   have hj2:=(List.getElem?_eq_some_iff.1 g2).1
   exact ih j _ d (List.getElem?_eq_getElem (by omega)) g1 (hr' j _ x (List.getElem?_eq_getElem (by omega)) g2)
 | map hb hl h hk ih=>
  intro y hr
  rename_i b ks ds ds'
  cases hr with
  | map hb' hh=>
   obtain⟨hg,l,hc,hml,hd,hv⟩:=hs.blk b _ hb
   refine .fmap (hM b hk (lt_of_some hb) hg) (by rw[hw];exact hc) hml (hl.trans hd) fun i d' m h1 h2=>?_
   have h3:ds[i]? =some (ds[i]'(by have:=(List.getElem?_eq_some_iff.1 h1).1;omega)):=List.getElem?_eq_getElem _
   exact ih i _ d' h3 h1 (hv i _ m h3 h2)
 | fp hb hl h hk ih=>
  intro y hr
  rename_i b T sz ds ds'
  cases hr with
  | ptr hb' hh=>
   obtain⟨_,hh⟩:=hh T sz _ hb
   obtain⟨hg,rfl⟩:=hh rfl
   rcases hs.blk b _ hb with⟨_,hx⟩ | ⟨_,cur,hcur,hl',hzz,hv⟩
   ·cases hx
   ·rw[Nat.zero_mul,Nat.zero_add]
    have hat:∀(j:Nat) d',ds'[j]? =some d'→∃d,ds[j]? =some d:=fun j d' hd=>⟨_,List.getElem?_eq_getElem (by have:=(List.getElem?_eq_some_iff.1 hd).1;omega)⟩
    refine .fp (fun k=>(cur[k]?).getD undef) (hM b hk (lt_of_some hb) hg) (fun j d hd=>?_) fun j d hd=>?_
    ·obtain⟨d0,hd0⟩:=hat j d hd
     obtain⟨x,hx,ho,_⟩:=hv 0 j d0 (at2_some.2 ⟨_,rfl,hd0⟩)
     rw[Nat.zero_mul,Nat.zero_add]at hx
     rw[hx,hw,add_mk,Nat.zero_add]
     exact⟨cell_blk hcur hx,ho⟩
    ·obtain⟨d0,hd0⟩:=hat j d hd
     obtain⟨x,hx,_,hr⟩:=hv 0 j d0 (at2_some.2 ⟨_,rfl,hd0⟩)
     rw[Nat.zero_mul,Nat.zero_add]at hx
     rw[hx]
     exact ih j d0 d hd0 hd hr
def Pur(P:Program)(f:FuncId)(args:List D)(res:D):Prop:=∀H,AC P f args H fun d H' ms=>d=res∧H'=H∧ms=[]
theorem Pur.call{f:FuncId}{args:List D}{res:D}{K:OpK}(h:Pur P f args res)(k:K res H []):AC P f args H K:=(h H).mono fun _ _ _ ⟨e1,e2,e3⟩=>by subst e1;subst e2;subst e3;exact k
theorem Pur_of {f : FuncId} {args : List D} {res : D} (hp : ∀ d ∈ args, Pd d) (h : AC P f args [] fun d H' _ => Frz H' d res) : Pur P f args res := by
  refine fun H => ⟨h.cb, fun X M vs hs hH ha => ?_⟩
  have hs0 : Sim ⟨X.w, X.F, fun _ => 0, fun _ => false, []⟩ fun _ => False := ⟨hs.gl, fun _ h => h.elim, hs.flt, fun _ _ h => h, fun b h => (by simp at h), fun b _ h => (by simp at h), fun b o h => by simp at h⟩
  have ha0 : RpL ⟨X.w, X.F, fun _ => 0, fun _ => false, []⟩ args vs := ⟨ha.1, fun j d x h1 h2 => (ha.2 j d x h1 h2).pd (fun _ h => h) (fun _ _ => rfl) (hp d (List.mem_of_getElem? h1))⟩
  refine Cl.mono (h.run ⟨X.w, X.F, fun _ => 0, fun _ => false, []⟩ _ vs hs0 rfl ha0) ?_
  rintro v w' ⟨X', M', d, ms, E, S, rfl, hr, hf⟩
  have hE : Ext X.w X'.w := E.frm
  have hX2F : ∀ k, X'.F k ∨ M' k → X.F k ∨ X.w.heap.size ≤ k := fun k hk => by
    rcases hk with hk | hk
    · exact E.fn k hk
    · exact (E.mn k hk).imp (fun h => h.elim) id
  have E2 : Ev (fun b => b ∈ ([] : List Nat)) X M ⟨X'.w, fun k => X'.F k ∨ M' k, X.ρ, X.gh, X.H⟩ M :=
    { frm := Ext.frm hE, mn := fun _ h => .inl h, ff := fun k h => .inl (E.ff k h), fn := hX2F, len := Nat.le_refl _,
      old := fun b hb _ => ⟨rfl, rfl, rfl, fun hg => hE.blk _ (hs.lt hb hg) id⟩,
      arr := fun b T sz xs' hb hx => ⟨xs', hx, .inr ⟨rfl, rfl, rfl, fun _ cur hc => ⟨cur, (hE.blk _ (At.lt hc) id).trans hc, rfl⟩⟩⟩,
      map := fun b es c hb => ⟨rfl, es, c, hb⟩, iter := fun b m n l hb => ⟨rfl, l, hb⟩, nw := fun b hb hg => .inr ⟨hb, rfl, hg⟩ }
  refine ⟨_, M, res, [], E2, hs.step E2 (fun k hk => Nat.lt_of_lt_of_le (hs.mlt k hk) hE.size) (fun k hk => hk.elim (S.flt k) (S.mlt k)) (fun k hk hm => ?_) hs.im hs.inj (fun b o hb => .inl ⟨lt_of_some hb, by simp⟩), rfl, hf.rp (X2 := ⟨X'.w, fun k => X'.F k ∨ M' k, X.ρ, X.gh, X.H⟩) S rfl (fun _ h => Or.inl h) (fun b _ hb hg => Or.inr (S.im b hb hg)) hr, rfl, hH, rfl⟩
  rcases hX2F k hk with h | h
  · exact hs.dj k h hm
  · have := hs.mlt k hm; omega
end
def di(n:Int):D:= .v (.int .i64 n)
def du(n:Int):D:= .v (.int .u8 n)
def ds'(s:ByteArray):D:= .v (.string s)
def db(b:Bool):D:= .v (.bool b)
def rows{α:Type}(enc:α→List D)(xs:List α):D:= .row false (xs.map enc)
def PdL(ds:List D):Prop:=∀d∈ds,Pd d
theorem PdL.nil:PdL []:=fun _ h=>nomatch h
theorem PdL.cons{d:D}{ds:List D}(h:Pd d)(hs:PdL ds):PdL (d::ds):=fun x hx=>by
 rcases List.mem_cons.1 hx with rfl | hx
 ·exact h
 ·exact hs x hx
theorem pd_rows{α:Type}{enc:α→List D}(he:∀x,PdL (enc x))(xs:List α):Pd (rows enc xs):= .row fun l hl=>by
 obtain⟨x,_,rfl⟩:=List.mem_map.1 hl
 exact he x
theorem frz_rows{H:Heap}{α:Type}{enc:α→List D}{xs:List α}{b n h T sz:Nat}(hb:H[b]? =some (.arr T sz (xs.map enc)))(hn:xs.length=n)(hh:xs.length=h)(he:∀x,PdL (enc x))(hz:∀x,(enc x).length=sz):Frz H (.sl b 0 n h) (rows enc xs):=by
 refine .sl hb (by simpa using hh) (by simp;omega) (by simpa using hn) (fun l hl=>?_) (fun j k=>(at2 (xs.map enc) j k).getD .any) (fun j k d hd=>?_) fun j k d hd=>?_
 ·obtain⟨x,_,rfl⟩:=List.mem_map.1 hl
  exact hz x
 ·rw[Nat.zero_add,hd];rfl
 ·rw[hd]
  obtain⟨l,h1,h2⟩:=at2_some.1 hd
  rw[List.getElem?_map,Option.map_eq_some_iff]at h1
  obtain⟨x,_,rfl⟩:=h1
  exact .pd (he x d (List.mem_of_getElem? h2))
def Agr(e:Nat→D):List (Nat × D)→Prop
 |[]=>True
 | p::l=>e p.1=p.2∧Agr e l
theorem Agr.eq:∀{l:List (Nat × D)} {e:Nat→D},Agr e l→e=dupds e l
 |[],_,_=>rfl
 | p::l,e,h=>by rw[dupds,dset_same h.1];exact Agr.eq h.2
def Has(l:List (Nat × D))(H:Heap)(s:St):Prop:=∃e,s=⟨dupds e l,H⟩
theorem has{s:St}{l:List (Nat × D)}{H:Heap}(ha:Agr s.e l)(hH:s.H=H):Has l H s:=⟨s.e,by cases s;simp only at ha hH;subst hH;rw[←ha.eq]⟩
theorem go{P:Program}{n:Nat}{A:Nat→Bool}{b0:Nat}{c:Code}{K:APost}{e:Nat→D}{H:Heap}(hp:List Nat)(pl:Plan)(h:dcode P n A b0 hp pl c (fun ex e H=>K ex ⟨e,H⟩) e H)(hm:P.follows .mixedOrders=true:=by kernel_rfl)(hpl:plansOk pl c=true:=by kernel_rfl):AW P n A b0 c K ⟨e,H⟩:=dcode_ok hm hpl h
end Go.Ax
namespace Go.Ax
open Go Go.Wx
variable [Globs]
section
variable {P : Program} {n : Nat} {A : Nat → Bool} {b0 : Nat} {K : APost} {s : St} {c : Code}
theorem AW_idx(N:Nat)(I:Nat→St→Prop)(h0:I 0 s)(hr:∀i st,i≤N→I i st→AW P n A b0 c (sqK (fun st=>i<N∧I (i+1) st) K) st):AW P n A b0 (.loop c) K s:=by
 refine AW_loop (fun k st=>∃i,k+i=N+1∧i≤N∧I i st) (N+1) (fun st h=>?_) ⟨0,by omega,by omega,h0⟩ ?_
 ·obtain⟨i,h1,h2,_⟩:=h
  omega
 ·rintro k st ⟨i,h1,h2,h3⟩
  refine AW_mono (hr i st h2 h3) fun ex st' h=>?_
  cases ex with
  | normal=>exact⟨i+1,by omega,h.1,h.2⟩
  | _=>exact h
theorem AC_len{f:FuncId}{args:List D}{H:Heap}{R:OpK}(t:Nat){cl:Bool}{xs:List (List D)}(ht:args[t]? =some (.row cl xs))(hcb:callB P f=true)(h:xs.length≤maxLen→AC P f args H R):AC P f args H R:=by
 refine⟨hcb,fun X M vs hs hH ha=>?_⟩
 obtain⟨x,_,hr⟩:=ha.get ht
 cases hr with
 | row vals hcl hle _ _ _ _ _=>exact(h hle.2).run X M vs hs hH ha
theorem Pur_len{f:FuncId}{args:List D}{r:D}(t:Nat){cl:Bool}{xs:List (List D)}(ht:args[t]? =some (.row cl xs))(h:xs.length≤maxLen→Pur P f args r)(hcb:callB P f=true:=by kernel_rfl):Pur P f args r:=fun H=>AC_len t ht hcb fun hl=>h hl H
end
theorem wadd{a b:Int}(h0: -9223372036854775808≤a+b)(h1:a+b≤9223372036854775807):IntKind.wrap .i64 (a+b)=a+b:=wrap_id h0 h1
theorem inc{i N:Nat}(h:i<N)(hN:N≤maxLen):D.v (.int .i64 (IntKind.wrap .i64 ((i:Int)+1)))=di ((i+1:Nat):Int):=by
 simp only[maxLen]at hN
 rw[wrap_id (by omega) (by omega)]
 rfl
theorem row_at{α:Type}{enc:α→List D}{xs:List α}{i:Nat}(h:i<xs.length){K:List D→Prop}(k:K (enc xs[i])):lst (ixl (xs.map enc) 0 (xs.map enc).length (i:Int)) K:=lst_at (ixl_at (by simp[h])) k
theorem PdL.one{d:D}(h:Pd d):PdL [d]:= .cons h .nil
inductive Bl(k:Nat):D→Prop
 | pd {d:D} (h:Pd d):Bl k d
 | ptr {b i o h:Nat} (hb:b<k):Bl k (.ptr b i o h)
 | sl {b i n h:Nat} (hb:b<k):Bl k (.sl b i n h)
 | map {b:Nat} (hb:b<k):Bl k (.map b)
 | it {b:Nat} (hb:b<k):Bl k (.it b)
 | agg {ds:List D} (h:∀d∈ds,Bl k d):Bl k (.agg ds)
 | tup {ds:List D} (h:∀d∈ds,Bl k d):Bl k (.tup ds)
 | clo {f:FuncId} {ds:List D} (h:∀d∈ds,Bl k d):Bl k (.clo f ds)
def BlO(k:Nat):AO→Prop
 | .arr _ _ xs=>∀l∈xs,∀d∈l,Bl k d
 | .map _ ds=>∀d∈ds,Bl k d
 | .iter m _ _=>Bl k m
section
variable {P : Program} {n : Nat} {A : Nat → Bool} {b0 : Nat} {K : APost} {c : Code} {X : Cx} {M : Nat → Prop} {H1 G : Heap}
def dropX(X:Cx)(H1:Heap):Cx:=⟨X.w,X.F,X.ρ,X.gh,H1⟩
theorem Rp.drop(hH:X.H=H1++G){d:D}{y:Value}(hr:Rp X d y)(hb:Bl H1.length d):Rp (dropX X H1) d y:=by
 have hget:∀{b:Nat},b<H1.length→X.H[b]? =H1[b]? :=fun hb=>by rw[hH];exact List.getElem?_append_left hb
 induction hr with
 | v x=>exact .v x
 | any x=>exact .any x
 | ptr hb' hh=>
  cases hb with
  | pd h=>cases h
  | ptr hb=>exact .ptr hb fun T sz xs hx=>hh T sz xs ((hget hb).trans hx)
 | sl hb' hh=>
  cases hb with
  | pd h=>cases h
  | sl hb=>exact .sl hb fun T sz xs hx=>hh T sz xs ((hget hb).trans hx)
 | row vals hcl hle hs hn hF hc hr ih=>
  cases hb with
  | pd hp=>
   cases hp with
   | row hp=>
    refine .row vals hcl hle hs hn hF hc fun i j d hd=>?_
    obtain⟨l,h1,h2⟩:=at2_some.1 hd
    exact ih i j d hd (.pd (hp l (List.mem_of_getElem? h1) d (List.mem_of_getElem? h2)))
 | fp vals hF hc hr ih=>
  cases hb with
  | pd hp=>
   cases hp with
   | fp hp=>exact .fp vals hF hc fun j d hd=>ih j d hd (.pd (hp d (List.mem_of_getElem? hd)))
 | map hb' hm=>
  cases hb with
  | pd h=>cases h
  | map hb=>
   obtain⟨es,c,hm⟩:=hm
   exact .map (X:=dropX X H1) hb ⟨es,c,(hget hb).symm.trans hm⟩
 | it hb' hm=>
  cases hb with
  | pd h=>cases h
  | it hb=>
   obtain⟨m,n,l,hm⟩:=hm
   exact .it (X:=dropX X H1) hb ⟨m,n,l,(hget hb).symm.trans hm⟩
 | clo hl hr ih=>
  cases hb with
  | pd hp=>
   cases hp with
   | clo hp=>exact .clo hl fun j d x h1 h2=>ih j d x h1 h2 (.pd (hp d (List.mem_of_getElem? h1)))
  | clo hb=>exact .clo hl fun j d x h1 h2=>ih j d x h1 h2 (hb d (List.mem_of_getElem? h1))
 | agg hl hr ih=>
  cases hb with
  | pd hp=>
   cases hp with
   | agg hp=>exact .agg hl fun j d x h1 h2=>ih j d x h1 h2 (.pd (hp d (List.mem_of_getElem? h1)))
  | agg hb=>exact .agg hl fun j d x h1 h2=>ih j d x h1 h2 (hb d (List.mem_of_getElem? h1))
 | tup hl hr ih=>
  cases hb with
  | pd hp=>
   cases hp with
   | tup hp=>exact .tup hl fun j d x h1 h2=>ih j d x h1 h2 (.pd (hp d (List.mem_of_getElem? h1)))
  | tup hb=>exact .tup hl fun j d x h1 h2=>ih j d x h1 h2 (hb d (List.mem_of_getElem? h1))
 | ifc h ih=>
  cases hb with
  | pd h=>cases h
 | fmap hF hw hl hd hr ih=>
  cases hb with
  | pd hp=>
   cases hp with
   | fmap hp=>exact .fmap hF hw hl hd fun i d m h1 h2=>ih i d m h1 h2 (.pd (hp d (List.mem_of_getElem? h1)))
theorem drop_sim(hs:Sim X M)(hH:X.H=H1++G)(hO:∀o∈H1,BlO H1.length o):Sim (dropX X H1) M:=by
 have hget:∀{b:Nat},b<H1.length→X.H[b]? =H1[b]? :=fun hb=>by rw[hH];exact List.getElem?_append_left hb
 have hle:∀{b:Nat},b<H1.length→b<X.H.length:=fun hb=>by rw[hH,List.length_append];omega
 refine⟨hs.gl,hs.mlt,hs.flt,hs.dj,fun b hb hg=>hs.im b (hle hb) hg,fun b b' hb hb'=>hs.inj b b' (hle hb) (hle hb'),fun b o hb=>?_⟩
 have hlt:=lt_of_some hb
 have hBl:=hO o (List.mem_of_getElem? hb)
 have hB:=hs.blk b o ((hget hlt).trans hb)
 cases o with
 | arr T sz xs=>
  rcases hB with h | ⟨hg,cur,hc,hl,hz,hv⟩
  ·exact .inl h
  ·refine .inr ⟨hg,cur,hc,hl,hz,fun i j d hd=>?_⟩
   obtain⟨x,hx,ho,hr⟩:=hv i j d hd
   obtain⟨l,h1,h2⟩:=at2_some.1 hd
   exact⟨x,hx,ho,hr.drop hH (hBl l (List.mem_of_getElem? h1) d (List.mem_of_getElem? h2))⟩
 | map es c=>
  obtain⟨hg,l,hc,hl,hd,hv⟩:=hB
  exact⟨hg,l,hc,hl,hd,fun i d m hm hm'=>(hv i d m hm hm').drop hH (hBl d (List.mem_of_getElem? hm))⟩
 | iter m n l=>
  obtain⟨hg,k,hc,hr⟩:=hB
  exact⟨hg,k,hc,hr.drop hH hBl⟩
theorem dupds_get:∀{l:List (Nat × D)} {e:Nat→D} {t:Nat},(∃p∈l,p.1=t∧dupds e l t=p.2)∨(∀e',dupds e' l t=e' t)
 |[],e,t=> .inr fun _=>rfl
 | p::l,e,t=>by
  rcases dupds_get (l:=l) (e:=dset e p.1 p.2) (t:=t)with⟨q,hq,h1,h2⟩ | h
  ·exact .inl ⟨q,List.mem_cons_of_mem _ hq,h1,h2⟩
  ·by_cases ht:t=p.1
   ·subst ht
    exact .inl ⟨p,List.mem_cons_self,rfl,by rw[dupds,h];simp[dset]⟩
   ·refine .inr fun e'=>?_
    rw[dupds,h]
    simp[dset,beq_ne ht]
theorem dupds_indep:∀(l:List (Nat × D)) {e e':Nat→D} {t:Nat} {p:Nat × D},p∈l→p.1=t→dupds e l t=dupds e' l t
 | q::l,e,e',t,p,hp,ht=>by
  rw[dupds,dupds]
  by_cases h:∃r∈l,r.1=t
  ·obtain⟨r,hr,h1⟩:=h
   exact dupds_indep l hr h1
  ·have hno:∀e,dupds e l t=e t:=by
    intro e
    rcases dupds_get (l:=l) (e:=e) (t:=t)with⟨r,hr,h1,_⟩ | h'
    ·exact absurd ⟨r,hr,h1⟩ h
    ·exact h' e
   rw[hno,hno]
   rcases List.mem_cons.1 hp with rfl | hp
   ·simp[dset,ht]
   ·exact absurd ⟨p,hp,ht⟩ h
theorem AW_drop {e : Nat → D} {l : List (Nat × D)} (hl : ∀ p ∈ l, Bl H1.length p.2) (hO : ∀ o ∈ H1, BlO H1.length o) (hb : b0 ≤ H1.length) (h : ∀ e, AW P n A b0 c K ⟨dupds e l, H1⟩) : AW P n A b0 c K ⟨dupds e l, H1 ++ G⟩ := by
  refine ⟨fun X M ec hs hl0 hH he => ?_⟩
  have hget : ∀ {b : Nat}, b < H1.length → X.H[b]? = H1[b]? := fun hb => by rw [hH]; exact List.getElem?_append_left hb
  have E : EvB b0 (fun b => A b = true) X M (dropX X H1) M :=
    { frm := Frm.refl _ _, mn := fun _ h => .inl h, ff := fun _ h => h, fn := fun _ h => .inl h, len := hb,
      old := fun b hl _ => ⟨(hget (by omega)).symm, rfl, rfl, fun _ => rfl⟩,
      arr := fun b T sz xs' hl hx => ⟨xs', (hget (by omega)).trans hx, .inr ⟨rfl, rfl, rfl, fun _ cur hc => ⟨cur, hc, rfl⟩⟩⟩,
      map := fun b es c hl hm => ⟨rfl, es, c, (hget (by omega)).symm.trans hm⟩, iter := fun b m n l hl hm => ⟨rfl, l, (hget (by omega)).symm.trans hm⟩, nw := fun b hb hg => .inr ⟨by rw [hH, List.length_append]; exact Nat.lt_add_right _ hb, rfl, hg⟩ }
  have hren : Renv (dropX X H1) (dupds (fun _ => .any) l) ec := fun t => by
    rcases dupds_get (l := l) (e := e) (t := t) with ⟨p, hp, h1, h2⟩ | h
    · rcases dupds_get (l := l) (e := fun _ => .any) (t := t) with ⟨q, hq, g1, g2⟩ | g
      · have := he t
        have hsame : dupds e l t = dupds (fun _ => .any) l t := dupds_indep l hp h1
        rw [show ({ e := dupds e l, H := H1 ++ G } : St).e t = dupds e l t from rfl, hsame, g2] at this
        rw [g2]
        exact this.drop hH (hl q hq)
      · rw [g]; exact .any _
    · rw [h]; exact .any _
  refine W_mono ((h _).run (dropX X H1) M ec (drop_sim hs hH hO) hb rfl hren) ?_
  rintro ex e2 w2 ⟨X2, M2, s2, g1, g2, g3, g4, g5, g6⟩
  exact ⟨X2, M2, s2, E.trans g1 hs, g2, g3, g4, g5, g6⟩
def HasG(l:List (Nat × D))(H:Heap)(s:St):Prop:=∃e G,s=⟨dupds e l,H++G⟩
theorem hasG{s:St}{l:List (Nat × D)}{H G:Heap}(ha:Agr s.e l)(hH:s.H=H++G):HasG l H s:=⟨s.e,G,by cases s;simp only at ha hH;subst hH;rw[←ha.eq]⟩
theorem hasG0{s:St}{l:List (Nat × D)}(ha:Agr s.e l):HasG l [] s:=hasG (G:=s.H) ha rfl
end
end Go.Ax
namespace Go.Ax
open Go Go.Wx
variable [Globs]
def rel(j:Nat→Nat):D→D
 | .ptr b i o h=> .ptr (j b) i o h
 | .sl b i n h=> .sl (j b) i n h
 | .map b=> .map (j b)
 | .it b=> .it (j b)
 | .agg ds=> .agg (ds.map (rel j))
 | .tup ds=> .tup (ds.map (rel j))
 | .clo f ds=> .clo f (ds.map (rel j))
 | d=>d
def relO(j:Nat→Nat):AO→AO
 | .arr T sz xs=> .arr T sz (xs.map (·.map (rel j)))
 | .map ks ds=> .map ks (ds.map (rel j))
 | .iter m n l=> .iter (rel j m) n l
theorem rel_pd{j:Nat→Nat}{d:D}(h:Pd d):rel j d=d:=by
 induction h with
 | v x=>simp[rel]
 | row h=>simp[rel]
 | agg h ih=>simp only[rel];congr 1;exact(List.map_congr_left ih).trans (List.map_id _)
 | tup h ih=>simp only[rel];congr 1;exact(List.map_congr_left ih).trans (List.map_id _)
 | fp h=>simp[rel]
 | fmap h=>simp[rel]
 | clo h ih=>simp only[rel];congr 1;exact(List.map_congr_left ih).trans (List.map_id _)
section
variable {P : Program} {X : Cx} {M : Nat → Prop}
def relX(X:Cx)(j:Nat→Nat)(H1:Heap):Cx:=⟨X.w,X.F,fun b=>X.ρ (j b),fun b=>X.gh (j b),H1⟩
theorem Bl.rel{j:Nat→Nat}{H1:Heap}(hj:∀b,b<H1.length→j b<X.H.length)(hH:∀b o,H1[b]? =some o→X.H[j b]? =some (relO j o)){d:D}(hb:Bl H1.length d):∀{y:Value},Rp X (rel j d) y→Rp (relX X j H1) d y:=by
 induction hb with
 | pd h=>intro y hr;rw[rel_pd h]at hr;exact hr.pd (fun _ h=>h) (fun _ _=>rfl) h
 | ptr hb=>
  intro y hr
  simp only[Ax.rel]at hr
  cases hr with
  | ptr hb' hh=>
   refine .ptr hb fun T sz xs hx=>?_
   have:=hh T sz _ (hH _ _ hx)
   simp only[List.length_map]at this
   exact this
 | sl hb=>
  intro y hr
  simp only[Ax.rel]at hr
  cases hr with
  | sl hb' hh=>
   refine .sl hb fun T sz xs hx=>?_
   have:=hh T sz _ (hH _ _ hx)
   simp only[List.length_map]at this
   exact this
 | map hb=>
  intro y hr
  simp only[Ax.rel]at hr
  cases hr with
  | map hb' hm=>
   refine .map (X:=relX X j H1) hb ?_
   rename_i b
   cases ho:H1[b]? with
   | none=>rw[List.getElem?_eq_none_iff]at ho;omega
   | some o=>
    obtain⟨es,c,hm⟩:=hm
    rw[hH _ _ ho]at hm
    cases o<;>simp[relO]at hm
    exact⟨_,_,ho⟩
 | it hb=>
  intro y hr
  simp only[Ax.rel]at hr
  cases hr with
  | it hb' hm=>
   refine .it (X:=relX X j H1) hb ?_
   rename_i b
   cases ho:H1[b]? with
   | none=>rw[List.getElem?_eq_none_iff]at ho;omega
   | some o=>
    obtain⟨m,n,l,hm⟩:=hm
    rw[hH _ _ ho]at hm
    cases o<;>simp[relO]at hm
    exact⟨_,_,_,ho⟩
 | agg h ih=>
  intro y hr
  simp only[Ax.rel]at hr
  cases hr with
  | agg hl hr=>exact .agg (by simpa using hl) fun k d x h1 h2=>ih d (List.mem_of_getElem? h1) (hr k _ x (by rw[List.getElem?_map,h1];rfl) h2)
 | tup h ih=>
  intro y hr
  simp only[Ax.rel]at hr
  cases hr with
  | tup hl hr=>exact .tup (by simpa using hl) fun k d x h1 h2=>ih d (List.mem_of_getElem? h1) (hr k _ x (by rw[List.getElem?_map,h1];rfl) h2)
 | clo h ih=>
  intro y hr
  simp only[Ax.rel]at hr
  cases hr with
  | clo hl hr=>exact .clo (by simpa using hl) fun k d x h1 h2=>ih d (List.mem_of_getElem? h1) (hr k _ x (by rw[List.getElem?_map,h1];rfl) h2)
def relM(X:Cx)(j:Nat→Nat)(H1:Heap):Nat→Prop:=fun k=>∃b,b<H1.length∧X.gh (j b)=false∧k=X.ρ (j b)
theorem rel_sim (hs : Sim X M) {j : Nat → Nat} {H1 : Heap} (hj : ∀ b, b < H1.length → j b < X.H.length) (hi : ∀ b b', b < H1.length → b' < H1.length → j b = j b' → b = b') (hH : ∀ b o, H1[b]? = some o → X.H[j b]? = some (relO j o))
    (hO : ∀ o ∈ H1, BlO H1.length o) : Sim (relX X j H1) (relM X j H1) := by
  refine ⟨hs.gl, ?_, hs.flt, ?_, fun b hb hg => ⟨b, hb, hg, rfl⟩, fun b b' hb hb' hg hg' he => hi b b' hb hb' (hs.inj _ _ (hj b hb) (hj b' hb') hg hg' he), fun b o hb => ?_⟩
  · rintro k ⟨b, hb, hg, rfl⟩
    exact hs.lt (hj b hb) hg
  · rintro k hk ⟨b, hb, hg, rfl⟩
    exact hs.dj _ hk (hs.im _ (hj b hb) hg)
  · have hB := hs.blk (j b) _ (hH b o hb)
    have hBl := hO o (List.mem_of_getElem? hb)
    cases o with
    | arr T sz xs =>
      rcases hB with ⟨hg, hx⟩ | ⟨hg, cur, hc, hl, hz, hv⟩
      · exact .inl ⟨hg, by simpa using hx⟩
      · refine .inr ⟨hg, cur, hc, by simpa using hl, fun ds hd => ?_, fun i k d hd => ?_⟩
        · have := hz (ds.map (rel j)) (List.mem_map.2 ⟨ds, hd, rfl⟩)
          simpa using this
        · obtain ⟨l, h1, h2⟩ := at2_some.1 hd
          obtain ⟨x, hx, ho, hr⟩ := hv i k (rel j d) (at2_some.2 ⟨l.map (rel j), by rw [List.getElem?_map, h1]; rfl, by rw [List.getElem?_map, h2]; rfl⟩)
          exact ⟨x, hx, ho, (hBl l (List.mem_of_getElem? h1) d (List.mem_of_getElem? h2)).rel hj hH hr⟩
    | map es c =>
      obtain ⟨hg, l, hc, hl, hd, hv⟩ := hB
      exact ⟨hg, l, hc, hl, by simpa using hd, fun i d m hm hm' => (hBl d (List.mem_of_getElem? hm)).rel hj hH (hv i _ m (by rw [List.getElem?_map, hm]; rfl) hm')⟩
    | iter m n l =>
      obtain ⟨hg, k, hc, hr⟩ := hB
      exact ⟨hg, k, hc, Bl.rel hj hH hBl hr⟩
end
end Go.Ax
namespace Go.Ax
open Go Go.Wx
variable [Globs]
section
variable {P : Program} {f : FuncId} {args : List D} {H : Heap}
theorem drop_ev {X : Cx} {M : Nat → Prop} {A : Nat → Prop} {H1 G : Heap} {b0 : Nat} (hH : X.H = H1 ++ G) (hb : b0 ≤ H1.length) : EvB b0 A X M (dropX X H1) M := by
  have hget : ∀ {b : Nat}, b < H1.length → X.H[b]? = H1[b]? := fun hb => by rw [hH]; exact List.getElem?_append_left hb
  exact {
      frm := Frm.refl _ _, mn := fun _ h => .inl h, ff := fun _ h => h, fn := fun _ h => .inl h, len := hb,
      old := fun b hl _ => ⟨(hget (by omega)).symm, rfl, rfl, fun _ => rfl⟩,
      arr := fun b T sz xs' hl hx => ⟨xs', (hget (by omega)).trans hx, .inr ⟨rfl, rfl, rfl, fun _ cur hc => ⟨cur, hc, rfl⟩⟩⟩,
      map := fun b es c hl hm => ⟨rfl, es, c, (hget (by omega)).symm.trans hm⟩, iter := fun b m n l hl hm => ⟨rfl, l, (hget (by omega)).symm.trans hm⟩, nw := fun b hb hg => .inr ⟨by rw [hH, List.length_append]; exact Nat.lt_add_right _ hb, rfl, hg⟩ }
theorem AC.drop{R:OpK}(h:AC P f args H fun d H' ms=>∃H1 G,H'=H1++G∧H.length≤H1.length∧Bl H1.length d∧(∀o∈H1,BlO H1.length o)∧R d H1 ms):AC P f args H R:=by
 refine⟨h.cb,fun X M vs hs hH ha=>Cl.mono (h.run X M vs hs hH ha) ?_⟩
 rintro v w' ⟨X',M',d,ms,E,S,rfl,hr,H1,G,hG,hl,hd,hO,hR⟩
 exact⟨dropX X' H1,M',d,ms,((E.b (Nat.le_refl _)).trans (drop_ev hG (by rw[hH];exact hl)) hs).ev,drop_sim S hG hO,rfl,hr.drop hG hd,hR⟩
def Ex(P:Program)(f:FuncId)(args:List D)(H:Heap)(x:D):Prop:=AC P f args H fun d H' ms=>d=x∧H'=H∧ms=[]
theorem Ex.call{x:D}{K:OpK}(h:Ex P f args H x)(k:K x H []):AC P f args H K:=AC.mono h fun _ _ _ ⟨e1,e2,e3⟩=>by subst e1;subst e2;subst e3;exact k
theorem Ex_of{x:D}(hp:Pd x)(hO:∀o∈H,BlO H.length o)(h:AC P f args H fun d H' ms=>d=x∧(∃G,H'=H++G)∧ms=[]):Ex P f args H x:=
 AC.drop (h.mono fun d H' ms ⟨h1,⟨G,h2⟩,h3⟩=>⟨H,G,h2,Nat.le_refl _,by rw[h1];exact .pd hp,hO,h1,rfl,h3⟩)
theorem eqb{b b':Bool}(h:b=b'):D.v (.bool b)=db b':=by subst h;rfl
def BlL(k:Nat)(l:List (Nat × D)):Prop:=∀p∈l,Bl k p.2
theorem BlL.nil{k:Nat}:BlL k []:=fun _ h=>nomatch h
theorem BlL.cons{k t:Nat}{d:D}{l:List (Nat × D)}(h:Bl k d)(hl:BlL k l):BlL k ((t,d)::l):=fun p hp=>by
 rcases List.mem_cons.1 hp with rfl | hp
 ·exact h
 ·exact hl p hp
theorem BlL.v{k t:Nat}{x:Value}{l:List (Nat × D)}(hl:BlL k l):BlL k ((t,.v x)::l):= .cons (.pd (.v x)) hl
theorem AC.via{args':List D}{R:OpK}(k:AC P f args' H R)(h:args=args'):AC P f args H R:=h▸k
theorem all_len{xs:List (List D)}{sz:Nat}(h:∀l∈xs,l.length=sz):(xs.all fun l=>Nat.beq l.length sz)=true:=List.all_eq_true.2 fun l hl=>by rw[h l hl];exact Nat.beq_refl _
theorem enc_all{α:Type}{enc:α→List D}{l:List α}{sz:Nat}(h:∀x,(enc x).length=sz):((l.map enc).all fun l=>Nat.beq l.length sz)=true:=all_len fun y hy=>by
 obtain⟨x,_,rfl⟩:=List.mem_map.1 hy
 exact h x
theorem and_t{a b:Bool}(h:a=true)(k:b=true):(a&&b)=true:=by subst h;exact k
theorem upto{n i:Nat}(h:i≤n):(pos' none&&(pos' (some (i:Int))&&(Nat.ble (lo' none) (hi' n (some (i:Int)))&&Nat.ble (hi' n (some (i:Int))) n)))=true:=by
 simp[pos',lo',hi',nonneg_iff.2 (Int.natCast_nonneg i),h]
theorem Pur.ex{x:D}(h:Pur P f args x):Ex P f args H x:=h H
end
end Go.Ax
namespace Go.Ax
open Go Go.Wx
variable [Globs]
section
variable {P : Program} {n : Nat} {A : Nat → Bool} {b0 : Nat} {K : APost} {s : St} {c : Code} {X : Cx} {M : Nat → Prop}
theorem AW_ghost(t T sz:Nat)(hb:b0≤s.H.length)(h:AW P n A b0 c K ⟨dset s.e t (.sl s.H.length 0 0 0),s.H++[.arr T sz []]⟩)(ht:s.e t= .v (.slice none 0 0):=by rfl):AW P n A b0 c K s:=by
 refine⟨fun X M ec hs hl0 hH he=>?_⟩
 have E:Ev (fun b=>A b=true) X M (ghX X (.arr T sz [])) M:=gh_ev
 have hren:Renv (ghX X (.arr T sz [])) (dset s.e t (.sl s.H.length 0 0 0)) ec:=fun u=>by
  by_cases hu:u=t
  ·subst hu
   have:=he u
   rw[ht]at this
   rw[this.v_inv]
   simp only[dset,Nat.beq_refl,cond_true]
   refine .sl (by simp[ghX,hH]) fun T' sz' xs hx=>?_
   simp[ghX,←hH]at hx
   obtain⟨_,_,rfl⟩:=hx
   exact⟨Nat.le_refl _,fun _=> .inl ⟨rfl,rfl⟩⟩
  ·simp only[dset,beq_ne hu,cond_false]
   exact(he u).ev E hs
 refine W_mono (h.run (ghX X (.arr T sz [])) M ec (gh_sim hs) (by rw[←hH]at hb;simp[ghX];omega) (by simp[ghX,hH]) hren) ?_
 rintro ex e2 w2 ⟨X2,M2,s2,g1,g2,g3,g4,g5,g6⟩
 exact⟨X2,M2,s2,(E.b hl0).trans g1 hs,g2,g3,g4,g5,g6⟩
theorem bnd_ok{n b:Nat}(hn:n≤1000000)(hb:b≤1000):bnd n b=true:=by
 have h1:(n+n / 4+192)*b≤1250192*1000:=Nat.mul_le_mul (by omega) hb
 simp only[bnd,Bool.and_eq_true,maxLen]
 exact⟨Nat.ble_eq_true_of_le (by omega),Nat.ble_eq_true_of_le (by omega)⟩
theorem Frz.tup2{H:Heap}{a b a' b':D}(h:Frz H a a')(k:Frz H b b'):Frz H (.tup [a,b]) (.tup [a',b']):= .tup rfl fun j d d' h1 h2=>by
 match j with
 | 0=>cases h1;cases h2;exact h
 | 1=>cases h1;cases h2;exact k
 | _+2=>cases h1
def FrzL(H:Heap)(l l':List D):Prop:=l.length=l'.length∧∀(k:Nat) d d',l[k]? =some d→l'[k]? =some d'→Frz H d d'
theorem FrzL.nil{H:Heap}:FrzL H [] []:=⟨rfl,fun k d d' h=>nomatch h⟩
theorem FrzL.cons{H:Heap}{d d':D}{l l':List D}(h:Frz H d d')(k:FrzL H l l'):FrzL H (d::l) (d'::l'):=⟨by simp[k.1],fun i a b h1 h2=>by
 cases i with
 | zero=>simp at h1 h2;subst h1;subst h2;exact h
 | succ i=>exact k.2 i a b (by simpa using h1) (by simpa using h2)⟩
theorem FrzL.refl{H:Heap}:∀{l:List D},PdL l→FrzL H l l
 |[],_=> .nil
 | d::l,h=> .cons (.pd (h d List.mem_cons_self)) (FrzL.refl fun x hx=>h x (List.mem_cons_of_mem _ hx))
theorem FrzL.v{H:Heap}{x:Value}{l l':List D}(k:FrzL H l l'):FrzL H (.v x::l) (.v x::l'):= .cons (.pd (.v x)) k
theorem nth_at{α:Type}{enc:α→List D}{xs:List α}{i j:Nat}(h:i<xs.length){K:List D→Prop}(k:K (enc xs[i]))(hj:j=i:=by first | rfl | simp):lst ((xs.map enc)[j]?) K:=lst_at (by subst hj;rw[List.getElem?_map,List.getElem?_eq_getElem h];rfl) k
theorem ixl_any{xs:List (List D)}{n i:Nat}{Q:Prop}(h:i<xs.length)(hn:i<n)(k:Q):lst (ixl xs 0 n (i:Int)) fun _=>Q:=by
 have:ixl xs 0 n (i:Int)=some xs[i]:=ixl_some.2 ⟨by omega,by simpa using hn,by simp[h]⟩
 rw[this];exact k
theorem beq_len{xs:List (List D)}{n:Nat}(h:xs.length=n):Nat.beq xs.length n=true:=by rw[h];exact Nat.beq_refl _
theorem push{n by_:Nat}{xs:List (List D)}{Q:Prop}(hx:xs.length=n)(hb:n≤900000)(k:Q)(hby:Nat.ble by_ 1000=true:=by rfl):Ck (Nat.beq xs.length n) (Ck (Nat.beq n n) (Ck (bnd (n+1) by_) Q)):=
 ck (by rw[hx];exact Nat.beq_refl _) (ck (Nat.beq_refl _) (ck (bnd_ok (by omega) (Nat.le_of_ble_eq_true hby)) k))
theorem BlO.enc{α:Type}{enc:α→List D}{l:List α}{T sz k:Nat}(he:∀x,PdL (enc x)):BlO k (.arr T sz (l.map enc)):=fun y hy d hd=>by
 obtain⟨x,_,rfl⟩:=List.mem_map.1 hy
 exact .pd (he x d hd)
def BlH(k:Nat)(H:Heap):Prop:=∀o∈H,BlO k o
theorem BlH.nil{k:Nat}:BlH k []:=fun _ h=>nomatch h
theorem BlH.cons{k:Nat}{o:AO}{H:Heap}(h:BlO k o)(hl:BlH k H):BlH k (o::H):=fun p hp=>by
 rcases List.mem_cons.1 hp with rfl | hp
 ·exact h
 ·exact hl p hp
end
end Go.Ax
namespace Go.Ax
open Go Go.Wx
variable [Globs]
inductive Tre where
 | done
 | p (i:Nat) (t:Tre)
 | l (i:Nat) (t:Tre)
 | e (i:Nat) (t:Tre)
 | fork (a b:Tre)
def Tre.heads:Tre→List Nat
 | .e i _=>[i]
 | .fork a b=>a.heads++b.heads
 | _=>[]
def Tre.len:Tre→Nat
 | .done=>0
 | .p _ t | .l _ t | .e _ t=>t.len+1
 | .fork a _=>a.len
def canT(ops:Array Oper):Bool→Tre→Array Bool→Bool
 | top,.done,listed=>top&&(Region.ready .any ops listed).isEmpty
 | top,.p i t,listed=>top&&((Region.ready .any ops listed).contains i&&(Region.free .any ops listed i&&canT ops true t (listed.setIfInBounds i true)))
 | top,.l i t,listed=>top&&((Region.ready .any ops listed).contains i&&(Region.free .any ops listed i&&canT ops true t (listed.setIfInBounds i true)))
 | top,.e i t,listed=>(!top||decide (Region.ready .any ops listed=[i]))&&canT ops true t (listed.setIfInBounds i true)
 | top,.fork a b,listed=>(!top||decide (Region.ready .any ops listed=a.heads++b.heads))&&(Nat.beq a.len b.len&&((!Nat.beq a.len 0&& !a.heads.isEmpty)&&(canT ops false a listed&&canT ops false b listed)))
def WT (P : Program) (n : Nat) (ops : Array Oper) (T : List (List Nat)) (K : Env → World → Prop) : Tre → List Pend → Env → World → Prop
  | .done, _, e, w => K e w
  | .p i t, pend, e, w => ∃ o, ops[i]? = some o ∧ dstB n o.dst = true ∧
      if wantedE ops o e then ∃ v, (∀ w, (execOp (evl e) o).run P w = .ok (.value v) w) ∧ WT P n ops T K t pend (pute e o.dst v) w
      else WT P n ops T K t pend (pute e o.dst undef) w
  | .l i t, pend, e, w => ∃ o, ops[i]? = some o ∧ dstB n o.dst = true ∧
      if wantedE ops o e then ∃ v, (execOp (evl e) o).run P w = .ok (.value v) w ∧ WT P n ops T K t (⟨i, execOp (evl e) o, v⟩ :: pend) (pute e o.dst v) w
      else WT P n ops T K t pend (pute e o.dst undef) w
  | .e i t, pend, e, w => ∃ o, ops[i]? = some o ∧ dstB n o.dst = true ∧
      if wantedE ops o e then stepE P (execOp (evl e) o) w fun v w' => (∀ p ∈ pend.filter fun p => !later T i p.i, p.ok P w') ∧ WT P n ops T K t (pend.filter fun p => !later T i p.i) (pute e o.dst v) w'
      else WT P n ops T K t pend (pute e o.dst undef) w
  | .fork a b, pend, e, w => WT P n ops T K a pend e w ∧ WT P n ops T K b pend e w
section
variable {P : Program} {n : Nat} {ops : Array Oper} {T : List (List Nat)} {K : Env → World → Prop}
theorem WT_sound (hT : tableB ops T = true) (hs : Region.noSelect ops = true) : ∀ (t : Tre) (top : Bool) (listed : Array Bool) (pend : List Pend) (e : Env) (w : World) (a : Act),
    Closed ops listed → canT ops top t listed = true → (∀ p ∈ pend, p.ok P w) → Rep n a e → WT P n ops T K t pend e w → (top = true → wpG P ops (Qr n K) T t.len listed pend a w) ∧
      (top = false → ∀ j ∈ t.heads, j ∈ Region.ready .any ops listed → wpOp P ops (Qr n K) j (fun a' w' => (∀ p ∈ pend, later T j p.i = false → p.ok P w') ∧ wpG P ops (Qr n K) T (t.len - 1) (listed.setIfInBounds j true) (pend.filter fun p => !later T j p.i) a' w') a w)
  | .done, top, listed, pend, e, w, a, hc, hB, hp, ha, h => by
    simp only [canT, Bool.and_eq_true] at hB
    exact ⟨fun _ => ⟨by simpa using hB.2, e, ha, h⟩, fun ht => by rw [ht] at hB; cases hB.1⟩
  | .p i t, top, listed, pend, e, w, a, hc, hB, hp, ha, h => by
    simp only [canT, Bool.and_eq_true] at hB
    obtain ⟨rfl, hr, hf, hB'⟩ := hB
    refine ⟨fun _ => ?_, fun h => nomatch h⟩
    obtain ⟨o, ho, hd, h⟩ := h
    have hr' : i ∈ Region.ready .any ops listed := by simpa using hr
    by_cases hw : wantedE ops o e = true
    · simp only [hw, if_true] at h
      obtain ⟨v, hv, h⟩ := h
      have hq : ∀ w, (⟨i, execOp (evl e) o, v⟩ : Pend).ok P w := hv
      refine wpG_first (q := ⟨i, execOp (evl e) o, v⟩) hT rfl ho (Region.noSelect_spec hs) (fun _ _ _ h => h) t.len listed pend a w hc (Region.free_spec ho hf) hr' ?_ (hq w) hp ?_
      · exact .inl ⟨by rw [ha.wanted]; exact hw, fun w hw' => by rw [ha.eval]; exact hw'⟩
      · exact wpG_add hq _ _ _ _ _ ((WT_sound hT hs t true _ pend _ w _ (closed_set hc hr') hB' hp (ha.put hd v) h).1 rfl)
    · simp only [hw, if_false, Bool.false_eq_true] at h
      have hq : ∀ w, (⟨i, .pure (.value undef), undef⟩ : Pend).ok P w := fun w => rfl
      refine wpG_first (q := ⟨i, .pure (.value undef), undef⟩) hT rfl ho (Region.noSelect_spec hs) (fun _ _ _ h => h) t.len listed pend a w hc (Region.free_spec ho hf) hr' ?_ (hq w) hp ?_
      · exact .inr ⟨by rw [ha.wanted]; simpa using hw, rfl⟩
      · exact wpG_add hq _ _ _ _ _ ((WT_sound hT hs t true _ pend _ w _ (closed_set hc hr') hB' hp (ha.put hd undef) h).1 rfl)
  | .l i t, top, listed, pend, e, w, a, hc, hB, hp, ha, h => by
    simp only [canT, Bool.and_eq_true] at hB
    obtain ⟨rfl, hr, hf, hB'⟩ := hB
    refine ⟨fun _ => ?_, fun h => nomatch h⟩
    obtain ⟨o, ho, hd, h⟩ := h
    have hr' : i ∈ Region.ready .any ops listed := by simpa using hr
    by_cases hw : wantedE ops o e = true
    · simp only [hw, if_true] at h
      obtain ⟨v, hv, h⟩ := h
      refine wpG_first (q := ⟨i, execOp (evl e) o, v⟩) hT rfl ho (Region.noSelect_spec hs) (fun _ _ _ h => h) t.len listed pend a w hc (Region.free_spec ho hf) hr' ?_ hv hp ?_
      · exact .inl ⟨by rw [ha.wanted]; exact hw, fun w hw' => by rw [ha.eval]; exact hw'⟩
      · exact (WT_sound hT hs t true _ _ _ w _ (closed_set hc hr') hB' (fun p hp' => by
          rcases List.mem_cons.1 hp' with rfl | hp'
          · exact hv
          · exact hp p hp') (ha.put hd v) h).1 rfl
    · simp only [hw, if_false, Bool.false_eq_true] at h
      have hq : ∀ w, (⟨i, .pure (.value undef), undef⟩ : Pend).ok P w := fun w => rfl
      refine wpG_first (q := ⟨i, .pure (.value undef), undef⟩) hT rfl ho (Region.noSelect_spec hs) (fun _ _ _ h => h) t.len listed pend a w hc (Region.free_spec ho hf) hr' ?_ (hq w) hp ?_
      · exact .inr ⟨by rw [ha.wanted]; simpa using hw, rfl⟩
      · exact wpG_add hq _ _ _ _ _ ((WT_sound hT hs t true _ pend _ w _ (closed_set hc hr') hB' hp (ha.put hd undef) h).1 rfl)
  | .e i t, top, listed, pend, e, w, a, hc, hB, hp, ha, h => by
    simp only [canT, Bool.and_eq_true] at hB
    obtain ⟨hr, hB'⟩ := hB
    obtain ⟨o, ho, hd, h⟩ := h
    have main : i ∈ Region.ready .any ops listed → wpOp P ops (Qr n K) i (fun a' w' => (∀ p ∈ pend, later T i p.i = false → p.ok P w') ∧ wpG P ops (Qr n K) T t.len (listed.setIfInBounds i true) (pend.filter fun p => !later T i p.i) a' w') a w := fun hr' => by
      unfold wpOp
      simp only [ho, ha.wanted]
      by_cases hw : wantedE ops o e = true
      · simp only [hw, if_true] at h ⊢
        refine .inl (oper_wp (K := fun e' w' => ∃ v, e' = pute e o.dst v ∧ (∀ p ∈ pend.filter fun p => !later T i p.i, p.ok P w') ∧ WT P n ops T K t (pend.filter fun p => !later T i p.i) (pute e o.dst v) w') ha hd ?_ (stepE_mono h fun v w' hv => ⟨v, rfl, hv⟩))
        rintro a' e' w' hrep ⟨v, rfl, hob, hC⟩
        exact ⟨fun p hp' hl => hob p (List.mem_filter.2 ⟨hp', by simp [hl]⟩), (WT_sound hT hs t true _ _ _ w' a' (closed_set hc hr') hB' hob hrep hC).1 rfl⟩
      · simp only [hw, if_false, Bool.false_eq_true] at h ⊢
        exact ⟨fun p hp' _ => hp p hp', wpG_sub _ _ _ _ _ _ (fun p hp' => (List.mem_filter.1 hp').1) ((WT_sound hT hs t true _ pend _ w _ (closed_set hc hr') hB' hp (ha.put hd undef) h).1 rfl)⟩
    refine ⟨fun ht => ?_, fun _ j hj hjr => ?_⟩
    · rw [ht] at hr
      have hr : Region.ready .any ops listed = [i] := by simpa using hr
      refine ⟨fun h0 => (by rw [h0] at hr; cases hr), fun j hj => ?_⟩
      have hji : j = i := by rw [hr] at hj; simpa using hj
      subst hji
      exact main hj
    · have hji : j = i := by simpa [Tre.heads] using hj
      subst hji
      exact main hjr
  | .fork x y, top, listed, pend, e, w, a, hc, hB, hp, ha, h => by
    simp only [canT, Bool.and_eq_true] at hB
    obtain ⟨hr, hl, ⟨hn0, hne⟩, hx, hy⟩ := hB
    have hl := Nat.eq_of_beq_eq_true hl
    have both : ∀ j ∈ (Tre.fork x y).heads, j ∈ Region.ready .any ops listed → wpOp P ops (Qr n K) j (fun a' w' => (∀ p ∈ pend, later T j p.i = false → p.ok P w') ∧ wpG P ops (Qr n K) T (x.len - 1) (listed.setIfInBounds j true) (pend.filter fun p => !later T j p.i) a' w') a w := fun j hj hjr => by
      rcases List.mem_append.1 hj with hj | hj
      · exact (WT_sound hT hs x false listed pend e w a hc hx hp ha h.1).2 rfl j hj hjr
      · have := (WT_sound hT hs y false listed pend e w a hc hy hp ha h.2).2 rfl j hj hjr
        rw [← hl] at this
        exact this
    refine ⟨fun ht => ?_, fun _ => both⟩
    rw [ht] at hr
    have hr : Region.ready .any ops listed = (Tre.fork x y).heads := by simpa [Tre.heads] using hr
    simp only [Tre.len]
    cases hxl : x.len with
    | zero => rw [hxl] at hn0; cases hn0
    | succ k =>
      rw [hxl] at both
      refine ⟨fun h0 => ?_, fun j hj => both j (hr ▸ hj) hj⟩
      rw [h0] at hr
      have : x.heads = [] := (List.append_eq_nil_iff.1 hr.symm).1
      rw [this] at hne; cases hne
theorem WT_mono {K' : Env → World → Prop} (hJ : ∀ e w, K e w → K' e w) : ∀ (t : Tre) (pend : List Pend) (e : Env) (w : World), WT P n ops T K t pend e w → WT P n ops T K' t pend e w
  | .done, _, _, _, h => hJ _ _ h
  | .p i r, pend, e, w, ⟨o, ho, hd, h⟩ => ⟨o, ho, hd, by
      split
      · rename_i hw; rw [if_pos hw] at h; obtain ⟨v, hv, h⟩ := h; exact ⟨v, hv, WT_mono hJ r _ _ _ h⟩
      · rename_i hw; rw [if_neg hw] at h; exact WT_mono hJ r _ _ _ h⟩
  | .l i r, pend, e, w, ⟨o, ho, hd, h⟩ => ⟨o, ho, hd, by
      split
      · rename_i hw; rw [if_pos hw] at h; obtain ⟨v, hv, h⟩ := h; exact ⟨v, hv, WT_mono hJ r _ _ _ h⟩
      · rename_i hw; rw [if_neg hw] at h; exact WT_mono hJ r _ _ _ h⟩
  | .e i r, pend, e, w, ⟨o, ho, hd, h⟩ => ⟨o, ho, hd, by
      split
      · rename_i hw; rw [if_pos hw] at h; exact stepE_mono h fun v w' ⟨h1, h2⟩ => ⟨h1, WT_mono hJ r _ _ _ h2⟩
      · rename_i hw; rw [if_neg hw] at h; exact WT_mono hJ r _ _ _ h⟩
  | .fork a b, pend, e, w, ⟨h1, h2⟩ => ⟨WT_mono hJ a _ _ _ h1, WT_mono hJ b _ _ _ h2⟩
def forkB(ops:Array Oper)(t:Tre):Bool:=
 Nat.beq t.len ops.size&&(tableB ops (tabOf ops)&&(Region.noSelect ops&&canT ops true t (Array.replicate ops.size false)))
theorem W_fork {id : Nat} {K' : Post} {e : Env} {w : World} (hm : P.follows .mixedOrders = true) (t : Tre) (hB : forkB ops t = true)
    (h : WT P n ops (tabOf ops) (K' .normal) t [] e { w with drawn := w.drawn + 1 }) : W P n (.region id ops true) K' e w := by
  simp only [forkB, Bool.and_eq_true] at hB
  obtain ⟨hl, hT, hs, hc⟩ := hB
  intro a ha
  refine wp_mono (wp_region_any hm ?_) (Qr_Kx (K := K' .normal) fun _ _ h => h)
  have := (WT_sound (K := K' .normal) hT hs t true (Array.replicate ops.size false) [] e _ a closed_start hc (fun p hp => by cases hp) ha h).1 rfl
  rw [Nat.eq_of_beq_eq_true hl] at this
  exact wpAny_of_G _ _ _ _ _ this
end
section
variable {P : Program} {X X' : Cx} {M M' : Nat → Prop} {e : Nat → D} {H : Heap} {o : Oper}
def ADt(P:Program)(n:Nat)(A:Nat→Bool)(b0:Nat)(ops:Array Oper)(T:List (List Nat))(K:St→Prop)(t:Tre)(pd:List (Nat × Option Nat))(s:St):Prop:=
 ∀X M ec pend,Sim X M→b0≤X.H.length→X.H=s.H→Renv X s.e ec→(∀p∈pend,∃q∈pd,PendOk P X M q p)→
  WT P n ops T (fun ec w=>∃X' M' s',EvB b0 (fun b=>A b=true) X M X' M'∧Sim X' M'∧X'.w=w∧X'.H=s'.H∧Renv X' s'.e ec∧K s') t pend ec X.w
variable {n : Nat} {A : Nat → Bool} {b0 : Nat} {ops : Array Oper} {T : List (List Nat)} {K : St → Prop} {t : Tre} {pd : List (Nat × Option Nat)} {s : St} {i : Nat}
theorem ADt_nil(h:K s):ADt P n A b0 ops T K .done pd s:=fun X M _ _ hs hl0 hH he _=>⟨X,M,s,(Ev.refl _ _ _).b hl0,hs,rfl,hH,he,h⟩
theorem ADt_skip(σ:Tre)(hσ:σ= .p i t∨σ= .l i t∨σ= .e i t)(ho:ops[i]? =some o)(hd:dstB n o.dst=true)(hw:wantedD ops o s.e=some false)(h:ADt P n A b0 ops T K t pd ⟨dput s.e o.dst (.v undef),s.H⟩):ADt P n A b0 ops T K σ pd s:=by
 intro X M ec pend hs hl0 hH he hp
 have hw':=wanted_of he hw
 have h2:=h X M _ pend hs hl0 hH (he.put (.v _) _) hp
 rcases hσ with rfl | rfl | rfl<;>exact⟨o,ho,hd,by rw[if_neg (by rw[hw'];simp)];exact h2⟩
theorem ADt_p(ho:ops[i]? =some o)(hd:dstB n o.dst=true)(hw:wantedD ops o s.e=some true)(h:AOR P o (fun d=>ADt P n A b0 ops T K t pd ⟨dput s.e o.dst d,s.H⟩) s.e s.H):ADt P n A b0 ops T K (.p i t) pd s:=by
 intro X M ec pend hs hl0 hH he hp
 obtain⟨d,hK,h⟩:=h
 obtain⟨y,hy,hr⟩:=h X ec hH he
 exact⟨o,ho,hd,by rw[if_pos (wanted_of he hw)];exact⟨y,hy,hK X M _ pend hs hl0 hH (he.put hr _) hp⟩⟩
theorem ADt_l(ho:ops[i]? =some o)(hd:dstB n o.dst=true)(hw:wantedD ops o s.e=some true)(h:AOL P o (fun d ob=>ADt P n A b0 ops T K t ((i,ob)::pd) ⟨dput s.e o.dst d,s.H⟩) s.e s.H):ADt P n A b0 ops T K (.l i t) pd s:=by
 intro X M ec pend hs hl0 hH he hp
 obtain⟨d,ob,hK,hlt,h⟩:=h
 obtain⟨y,hr,hy⟩:=h X M ec hs hH he
 refine⟨o,ho,hd,?_⟩
 rw[if_pos (wanted_of he hw)]
 refine⟨y,hy (fun _=>False) X M (Ev.refl _ _ _) fun _ _=>id,hK X M _ _ hs hl0 hH (he.put hr _) fun p hm=>?_⟩
 rcases List.mem_cons.1 hm with rfl | hm
 ·exact⟨(i,ob),List.mem_cons_self,rfl,fun b hb=>by rw[hH];exact hlt b hb,fun B X' M' E hq=>hy B X' M' E hq⟩
 ·obtain⟨q,hq,hok⟩:=hp p hm
  exact⟨q,List.mem_cons_of_mem _ hq,hok⟩
theorem ADt_e (ho : ops[i]? = some o) (hd : dstB n o.dst = true) (hw : wantedD ops o s.e = some true)
    (h : AO1 P o (fun d H ms => ms.all A = true ∧ pendOk T i ms pd = true ∧ ADt P n A b0 ops T K t (pd.filter fun q => !later T i q.1) ⟨dput s.e o.dst d, H⟩) s.e s.H) : ADt P n A b0 ops T K (.e i t) pd s := by
  intro X M ec pend hs hl0 hH he hp
  refine ⟨o, ho, hd, ?_⟩
  rw [if_pos (wanted_of he hw)]
  refine stepE_mono (h X M ec hs hH he) ?_
  rintro v w' ⟨X', M', d, ms, h1, h2, rfl, h4, hA, hpd, h5⟩
  have hp' : ∀ p ∈ pend.filter (fun p => !later T i p.i), ∃ q ∈ pd.filter (fun q => !later T i q.1), PendOk P X' M' q p := fun p hm => by
    rw [List.mem_filter] at hm
    obtain ⟨q, hq, hok⟩ := hp p hm.1
    have hne : later T i q.1 = false := by rw [← hok.1]; simpa using hm.2
    refine ⟨q, List.mem_filter.2 ⟨hq, by rw [hne]; rfl⟩, hok.ev h1 hs fun b hb hmem => ?_⟩
    have := List.all_eq_true.1 hpd q hq
    rw [hne, Bool.or_false, hb] at this
    have := List.all_eq_true.1 this b hmem
    simp at this
  refine ⟨fun p hm => ?_, ?_⟩
  · obtain ⟨q, _, _, _, hok⟩ := hp' p hm
    exact hok (fun _ => False) X' M' (Ev.refl _ _ _) fun _ _ => id
  · refine WT_mono ?_ _ _ _ _ (h5 X' M' (pute ec o.dst v) _ h2 (Nat.le_trans hl0 h1.len) rfl ((he.ev h1 hs).put h4 _) hp')
    rintro ec2 w2 ⟨X2, M2, s2, g1, g2, g3, g4, g5, g6⟩
    exact ⟨X2, M2, s2, ((h1.weak fun b _ hb => List.all_eq_true.1 hA b hb).b hl0).trans g1 hs, g2, g3, g4, g5, g6⟩
theorem ADt_fork{a b:Tre}(h1:ADt P n A b0 ops T K a pd s)(h2:ADt P n A b0 ops T K b pd s):ADt P n A b0 ops T K (.fork a b) pd s:=fun X M ec pend hs hl0 hH he hp=>⟨h1 X M ec pend hs hl0 hH he hp,h2 X M ec pend hs hl0 hH he hp⟩
theorem AW_tre{id:Nat}{t:Tre}{K:APost}(hm:P.follows .mixedOrders=true)(hB:forkB ops t=true)(h:ADt P n A b0 ops (tabOf ops) (K .normal) t [] s):AW P n A b0 (.region id ops true) K s:=by
 refine⟨fun X M ec hs hl0 hH he=>?_⟩
 refine W_fork hm t hB (WT_mono ?_ _ _ _ _ (h (drewX X) M ec [] (drew_sim hs) hl0 hH (he.ev (drew_ev fun _=>False) hs) fun _ hp=>by cases hp))
 rintro ec2 w2 ⟨X2,M2,s2,g1,g2,g3,g4,g5,g6⟩
 exact⟨X2,M2,s2,((drew_ev _).b hl0).trans g1 hs,g2,g3,g4,g5,g6⟩
def dtree (P : Program) (n : Nat) (A : Nat → Bool) (hp : List Nat) (ops : Array Oper) (t : Tre) : List (Nat × Option Nat) → (Nat → D) → Heap → ((Nat → D) → Heap → Prop) → Prop :=
  Tre.rec (motive := fun _ => List (Nat × Option Nat) → (Nat → D) → Heap → ((Nat → D) → Heap → Prop) → Prop) (fun _ e H K => K e H)
    (fun i _ ih pd e H K => match ops[i]? with
        | some o => Ck (dstB n o.dst) (dguard ops o e (fun e => dopP P o e H fun d => force d fun d => ih pd (dput e o.dst d) H K) fun e => ih pd (dput e o.dst (.v undef)) H K)
        | none => False)
    (fun i _ ih pd e H K => match ops[i]? with
        | some o => Ck (dstB n o.dst) (dguard ops o e (fun e => dopL P o e H fun d ob => force d fun d => ih ((i, ob) :: pd) (dput e o.dst d) H K) fun e => ih pd (dput e o.dst (.v undef)) H K)
        | none => False)
    (fun i _ ih pd e H K => match ops[i]? with
        | some o => Ck (dstB n o.dst) (dguard ops o e (fun e => dopE P hp o e H fun d H' ms => Ck (ms.all A && pendOk (tabOf ops) i ms pd) (force d fun d => ih (pd.filter fun q => !later (tabOf ops) i q.1) (dput e o.dst d) H' K)) fun e => ih pd (dput e o.dst (.v undef)) H K)
        | none => False)
    (fun _ _ iha ihb pd e H K => iha pd e H K ∧ ihb pd e H K) t
theorem dtree_ok {hp : List Nat} {K : (Nat → D) → Heap → Prop} : ∀ {t : Tre} {pd : List (Nat × Option Nat)} {e : Nat → D} {H : Heap}, dtree P n A hp ops t pd e H K → ADt P n A b0 ops (tabOf ops) (fun s => K s.e s.H) t pd ⟨e, H⟩
  | .done, _, e, H, h => ADt_nil h
  | .p i r, pd, e, H, h => by
    have h : (match ops[i]? with
        | some o => Ck (dstB n o.dst) (dguard ops o e (fun e => dopP P o e H fun d => force d fun d => dtree P n A hp ops r pd (dput e o.dst d) H K) fun e => dtree P n A hp ops r pd (dput e o.dst (.v undef)) H K)
        | none => False) := h
    split at h
    case h_2 => exact h.elim
    rename_i o ho
    obtain ⟨hd, h⟩ := h.t
    rcases dguard_cases h with ⟨hw, h⟩ | ⟨hw, h⟩
    · exact ADt_p (s := ⟨e, H⟩) ho hd hw ((dopP_ok h).mono fun d hk => dtree_ok (force_of hk))
    · exact ADt_skip (s := ⟨e, H⟩) _ (.inl rfl) ho hd hw (dtree_ok h)
  | .l i r, pd, e, H, h => by
    have h : (match ops[i]? with
        | some o => Ck (dstB n o.dst) (dguard ops o e (fun e => dopL P o e H fun d ob => force d fun d => dtree P n A hp ops r ((i, ob) :: pd) (dput e o.dst d) H K) fun e => dtree P n A hp ops r pd (dput e o.dst (.v undef)) H K)
        | none => False) := h
    split at h
    case h_2 => exact h.elim
    rename_i o ho
    obtain ⟨hd, h⟩ := h.t
    rcases dguard_cases h with ⟨hw, h⟩ | ⟨hw, h⟩
    · exact ADt_l (s := ⟨e, H⟩) ho hd hw ((dopL_ok h).mono fun d ob hk => dtree_ok (force_of hk))
    · exact ADt_skip (s := ⟨e, H⟩) _ (.inr (.inl rfl)) ho hd hw (dtree_ok h)
  | .e i r, pd, e, H, h => by
    have h : (match ops[i]? with
        | some o => Ck (dstB n o.dst) (dguard ops o e (fun e => dopE P hp o e H fun d H' ms => Ck (ms.all A && pendOk (tabOf ops) i ms pd) (force d fun d => dtree P n A hp ops r (pd.filter fun q => !later (tabOf ops) i q.1) (dput e o.dst d) H' K)) fun e => dtree P n A hp ops r pd (dput e o.dst (.v undef)) H K)
        | none => False) := h
    split at h
    case h_2 => exact h.elim
    rename_i o ho
    obtain ⟨hd, h⟩ := h.t
    rcases dguard_cases h with ⟨hw, h⟩ | ⟨hw, h⟩
    · refine ADt_e (s := ⟨e, H⟩) ho hd hw ((dopE_ok h).mono fun d H' ms hk => ?_)
      obtain ⟨h1, h2⟩ := hk.t
      simp only [Bool.and_eq_true] at h1
      exact ⟨h1.1, h1.2, dtree_ok (force_of h2)⟩
    · exact ADt_skip (s := ⟨e, H⟩) _ (.inr (.inr rfl)) ho hd hw (dtree_ok h)
  | .fork a b, pd, e, H, h => ADt_fork (dtree_ok (t := a) h.1) (dtree_ok (t := b) h.2)
theorem AW_fork{id:Nat}{K:APost}(hp:List Nat)(t:Tre)(h:dtree P n A hp ops t [] s.e s.H fun e H=>K .normal ⟨e,H⟩)(hm:P.follows .mixedOrders=true:=by kernel_rfl)(hB:forkB ops t=true:=by kernel_rfl):AW P n A b0 (.region id ops true) K s:=
 AW_tre hm hB (dtree_ok (b0:=b0) (K:=fun e H=>K .normal ⟨e,H⟩) h)
end
end Go.Ax
namespace Go.Ax
open Go Go.Wx
variable [Globs]
def FrzO(k:Nat)(H:Heap):AO→AO→Prop
 | .arr T sz xs,.arr T' sz' xs'=>T'=T∧sz'=sz∧xs'.length=xs.length∧(∀l∈xs',l.length=sz)∧∀i j d',at2 xs' i j=some d'→∃d,at2 xs i j=some d∧(FrzK k H d d'∨d'=d∧Bl k d)
 | o,o'=>o'=o∧BlO k o
theorem frzO_oth{k:Nat}{H:Heap}{o o':AO}(hn:∀T sz xs,o≠ .arr T sz xs)(h:FrzO k H o o'):o'=o∧BlO k o:=by
 cases o with
 | arr T sz xs=>exact absurd rfl (hn T sz xs)
 | map _ _=>cases o'<;>exact h
 | iter _ _ _=>cases o'<;>exact h
section
variable {P : Program} {X X' X2 : Cx} {M M' : Nat → Prop}
theorem Rp.keep{k:Nat}(hw:X2.w=X'.w)(hF:∀k,X'.F k→X2.F k)(hρ:X2.ρ=X'.ρ)(hg:X2.gh=X'.gh)(hl:X2.H.length=k)(hH:∀(b:Nat) o',X2.H[b]? =some o'→∃o,X'.H[b]? =some o∧FrzO k X'.H o o'){d:D}{y:Value}(hr:Rp X' d y)(hb:Bl k d):Rp X2 d y:=by
 have harr:∀(b:Nat) T sz xs,X2.H[b]? =some (.arr T sz xs)→∃xs0,X'.H[b]? =some (.arr T sz xs0)∧xs.length=xs0.length:=fun b T sz xs h=>by
  obtain⟨o,ho,hf⟩:=hH b _ h
  cases o with
  | arr T0 sz0 xs0=>
   obtain⟨rfl,rfl,hlen,_⟩:=hf
   exact⟨xs0,ho,hlen⟩
  | map _ _=>cases hf.1
  | iter _ _ _=>cases hf.1
 have hoth:∀(b:Nat) o,b<k→X'.H[b]? =some o→(∀T sz xs,o≠ .arr T sz xs)→X2.H[b]? =some o:=fun b o hb ho hn=>by
  obtain⟨o0,ho0,hf⟩:=hH b _ (List.getElem?_eq_getElem (by omega))
  rw[ho]at ho0
  cases ho0
  rw[List.getElem?_eq_getElem (by omega),(frzO_oth hn hf).1]
 induction hr with
 | v x=>exact .v x
 | any x=>exact .any x
 | ptr hb' hh=>
  cases hb with
  | pd h=>cases h
  | ptr hb=>
   refine .ptr (by omega) fun T sz xs hx=>?_
   obtain⟨xs0,h1,h2⟩:=harr _ _ _ _ hx
   have:=hh T sz xs0 h1
   rw[hρ,hg,h2]
   exact this
 | sl hb' hh=>
  cases hb with
  | pd h=>cases h
  | sl hb=>
   refine .sl (by omega) fun T sz xs hx=>?_
   obtain⟨xs0,h1,h2⟩:=harr _ _ _ _ hx
   have:=hh T sz xs0 h1
   rw[hρ,hg,h2,hw]
   exact this
 | row vals hcl hle hs hn hF' hc hr ih=>
  cases hb with
  | pd hp=>exact(Rp.row vals hcl hle hs hn hF' hc hr).pd hF (fun _ _=>by rw[hw]) hp
 | fp vals hF' hc hr ih=>
  cases hb with
  | pd hp=>exact(Rp.fp vals hF' hc hr).pd hF (fun _ _=>by rw[hw]) hp
 | map hb' hm=>
  cases hb with
  | pd h=>cases h
  | map hb=>
   obtain⟨es,c,hm⟩:=hm
   rw[←hρ]
   exact .map (by omega) ⟨es,c,hoth _ _ hb hm (fun _ _ _ h=>by cases h)⟩
 | it hb' hm=>
  cases hb with
  | pd h=>cases h
  | it hb=>
   obtain⟨m,n,l,hm⟩:=hm
   rw[←hρ]
   exact .it (by omega) ⟨m,n,l,hoth _ _ hb hm (fun _ _ _ h=>by cases h)⟩
 | clo hl hr ih=>
  cases hb with
  | pd hp=>exact(Rp.clo hl hr).pd hF (fun _ _=>by rw[hw]) hp
  | clo hb=>exact .clo hl fun j d x h1 h2=>ih j d x h1 h2 (hb d (List.mem_of_getElem? h1))
 | agg hl hr ih=>
  cases hb with
  | pd hp=>exact(Rp.agg hl hr).pd hF (fun _ _=>by rw[hw]) hp
  | agg hb=>exact .agg hl fun j d x h1 h2=>ih j d x h1 h2 (hb d (List.mem_of_getElem? h1))
 | tup hl hr ih=>
  cases hb with
  | pd hp=>exact(Rp.tup hl hr).pd hF (fun _ _=>by rw[hw]) hp
  | tup hb=>exact .tup hl fun j d x h1 h2=>ih j d x h1 h2 (hb d (List.mem_of_getElem? h1))
 | ifc h ih=>
  cases hb with
  | pd h=>cases h
 | fmap hF' hm hl hd hr ih=>
  cases hb with
  | pd hp=>exact(Rp.fmap hF' hm hl hd hr).pd hF (fun _ _=>by rw[hw]) hp
def frzX2(X':Cx)(k:Nat)(H2:Heap):Cx:=⟨X'.w,fun j=>X'.F j∨∃b,k≤b∧b<X'.H.length∧X'.gh b=false∧j=X'.ρ b,X'.ρ,X'.gh,H2⟩
def frzM2(X':Cx)(M':Nat→Prop)(k:Nat):Nat→Prop:=fun j=>M' j∧¬∃b,k≤b∧b<X'.H.length∧X'.gh b=false∧j=X'.ρ b
theorem AC.frz {f : FuncId} {args : List D} {H : Heap} {R : OpK} (h : AC P f args H fun d H' ms => ∃ H2 d2, H2.length = H.length ∧ (∀ (b : Nat) o', H2[b]? = some o' → ∃ o, H'[b]? = some o ∧ FrzO H.length H' o o') ∧ (∀ b, b < H.length → b ∉ ms → H2[b]? = H'[b]?) ∧
    (FrzK H.length H' d d2 ∨ d2 = d ∧ Bl H.length d) ∧ R d2 H2 ms) : AC P f args H R := by
  refine ⟨h.cb, fun X M vs hs hH ha => Cl.mono (h.run X M vs hs hH ha) ?_⟩
  rintro v w' ⟨X', M', d, ms, E, S, rfl, hr, H2, d2, hl, hf, hsame, hd, hR⟩
  subst hH
  have hnew : ∀ b, X.H.length ≤ b → b < X'.H.length → X'.gh b = false → X.w.heap.size ≤ X'.ρ b := fun b h1 h2 h3 => by
    rcases E.nw b h2 h3 with h | ⟨h, _⟩
    · exact h
    · omega
  have hw : (frzX2 X' X.H.length H2).w = X'.w := rfl
  have hF : ∀ k, X'.F k → (frzX2 X' X.H.length H2).F k := fun k h => .inl h
  have hM : ∀ b, X.H.length ≤ b → b < X'.H.length → X'.gh b = false → (frzX2 X' X.H.length H2).F (X'.ρ b) := fun b h1 h2 h3 => .inr ⟨b, h1, h2, h3, rfl⟩
  have keep : ∀ {d y}, Rp X' d y → Bl X.H.length d → Rp (frzX2 X' X.H.length H2) d y := fun hr hb => Rp.keep (X' := X') (X2 := frzX2 X' X.H.length H2) rfl hF rfl rfl hl hf hr hb
  have E2 : Ev (fun b => b ∈ ms) X M (frzX2 X' X.H.length H2) (frzM2 X' M' X.H.length) := {
    frm := E.frm
    mn := fun k hk => E.mn k hk.1
    ff := fun k hk => .inl (E.ff k hk)
    fn := fun k hk => hk.elim (E.fn k) fun ⟨b, h1, h2, h3, e⟩ => .inr (by rw [e]; exact hnew b h1 h2 h3)
    len := Nat.le_of_eq hl.symm
    old := fun b hb hn => by
      obtain ⟨g1, g2, g3, g4⟩ := E.old b hb hn
      exact ⟨(hsame b hb hn).trans g1, g2, g3, g4⟩
    arr := fun b T sz xs' hb hx => by
      obtain ⟨o, ho, hfo⟩ := hf b _ hx
      cases o with
      | arr T0 sz0 xs0 =>
        obtain ⟨rfl, rfl, hlen, _⟩ := hfo
        obtain ⟨xs, g1, g2⟩ := E.arr b T sz xs0 hb ho
        refine ⟨xs, g1, ?_⟩
        rw [hlen]
        exact g2
      | map _ _ => cases hfo.1
      | iter _ _ _ => cases hfo.1
    map := fun b es c hb => by
      obtain ⟨g1, es', c', g2⟩ := E.map b es c hb
      have hlt := lt_of_some hb
      obtain ⟨o, ho, hfo⟩ := hf b _ (List.getElem?_eq_getElem (by omega))
      rw [g2] at ho; cases ho
      exact ⟨g1, es', c', by show H2[b]? = _; rw [List.getElem?_eq_getElem (by omega), (frzO_oth (fun _ _ _ h => by cases h) hfo).1]⟩
    iter := fun b m n l hb => by
      obtain ⟨g1, l', g2⟩ := E.iter b m n l hb
      have hlt := lt_of_some hb
      obtain ⟨o, ho, hfo⟩ := hf b _ (List.getElem?_eq_getElem (by omega))
      rw [g2] at ho; cases ho
      exact ⟨g1, l', by show H2[b]? = _; rw [List.getElem?_eq_getElem (by omega), (frzO_oth (fun _ _ _ h => by cases h) hfo).1]⟩
    nw := fun b hb hg => E.nw b (Nat.lt_of_lt_of_le (by rw [← hl]; exact hb) E.len) hg }
  have hlen' : ∀ {b : Nat}, b < H2.length → b < X'.H.length := fun hb => Nat.lt_of_lt_of_le (by rw [← hl]; exact hb) E.len
  refine ⟨frzX2 X' X.H.length H2, frzM2 X' M' X.H.length, d2, ms, E2, ?_, rfl, ?_, hR⟩
  · refine ⟨⟨S.gl.1, fun k hk => .inl (S.gl.2 k hk)⟩, fun k hk => S.mlt k hk.1, fun k hk => hk.elim (S.flt k) fun ⟨b, _, h2, h3, e⟩ => by rw [e]; exact S.mlt _ (S.im b h2 h3), fun k hk hm => ?_, fun b hb hg => ⟨S.im b (hlen' hb) hg, fun ⟨b', h1, h2, h3, e⟩ => ?_⟩, fun b b' hb hb' => S.inj b b' (hlen' hb) (hlen' hb'), fun b o' ho' => ?_⟩
    · rcases hk with hk | hk
      · exact S.dj k hk hm.1
      · exact hm.2 hk
    · have := S.inj b b' (hlen' hb) h2 hg h3 e
      have hb : b < H2.length := hb
      omega
    · obtain ⟨o, ho, hfo⟩ := hf b o' ho'
      have hB := S.blk b o ho
      cases o with
      | arr T sz xs =>
        cases o' with
        | arr T' sz' xs' =>
          obtain ⟨rfl, rfl, hlen, hz, hat⟩ := hfo
          rcases hB with ⟨hg, hx⟩ | ⟨hg, cur, hc, hl', _, hv⟩
          · exact .inl ⟨hg, List.eq_nil_of_length_eq_zero (by rw [hlen, hx]; rfl)⟩
          · refine .inr ⟨hg, cur, hc, by rw [hlen]; exact hl', hz, fun i j d' hd' => ?_⟩
            obtain ⟨d0, h1, h2⟩ := hat i j d' hd'
            obtain ⟨x, hx, ho1, hr1⟩ := hv i j d0 h1
            refine ⟨x, hx, ho1, ?_⟩
            rcases h2 with h2 | ⟨rfl, h2⟩
            · exact h2.rp (X2 := frzX2 X' X.H.length H2) S rfl hF hM hr1
            · exact keep hr1 h2
        | map _ _ => cases hfo.1
        | iter _ _ _ => cases hfo.1
      | map es c =>
        obtain ⟨rfl, hBl⟩ := frzO_oth (fun _ _ _ h => by cases h) hfo
        obtain ⟨hg, l, hc, hl', hd', hv⟩ := hB
        exact ⟨hg, l, hc, hl', hd', fun i d m hm hm' => keep (hv i d m hm hm') (hBl d (List.mem_of_getElem? hm))⟩
      | iter m n l =>
        obtain ⟨rfl, hBl⟩ := frzO_oth (fun _ _ _ h => by cases h) hfo
        obtain ⟨hg, k, hc, hr⟩ := hB
        exact ⟨hg, k, hc, keep hr hBl⟩
  · rcases hd with hd | ⟨rfl, hd⟩
    · exact hd.rp (X2 := frzX2 X' X.H.length H2) S rfl hF hM hr
    · exact keep hr hd
end
end Go.Ax
namespace Go.Ax
open Go Go.Wx
variable [Globs]
inductive Lf:D→Prop
 | v (x:Value):Lf (.v x)
 | tup {ds:List D} (h:∀d∈ds,∃x,d= .v x):Lf (.tup ds)
 | agg {ds:List D} (h:∀d∈ds,∃x,d= .v x):Lf (.agg ds)
theorem Lf.rp{X X':Cx}{d:D}{y:Value}(h:Lf d)(hr:Rp X d y):Rp X' d y:=by
 cases h with
 | v x=>rw[hr.v_inv];exact .v x
 | tup h=>
  cases hr with
  | tup hl hr=>
   exact .tup hl fun j d x h1 h2=>by
    obtain⟨v,rfl⟩:=h d (List.mem_of_getElem? h1)
    rw[(hr j _ x h1 h2).v_inv];exact .v v
 | agg h=>
  cases hr with
  | agg hl hr=>
   exact .agg hl fun j d x h1 h2=>by
    obtain⟨v,rfl⟩:=h d (List.mem_of_getElem? h1)
    rw[(hr j _ x h1 h2).v_inv];exact .v v
theorem FrzK.weak{k0 k1:Nat}{H:Heap}{d d':D}(h:FrzK k0 H d d')(hk:k1≤k0):FrzK k1 H d d':=by
 induction h with
 | pd h=>exact .pd h
 | nil=>exact .nil
 | row h=>exact .row h
 | sl hb hl hn hy hz src h1 h2 hk' ih=>exact .sl hb hl hn hy hz src h1 ih (Nat.le_trans hk hk')
 | agg hl h ih=>exact .agg hl ih
 | tup hl h ih=>exact .tup hl ih
 | clo hl h ih=>exact .clo hl ih
 | map hb hl h hk' ih=>exact .map hb hl ih (Nat.le_trans hk hk')
 | fp hb hl h hk' ih=>exact .fp hb hl ih (Nat.le_trans hk hk')
section
variable {P : Program} {n : Nat} {A : Nat → Bool} {b0 : Nat} {K : APost} {c : Code} {f : FuncId} {args args' : List D} {H : Heap}
theorem Pur.borrow {x : D} (h : Pur P f args' x) (hx : Lf x) (ha : FrzL H args args') : Ex P f args H x := by
  refine ⟨(h []).cb, fun X M vs hs hH hv => ?_⟩
  subst hH
  have hs0 : Sim ⟨X.w, fun k => X.F k ∨ ∃ b, b < X.H.length ∧ X.gh b = false ∧ k = X.ρ b, fun _ => 0, fun _ => false, []⟩ fun _ => False :=
    ⟨⟨hs.gl.1, fun k hk => .inl (hs.gl.2 k hk)⟩, fun _ h => h.elim, fun k hk => hk.elim (hs.flt k) fun ⟨b, h1, h2, e⟩ => by rw [e]; exact hs.lt h1 h2, fun _ _ h => h, fun b h => (by simp at h), fun b _ h => (by simp at h), fun b o h => by simp at h⟩
  have ha0 : RpL ⟨X.w, fun k => X.F k ∨ ∃ b, b < X.H.length ∧ X.gh b = false ∧ k = X.ρ b, fun _ => 0, fun _ => false, []⟩ args' vs := by
    refine ⟨hv.1.trans ha.1, fun j d x h1 h2 => ?_⟩
    have hj := (List.getElem?_eq_some_iff.1 h1).1
    have h3 : args[j]? = some (args[j]'(by rw [ha.1]; exact hj)) := List.getElem?_eq_getElem _
    exact (ha.2 j _ d h3 h1).rp (X2 := ⟨X.w, fun k => X.F k ∨ ∃ b, b < X.H.length ∧ X.gh b = false ∧ k = X.ρ b, fun _ => 0, fun _ => false, []⟩) hs rfl (fun _ h => .inl h) (fun b _ h1 h2 => .inr ⟨b, h1, h2, rfl⟩) (hv.2 j _ x h3 h2)
  refine Cl.mono ((h []).run ⟨X.w, fun k => X.F k ∨ ∃ b, b < X.H.length ∧ X.gh b = false ∧ k = X.ρ b, fun _ => 0, fun _ => false, []⟩ (fun _ => False) vs hs0 rfl ha0) ?_
  rintro v w' ⟨X', M', d, ms, E, S, rfl, hr, rfl, hX', rfl⟩
  have hE : Ext X.w X'.w := E.frm
  have E2 : Ev (fun b => b ∈ ([] : List Nat)) X M ⟨X'.w, X.F, X.ρ, X.gh, X.H⟩ M :=
    { frm := Ext.frm hE, mn := fun _ h => .inl h, ff := fun k h => h, fn := fun _ h => .inl h, len := Nat.le_refl _,
      old := fun b hb _ => ⟨rfl, rfl, rfl, fun hg => hE.blk _ (hs.lt hb hg) id⟩,
      arr := fun b T sz xs' hb hx => ⟨xs', hx, .inr ⟨rfl, rfl, rfl, fun _ cur hc => ⟨cur, (hE.blk _ (At.lt hc) id).trans hc, rfl⟩⟩⟩,
      map := fun b es c hb => ⟨rfl, es, c, hb⟩, iter := fun b m n l hb => ⟨rfl, l, hb⟩, nw := fun b hb hg => .inr ⟨hb, rfl, hg⟩ }
  exact ⟨_, M, d, [], E2, hs.step E2 (fun k hk => Nat.lt_of_lt_of_le (hs.mlt k hk) hE.size) (fun k hk => Nat.lt_of_lt_of_le (hs.flt k hk) hE.size) hs.dj hs.im hs.inj (fun b o hb => .inl ⟨lt_of_some hb, by simp⟩), rfl, hx.rp hr, rfl, rfl, rfl⟩
def frzX3(X:Cx)(H1:Heap):Cx:=⟨X.w,fun j=>X.F j∨∃b,H1.length≤b∧b<X.H.length∧X.gh b=false∧j=X.ρ b,X.ρ,X.gh,H1⟩
def frzM3(X:Cx)(M:Nat→Prop)(H1:Heap):Nat→Prop:=fun j=>M j∧¬∃b,H1.length≤b∧b<X.H.length∧X.gh b=false∧j=X.ρ b
def FoB(k:Nat)(H:Heap)(d d':D):Prop:=FrzK k H d d'∨d'=d∧Bl k d
theorem FoB.fz{k:Nat}{H:Heap}{d d':D}(h:FrzK k H d d'):FoB k H d d':= .inl h
theorem FoB.v{k:Nat}{H:Heap}{x:Value}:FoB k H (.v x) (.v x):= .inl (.pd (.v x))
theorem FoB.pd{k:Nat}{H:Heap}{d:D}(h:Pd d):FoB k H d d:= .inl (.pd h)
theorem FoB.b{k:Nat}{H:Heap}{d:D}(h:Bl k d):FoB k H d d:= .inr ⟨rfl,h⟩
def FoL(k:Nat)(H:Heap):List (Nat × D)→List (Nat × D)→Prop
 |[],[]=>True
 | p::l,q::r=>p.1=q.1∧FoB k H p.2 q.2∧FoL k H l r
 | _,_=>False
theorem FoL.len{k:Nat}{H:Heap}:∀{l r:List (Nat × D)},FoL k H l r→l.length=r.length
 |[],[],_=>rfl
 | p::l,q::r,h=>by simp[FoL.len h.2.2]
 |[],_::_,h=>h.elim
 | _::_,[],h=>h.elim
theorem FoL.ren {k : Nat} {H : Heap} {X X2 : Cx} (hH : X.H = H) (hc : ∀ {d d' : D} {y : Value}, FoB k H d d' → Rp X d y → Rp X2 d' y) : ∀ {l r : List (Nat × D)} {e : Nat → D} {e' : Nat → D} {ec : Env}, FoL k H l r → Renv X (dupds e l) ec →
    (∀ t, Rp X (dupds e l t) (ec t)) → (∀ t, (∀ p ∈ l, p.1 ≠ t) → Rp X2 (e' t) (ec t)) → Renv X2 (dupds e' r) ec
  | l, r, e, e', ec, hl, he, _, ho => fun t => by
    have main : ∀ (l r : List (Nat × D)) (e e' : Nat → D), FoL k H l r → (∃ p ∈ l, p.1 = t) → FoB k H (dupds e l t) (dupds e' r t) := by
      intro l
      induction l with
      | nil => intro r e e' _ ⟨p, hp, _⟩; cases hp
      | cons p l ih =>
        intro r e e' hl hp
        cases r with
        | nil => exact hl.elim
        | cons q r =>
          obtain ⟨h1, h2, h3⟩ := hl
          simp only [dupds]
          by_cases hx : ∃ p' ∈ l, p'.1 = t
          · exact ih r _ _ h3 hx
          · obtain ⟨p', hp', ht⟩ := hp
            have hpt : p.1 = t := by
              rcases List.mem_cons.1 hp' with rfl | hp'
              · exact ht
              · exact absurd ⟨p', hp', ht⟩ hx
            have hno : ∀ e, dupds e l t = e t := fun e => by
              rcases dupds_get (l := l) (e := e) (t := t) with ⟨p', hp', ht, _⟩ | h
              · exact absurd ⟨p', hp', ht⟩ hx
              · exact h e
            have hsame : ∀ (l r : List (Nat × D)), FoL k H l r → l.map (·.1) = r.map (·.1) := by
              intro l
              induction l with
              | nil => intro r h; cases r with
                | nil => rfl
                | cons _ _ => exact h.elim
              | cons a l ih => intro r h; cases r with
                | nil => exact h.elim
                | cons b r => simp only [List.map_cons]; rw [h.1, ih r h.2.2]
            have hnr : ∀ e, dupds e r t = e t := fun e => by
              rcases dupds_get (l := r) (e := e) (t := t) with ⟨p', hp', ht, _⟩ | h
              · have : t ∈ l.map (·.1) := by rw [hsame l r h3]; exact List.mem_map.2 ⟨p', hp', ht⟩
                obtain ⟨p2, hp2, ht2⟩ := List.mem_map.1 this
                exact absurd ⟨p2, hp2, ht2⟩ hx
              · exact h e
            rw [hno, hnr]
            subst hpt
            rw [← h1]
            simp only [dset, Nat.beq_refl, cond_true]
            exact h2
    by_cases hx : ∃ p ∈ l, p.1 = t
    · exact hc (main l r e e' hl hx) (he t)
    · have hno : dupds e' r t = e' t := by
        rcases dupds_get (l := r) (e := e') (t := t) with ⟨p', hp', ht, _⟩ | h
        · have hsame : ∀ (l r : List (Nat × D)), FoL k H l r → l.map (·.1) = r.map (·.1) := by
            intro l
            induction l with
            | nil => intro r h; cases r with
              | nil => rfl
              | cons _ _ => exact h.elim
            | cons a l ih => intro r h; cases r with
              | nil => exact h.elim
              | cons b r => simp only [List.map_cons]; rw [h.1, ih r h.2.2]
          have : t ∈ l.map (·.1) := by rw [hsame l r hl]; exact List.mem_map.2 ⟨p', hp', ht⟩
          obtain ⟨p2, hp2, ht2⟩ := List.mem_map.1 this
          exact absurd ⟨p2, hp2, ht2⟩ hx
        · exact h e'
      rw [hno]
      exact ho t fun p hp ht => hx ⟨p, hp, ht⟩
theorem AW_frz {e : Nat → D} {l r : List (Nat × D)} {H1 G : Heap} (hb : b0 ≤ H1.length) (hO : ∀ o ∈ H1, BlO H1.length o) (hl : FoL H1.length (H1 ++ G) l r) (h : ∀ e, AW P n A b0 c K ⟨dupds e r, H1⟩) : AW P n A b0 c K ⟨dupds e l, H1 ++ G⟩ := by
  refine ⟨fun X M ec hs hl0 hH he => ?_⟩
  have hH : X.H = H1 ++ G := hH
  have hget : ∀ {b : Nat}, b < H1.length → X.H[b]? = H1[b]? := fun hb => by rw [hH]; exact List.getElem?_append_left hb
  have hlen : ∀ {b : Nat}, b < H1.length → b < X.H.length := fun hb => by rw [hH, List.length_append]; omega
  have hF : ∀ k, X.F k → (frzX3 X H1).F k := fun k h => .inl h
  have hM : ∀ b, H1.length ≤ b → b < X.H.length → X.gh b = false → (frzX3 X H1).F (X.ρ b) := fun b h1 h2 h3 => .inr ⟨b, h1, h2, h3, rfl⟩
  have dropF : ∀ {d : D} {y : Value}, Rp (dropX X H1) d y → Rp (frzX3 X H1) d y := by
    intro d y hr
    induction hr with
    | v x => exact .v x
    | any x => exact .any x
    | ptr hb hh => exact .ptr (X := frzX3 X H1) hb hh
    | sl hb hh => exact .sl (X := frzX3 X H1) hb hh
    | row vals h1 h2 h3 h4 h5 h6 h7 ih => exact .row (X := frzX3 X H1) vals h1 h2 h3 h4 (fun a0 ha hx => .inl (h5 a0 ha hx)) h6 ih
    | fp vals h1 h2 h3 ih => exact .fp (X := frzX3 X H1) vals (.inl h1) h2 ih
    | map hb hm => exact .map (X := frzX3 X H1) hb hm
    | it hb hm => exact .it (X := frzX3 X H1) hb hm
    | clo hl hr ih => exact .clo hl ih
    | agg hl hr ih => exact .agg hl ih
    | tup hl hr ih => exact .tup hl ih
    | ifc h ih => exact .ifc ih
    | fmap h1 h2 h3 h4 h5 ih => exact .fmap (X := frzX3 X H1) (.inl h1) h2 h3 h4 ih
  have conv : ∀ {d d' : D} {y : Value}, FoB H1.length (H1 ++ G) d d' → Rp X d y → Rp (frzX3 X H1) d' y := by
    intro d d' y hf hr
    rcases hf with hf | ⟨rfl, hbl⟩
    · rw [← hH] at hf
      exact hf.rp (X2 := frzX3 X H1) hs rfl hF hM hr
    · exact dropF (hr.drop hH hbl)
  have E : EvB b0 (fun b => A b = true) X M (frzX3 X H1) (frzM3 X M H1) :=
    { frm := Frm.refl _ _, mn := fun _ h => .inl h.1, ff := fun _ h => .inl h, fn := fun k h => h.elim .inl fun ⟨b, h1, h2, h3, e⟩ => .inr (.inr ⟨b, Nat.le_trans hb h1, h2, h3, e⟩), len := hb,
      old := fun b hl _ => ⟨(hget (by omega)).symm, rfl, rfl, fun _ => rfl⟩,
      arr := fun b T sz xs' hl hx => ⟨xs', (hget (by omega)).trans hx, .inr ⟨rfl, rfl, rfl, fun _ cur hc => ⟨cur, hc, rfl⟩⟩⟩,
      map := fun b es c hl hm => ⟨rfl, es, c, (hget (by omega)).symm.trans hm⟩, iter := fun b m n l hl hm => ⟨rfl, l, (hget (by omega)).symm.trans hm⟩, nw := fun b hb hg => .inr ⟨hlen hb, rfl, hg⟩ }
  have S : Sim (frzX3 X H1) (frzM3 X M H1) := by
    have D0 := drop_sim hs hH hO
    refine ⟨⟨hs.gl.1, fun k hk => .inl (hs.gl.2 k hk)⟩, fun k hk => hs.mlt k hk.1, fun k hk => hk.elim (hs.flt k) fun ⟨b, h1, h2, h3, e⟩ => by rw [e]; exact hs.lt h2 h3, fun k hk hm => ?_, fun b hb hg => ⟨hs.im b (hlen hb) hg, fun ⟨b', h1, h2, h3, e⟩ => ?_⟩, fun b b' hb hb' => hs.inj b b' (hlen hb) (hlen hb'), fun b o hb => ?_⟩
    · rcases hk with hk | hk
      · exact hs.dj k hk hm.1
      · exact hm.2 hk
    · have := hs.inj b b' (hlen hb) h2 hg h3 e
      have hb : b < H1.length := hb
      omega
    · have hB := D0.blk b o hb
      cases o with
      | arr T sz xs =>
        rcases hB with h | ⟨hg, cur, hc, hl, hz, hv⟩
        · exact .inl h
        · exact .inr ⟨hg, cur, hc, hl, hz, fun i j d hd => by
            obtain ⟨x, hx, ho, hr⟩ := hv i j d hd
            exact ⟨x, hx, ho, dropF hr⟩⟩
      | map ks ds =>
        obtain ⟨hg, l, hc, hl, hd, hv⟩ := hB
        exact ⟨hg, l, hc, hl, hd, fun i d m h1 h2 => dropF (hv i d m h1 h2)⟩
      | iter m n l =>
        obtain ⟨hg, k, hc, hr⟩ := hB
        exact ⟨hg, k, hc, dropF hr⟩
  have hren : Renv (frzX3 X H1) (dupds (fun _ => .any) r) ec := FoL.ren (X := X) (X2 := frzX3 X H1) (e := e) hH conv hl he he fun t _ => .any _
  refine W_mono ((h _).run (frzX3 X H1) (frzM3 X M H1) ec S hb rfl hren) ?_
  rintro ex e2 w2 ⟨X2, M2, s2, g1, g2, g3, g4, g5, g6⟩
  exact ⟨X2, M2, s2, E.trans g1 hs, g2, g3, g4, g5, g6⟩
end
end Go.Ax
namespace Go.Ax
open Go Go.Wx
variable [Globs]
inductive FrzN (H : Heap) : D → D → Prop
  | v (x : Value) : FrzN H (.v x) (.v x)
  | nil : FrzN H (.v (.slice none 0 0)) (.row false [])
  | sl {b i n h T sz : Nat} {xs ys : List (List D)} (hb : H[b]? = some (.arr T sz xs)) (hl : xs.length = h) (hn : i + n ≤ xs.length) (hy : ys.length = n) (hz : ∀ l ∈ ys, l.length = sz)
      (src : Nat → Nat → D) (h1 : ∀ j k d', at2 ys j k = some d' → at2 xs (i + j) k = some (src j k)) (h2 : ∀ j k d', at2 ys j k = some d' → FrzN H (src j k) d') : FrzN H (.sl b i n h) (.row false ys)
  | agg {ds ds' : List D} (hl : ds.length = ds'.length) (h : ∀ (j : Nat) d d', ds[j]? = some d → ds'[j]? = some d' → FrzN H d d') : FrzN H (.agg ds) (.agg ds')
  | tup {ds ds' : List D} (hl : ds.length = ds'.length) (h : ∀ (j : Nat) d d', ds[j]? = some d → ds'[j]? = some d' → FrzN H d d') : FrzN H (.tup ds) (.tup ds')
theorem FrzN.pd{H:Heap}{d d':D}(h:FrzN H d d'):Pd d':=by
 induction h with
 | v x=>exact .v x
 | nil=>exact .row fun l hl=>nomatch hl
 | sl hb hl hn hy hz src h1 h2 ih=>
  refine .row fun l hl d hd=>?_
  obtain⟨j,hj⟩:=List.getElem?_of_mem hl
  obtain⟨k,hk⟩:=List.getElem?_of_mem hd
  exact ih j k d (at2_some.2 ⟨l,hj,hk⟩)
 | agg hl h ih=>
  refine .agg fun d hd=>?_
  obtain⟨j,hj⟩:=List.getElem?_of_mem hd
  exact ih j _ d (List.getElem?_eq_getElem (by have:=(List.getElem?_eq_some_iff.1 hj).1;omega)) hj
 | tup hl h ih=>
  refine .tup fun d hd=>?_
  obtain⟨j,hj⟩:=List.getElem?_of_mem hd
  exact ih j _ d (List.getElem?_eq_getElem (by have:=(List.getElem?_eq_some_iff.1 hj).1;omega)) hj
theorem FrzN.rp{X' X2:Cx}{M':Nat→Prop}(hs:Sim X' M')(hw:X2.w=X'.w)(hM:∀b,b<X'.H.length→X'.gh b=false→X2.F (X'.ρ b)){d d':D}(hf:FrzN X'.H d d'):∀{y:Value},Rp X' d y→Rp X2 d' y:=by
 induction hf with
 | v x=>intro y h;rw[h.v_inv];exact .v x
 | nil=>
  intro y h
  rw[h.v_inv]
  exact Rp.row (cl:=false) (xs:=[]) (a:=none) (c:=0) (sz:=0) (fun _ _=>undef) (fun h=>nomatch h) ⟨Nat.le_refl _,Nat.zero_le _⟩ (fun _ h=>nomatch h) (fun _=>rfl) (fun _ _ h=>absurd rfl h) (fun _ i j d _ h=>by simp[at2]at h) fun i j d h=>by simp[at2]at h
 | sl hb hl hn hy hz src h1 h2 ih=>
  intro y h
  rename_i b i n hh T sz xs ys
  obtain⟨a,c,rfl⟩:∃a c,y= .slice a n c:=by cases h;exact⟨_,_,rfl⟩
  rw[←hy]
  have hnil:n=0→Rp X2 (.row false ys) (.slice a ys.length c):=fun h0=>by
   obtain rfl:ys=[]:=List.eq_nil_of_length_eq_zero (by omega)
   exact Rp.row (cl:=false) (xs:=[]) (a:=a) (c:=c) (sz:=0) (fun _ _=>undef) (fun h=>nomatch h) ⟨Nat.zero_le _,Nat.zero_le _⟩ (fun _ h=>nomatch h) (fun _=>rfl) (fun _ _ h=>absurd rfl h) (fun _ i j d _ h=>by simp[at2]at h) fun i j d h=>by simp[at2]at h
  rcases hs.sl h hb hl with⟨h0,_⟩ | ⟨hg,rfl,hnc,hcm,cur,hcur,hcs⟩
  ·exact hnil h0
  ·rcases hs.blk b _ hb with⟨hg',_⟩ | ⟨_,cur',hcur',hl',hzz,hv⟩
   ·rw[hg]at hg';cases hg'
   rw[hcur]at hcur'
   cases hcur'
   refine Rp.row (cl:=false) (sz:=sz) (fun j k=>(cur[(i+j)*sz+k]?).getD undef) (fun h=>nomatch h) ⟨by omega,by omega⟩ hz (fun h=>nomatch h) (fun a0 ha _=>?_) (fun a0 j k d ha hd=>?_) fun j k d hd=>?_
   ·cases ha
    exact hM b (lt_of_some hb) hg
   ·cases ha
    obtain⟨x,hx,ho,_⟩:=hv _ _ _ (h1 j k d hd)
    rw[hx,hw,add_mk,show i*sz+(j*sz+k)=(i+j)*sz+k by rw[Nat.add_mul];omega]
    exact⟨cell_blk hcur hx,ho⟩
   ·obtain⟨x,hx,_,hr⟩:=hv _ _ _ (h1 j k d hd)
    rw[hx]
    exact ih j k d hd hr
 | agg hl h ih=>
  intro y hr
  cases hr with
  | agg hl' hr'=>
   refine .agg (by omega) fun j d x g1 g2=>?_
   have hj:=(List.getElem?_eq_some_iff.1 g1).1
   have hj2:=(List.getElem?_eq_some_iff.1 g2).1
   exact ih j _ d (List.getElem?_eq_getElem (by omega)) g1 (hr' j _ x (List.getElem?_eq_getElem (by omega)) g2)
 | tup hl h ih=>
  intro y hr
  cases hr with
  | tup hl' hr'=>
   refine .tup (by omega) fun j d x g1 g2=>?_
   have hj:=(List.getElem?_eq_some_iff.1 g1).1
   have hj2:=(List.getElem?_eq_some_iff.1 g2).1
   exact ih j _ d (List.getElem?_eq_getElem (by omega)) g1 (hr' j _ x (List.getElem?_eq_getElem (by omega)) g2)
section
variable {P : Program} {f : FuncId} {args args' : List D} {H : Heap} {res : D}
structure PurN(P:Program)(f:FuncId)(args:List D)(res:D):Prop where
 cb:callB P f=true
 pd:Pd res
 run:∀X M vs,Sim X M→X.H=[]→RpL X args vs→Cl P f vs.toArray X.w fun v w'=>∃X',Ext X.w X'.w∧X'.w=w'∧(∀k,X'.F k→X.w.heap.size≤k∧k<X'.w.heap.size)∧Rp X' res v
theorem PurN_of(hp:∀d∈args,Pd d)(hpd:Pd res)(h:AC P f args [] fun d H' _=>FrzN H' d res):PurN P f args res:=by
 refine⟨h.cb,hpd,fun X M vs hs hH ha=>?_⟩
 have hs0:Sim ⟨X.w,X.F,fun _=>0,fun _=>false,[]⟩ fun _=>False:=⟨hs.gl,fun _ h=>h.elim,hs.flt,fun _ _ h=>h,fun b h=>(by simp at h),fun b _ h=>(by simp at h),fun b o h=>by simp at h⟩
 have ha0:RpL ⟨X.w,X.F,fun _=>0,fun _=>false,[]⟩ args vs:=⟨ha.1,fun j d x h1 h2=>(ha.2 j d x h1 h2).pd (fun _ h=>h) (fun _ _=>rfl) (hp d (List.mem_of_getElem? h1))⟩
 refine Cl.mono (h.run ⟨X.w,X.F,fun _=>0,fun _=>false,[]⟩ _ vs hs0 rfl ha0) ?_
 rintro v w' ⟨X',M',d,ms,E,S,rfl,hr,hf⟩
 have hE:Ext X.w X'.w:=E.frm
 refine⟨⟨X'.w,M',fun _=>0,fun _=>false,[]⟩,hE,rfl,fun k hk=>⟨(E.mn k hk).resolve_left id,S.mlt k hk⟩,hf.rp (X2:=⟨X'.w,M',fun _=>0,fun _=>false,[]⟩) S rfl (fun b hb hg=>S.im b hb hg) hr⟩
theorem PurN.use (h : PurN P f args' res) (ha : FrzL H args args') : Ex P f args H res := by
  refine ⟨h.cb, fun X M vs hs hH hv => ?_⟩
  subst hH
  have hs0 : Sim ⟨X.w, fun k => X.F k ∨ ∃ b, b < X.H.length ∧ X.gh b = false ∧ k = X.ρ b, fun _ => 0, fun _ => false, []⟩ fun _ => False :=
    ⟨⟨hs.gl.1, fun k hk => .inl (hs.gl.2 k hk)⟩, fun _ h => h.elim, fun k hk => hk.elim (hs.flt k) fun ⟨b, h1, h2, e⟩ => by rw [e]; exact hs.lt h1 h2, fun _ _ h => h, fun b h => (by simp at h), fun b _ h => (by simp at h), fun b o h => by simp at h⟩
  have ha0 : RpL ⟨X.w, fun k => X.F k ∨ ∃ b, b < X.H.length ∧ X.gh b = false ∧ k = X.ρ b, fun _ => 0, fun _ => false, []⟩ args' vs := by
    refine ⟨hv.1.trans ha.1, fun j d x h1 h2 => ?_⟩
    have hj := (List.getElem?_eq_some_iff.1 h1).1
    have h3 : args[j]? = some (args[j]'(by rw [ha.1]; exact hj)) := List.getElem?_eq_getElem _
    exact (ha.2 j _ d h3 h1).rp (X2 := ⟨X.w, fun k => X.F k ∨ ∃ b, b < X.H.length ∧ X.gh b = false ∧ k = X.ρ b, fun _ => 0, fun _ => false, []⟩) hs rfl (fun _ h => .inl h) (fun b _ h1 h2 => .inr ⟨b, h1, h2, rfl⟩) (hv.2 j _ x h3 h2)
  refine Cl.mono (h.run ⟨X.w, fun k => X.F k ∨ ∃ b, b < X.H.length ∧ X.gh b = false ∧ k = X.ρ b, fun _ => 0, fun _ => false, []⟩ (fun _ => False) vs hs0 rfl ha0) ?_
  rintro v w' ⟨X', hE, rfl, hF, hr⟩
  have hE : Ext X.w X'.w := hE
  have hF : ∀ k, X'.F k → X.w.heap.size ≤ k ∧ k < X'.w.heap.size := hF
  have E2 : Ev (fun b => b ∈ ([] : List Nat)) X M ⟨X'.w, fun k => X.F k ∨ X'.F k, X.ρ, X.gh, X.H⟩ M :=
    { frm := Ext.frm hE, mn := fun _ h => .inl h, ff := fun k h => .inl h, fn := fun k h => h.imp id fun h => (hF k h).1, len := Nat.le_refl _,
      old := fun b hb _ => ⟨rfl, rfl, rfl, fun hg => hE.blk _ (hs.lt hb hg) id⟩,
      arr := fun b T sz xs' hb hx => ⟨xs', hx, .inr ⟨rfl, rfl, rfl, fun _ cur hc => ⟨cur, (hE.blk _ (At.lt hc) id).trans hc, rfl⟩⟩⟩,
      map := fun b es c hb => ⟨rfl, es, c, hb⟩, iter := fun b m n l hb => ⟨rfl, l, hb⟩, nw := fun b hb hg => .inr ⟨hb, rfl, hg⟩ }
  refine ⟨_, M, res, [], E2, hs.step E2 (fun k hk => Nat.lt_of_lt_of_le (hs.mlt k hk) hE.size) (fun k hk => hk.elim (fun h => Nat.lt_of_lt_of_le (hs.flt k h) hE.size) fun h => (hF k h).2) (fun k hk hm => ?_) hs.im hs.inj (fun b o hb => .inl ⟨lt_of_some hb, by simp⟩), rfl, hr.pd (X' := ⟨X'.w, fun k => X.F k ∨ X'.F k, X.ρ, X.gh, X.H⟩) (fun _ h => .inr h) (fun _ _ => rfl) h.pd, rfl, rfl, rfl⟩
  rcases hk with h | h
  · exact hs.dj k h hm
  · have := hs.mlt k hm
    have := (hF k h).1
    omega
theorem PurN.pur(h:PurN P f args res)(hp:PdL args):Pur P f args res:=fun _=>h.use (FrzL.refl hp)
theorem frzN_rows{H:Heap}{α:Type}{enc:α→List D}{xs:List α}{b n h T sz:Nat}(hb:H[b]? =some (.arr T sz (xs.map enc)))(hn:xs.length=n)(hh:xs.length=h)(he:∀x,∀d∈enc x,∃v,d= .v v)(hz:∀x,(enc x).length=sz):FrzN H (.sl b 0 n h) (rows enc xs):=by
 refine .sl hb (by simpa using hh) (by simp;omega) (by simpa using hn) (fun l hl=>?_) (fun j k=>(at2 (xs.map enc) j k).getD .any) (fun j k d hd=>?_) fun j k d hd=>?_
 ·obtain⟨x,_,rfl⟩:=List.mem_map.1 hl
  exact hz x
 ·rw[Nat.zero_add,hd];rfl
 ·rw[hd]
  obtain⟨l,h1,h2⟩:=at2_some.1 hd
  rw[List.getElem?_map,Option.map_eq_some_iff]at h1
  obtain⟨x,_,rfl⟩:=h1
  obtain⟨v,rfl⟩:=he x d (List.mem_of_getElem? h2)
  exact .v v
end
end Go.Ax
