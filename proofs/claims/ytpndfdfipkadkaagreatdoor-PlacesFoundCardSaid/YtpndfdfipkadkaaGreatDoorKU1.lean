/- The law holds: part 333. Conditions: none. -/
import Derived.WalkKit
import Derived.KernelRfl
import Derived.OrdersHeld
import Derived.Laws.ResultCell
import Derived.Laws.StructEq
import Derived.Deep.Upon
import Derived.Deep.DeepAppendWide
import Derived.Laws.BitsLemmas
set_option linter.all false
namespace Go.Wx
open Go
abbrev Env:=Nat→Value
def upd(e:Env)(d:Nat)(v:Value):Env:=fun t=>cond (Nat.beq t d) v (e t)
def upds(e:Env):List (Nat × Value)→Env
 |[]=>e
 | p::l=>upds (upd e p.1 p.2) l
def pute(e:Env):Option Nat→Value→Env
 | some d,v=>upd e d v
 | none,_=>e
def evl(e:Env):Operand→Value
 | .tmp t=>e t
 | .const v=>v
 | .global g=> .pointer (some ⟨g,0,none⟩)
 | .func f=> .func (.func f) #[] #[]
def dstB(n:Nat):Option Nat→Bool
 | some d=>Nat.blt d n
 | none=>true
theorem beq_ne{a b:Nat}(h:a≠b):Nat.beq a b=false:=by
 cases hb:Nat.beq a b with
 | false=>rfl
 | true=>exact absurd (Nat.eq_of_beq_eq_true hb) h
theorem upd_same{e:Env}{d:Nat}{v:Value}(h:e d=v):upd e d v=e:=by
 funext t
 unfold upd
 by_cases ht:t=d
 ·subst ht;simp[h]
 ·simp[beq_ne ht]
structure Rep(n:Nat)(a:Act)(e:Env):Prop where
 size:a.tmps.size=n
 defers:a.defers=[]
 get:∀t,a.tmps.getD t undef=e t
theorem Rep.eval{n:Nat}{a:Act}{e:Env}(h:Rep n a e):a.eval=evl e:=by
 funext x
 cases x with
 | tmp t=>exact h.get t
 | _=>rfl
theorem Rep.put{n:Nat}{a:Act}{e:Env}(h:Rep n a e){d:Option Nat}(hd:dstB n d=true)(v:Value):Rep n (a.put d v) (pute e d v):=by
 cases d with
 | none=>exact h
 | some d=>
  have hd':d<n:=by simpa[dstB,Nat.blt_eq]using hd
  refine⟨by simpa[Act.put]using h.size,h.defers,fun t=>?_⟩
  simp only[Act.put,pute,upd]
  by_cases ht:t=d
  ·subst ht
   simp[Array.getD,h.size,hd']
  ·have hb:Nat.beq t d=false:=beq_ne ht
   have:=h.get t
   simp only[hb,cond_false]
   rw[←this]
   simp[Array.getElem?_setIfInBounds_ne (Ne.symm ht)]
def wantedE(ops:Array Oper)(o:Oper)(e:Env):Bool:=
 match o.guard with
 | none=>true
 | some (j,want)=>match(ops[j]?).bind (·.dst)with
  | some d=>(match e d with | .bool b=>b==want | _=>false)
  | none=>false
theorem Rep.wanted{n:Nat}{a:Act}{e:Env}(h:Rep n a e)(ops:Array Oper)(o:Oper):Region.wanted o (yielded ops a.tmps)=wantedE ops o e:=by
 unfold Region.wanted wantedE
 cases o.guard with
 | none=>rfl
 | some gw=>
  obtain⟨j,want⟩:=gw
  simp only[yielded]
  cases (ops[j]?).bind (·.dst)with
  | none=>simp
  | some d=>
   simp only[Option.bind_some]
   have hg:=h.get d
   by_cases hlt:d<a.tmps.size
   ·simp only[Array.getD,hlt,dite_true]at hg
    simp only[Array.getElem?_eq_getElem hlt]
    rw[show a.tmps[d]=e d from hg]
    cases e d<;>simp
   ·simp only[Array.getD,hlt,dite_false]at hg
    simp only[Array.getElem?_eq_none (Nat.not_lt.1 hlt)]
    rw[←hg]
    simp[undef]
abbrev Post:=Exit→Env→World→Prop
def Kx(n:Nat)(K:Post):Exit→Act→World→Prop:=fun ex a w=>∃e,Rep n a e∧K ex e w
def W(P:Program)(n:Nat)(c:Code)(K:Post)(e:Env)(w:World):Prop:=∀a,Rep n a e→c.wp P (Kx n K) a w
@[reducible] def seqK (A : Env → World → Prop) (K : Post) : Post
 | .normal=>A
 | ex=>K ex
@[reducible] def blockK (id : Nat) (K : Post) : Post
 | .exit id'=>fun e w=>if id'=id then K .normal e w else K (.exit id') e w
 | ex=>K ex
section
variable {P : Program} {n : Nat} {K : Post} {e : Env} {w : World}
theorem W_mono{c:Code}{K':Post}(h:W P n c K e w)(hk:∀ex e w,K ex e w→K' ex e w):W P n c K' e w:=
 fun a ha=>wp_mono (h a ha) fun _ _ _ ⟨e,r,k⟩=>⟨e,r,hk _ _ _ k⟩
theorem W_skip(h:K .normal e w):W P n .skip K e w:=fun _ ha=>wp_skip ⟨e,ha,h⟩
theorem W_ret(h:K .ret e w):W P n .ret K e w:=fun _ ha=>wp_ret ⟨e,ha,h⟩
theorem W_exit{id:Nat}(h:K (.exit id) e w):W P n (.exit id) K e w:=fun _ ha=>wp_exit ⟨e,ha,h⟩
theorem W_seq{x y:Code}(h:W P n x (seqK (W P n y K) K) e w):W P n (.seq x y) K e w:=by
 intro a ha
 refine wp_seq (wp_mono (h a ha) ?_)
 rintro ex a' w' ⟨e',hr,hk⟩
 cases ex<;>first | exact hk a' hr | exact⟨e',hr,hk⟩
theorem W_cond{c:Operand}{x y:Code}{t:Bool}(hc:evl e c= .bool t)(h:W P n (if t then x else y) K e w):W P n (.cond c x y) K e w:=
 fun a ha=>wp_cond (by rw[ha.eval];exact hc) (h a ha)
theorem W_block{id:Nat}{c:Code}(h:W P n c (blockK id K) e w):W P n (.block id c) K e w:=by
 intro a ha
 refine wp_block (wp_mono (h a ha) ?_)
 rintro ex a' w' ⟨e',hr,hk⟩
 cases ex with
 | exit id'=>
  simp only[blockK]at hk
  simp only[Exit.inBlock]
  by_cases hid:id'=id
  ·simp only[hid,if_true]at hk ⊢;exact⟨e',hr,hk⟩
  ·simp only[hid,if_false]at hk ⊢;exact⟨e',hr,hk⟩
 | _=>exact⟨e',hr,hk⟩
def WL(P:Program)(n:Nat)(c:Code)(K:Post):Nat→Env→World→Prop
 | 0,_,_=>False
 | k+1,e,w=>W P n c (seqK (WL P n c K k) K) e w
theorem W_loop {c : Code} {k : Nat} (h : WL P n c K k e w) : W P n (.loop c) K e w := by
  have key : ∀ k e w, WL P n c K k e w → ∀ a, Rep n a e → ∀ (b : Frame) (kk : List Item) (cs : List Frame),
      ∃ ex a' w', Kx n K ex a' w' ∧ Arrives P (lone (b.at a (.code c :: .inLoop c :: kk)) cs w) b kk cs ex a' w' := by
    intro k
    induction k with
    | zero => intro e w h; exact h.elim
    | succ k ih =>
      intro e w h a ha b kk cs
      obtain ⟨ex, a₁, w₁, ⟨e₁, hr, hk⟩, harr⟩ := h a ha b (.inLoop c :: kk) cs
      cases ex with
      | normal =>
        obtain ⟨e₂, a₂, w₂, hq₂, harr₂⟩ := ih e₁ w₁ hk a₁ hr b kk cs
        exact ⟨e₂, a₂, w₂, hq₂, .of_steps (Steps.trans harr (.one step_inLoop)) harr₂⟩
      | exit id => exact ⟨_, a₁, w₁, ⟨e₁, hr, hk⟩, .pass (x := .inLoop c) rfl (fun _ _ => .inl (by simp)) harr⟩
      | goto l => exact ⟨_, a₁, w₁, ⟨e₁, hr, hk⟩, .pass (x := .inLoop c) rfl (fun _ _ => .inl (by simp)) harr⟩
      | ret => exact ⟨_, a₁, w₁, ⟨e₁, hr, hk⟩, .pass (x := .inLoop c) rfl (fun _ _ => .inl (by simp)) harr⟩
      | panic ch => exact ⟨_, a₁, w₁, ⟨e₁, hr, hk⟩, .pass (x := .inLoop c) rfl (fun _ _ => .inl (by simp)) harr⟩
      | outgrown => exact ⟨_, a₁, w₁, ⟨e₁, hr, hk⟩, .pass (x := .inLoop c) rfl (fun _ _ => .inl (by simp)) harr⟩
  intro a ha b kk cs
  obtain ⟨ex, a', w', hq, harr⟩ := key k e w h a ha b kk cs
  exact ⟨ex, a', w', hq, .of_steps (.one step_loop) harr⟩
end
def pureRun{α:Type}(P:Program):Sem α→Option α
 | .pure a=>some a
 | .program k=>pureRun P (k P)
 | .mark _ k=>pureRun P k
 | _=>none
theorem pureRun_run{α:Type}(P:Program)(s:Sem α):∀{a:α},pureRun P s=some a→∀w,s.run P w= .ok a w:=by
 induction s with
 | pure a=>intro b h w;simp only[pureRun,Option.some.injEq]at h;subst h;rfl
 | program k ih=>intro b h w;simp only[pureRun]at h;simp only[Sem.run];exact ih P h w
 | mark m k ih=>intro b h w;simp only[pureRun]at h;simp only[Sem.run];exact ih h w
 | _=>intro b h;simp[pureRun]at h
def stepE(P:Program)(s:Sem Next)(w:World)(K:Value→World→Prop):Prop:=
 match s.run P w with
 | .ok (.value v) w'=>K v w'
 | .ok .skip w'=>K undef w'
 | .ok (.enter f args) w'=>Calls P f args w' fun en w''=>∃v,en= .returned v∧K v w''
 | _=>False
theorem stepE_mono{P:Program}{s:Sem Next}{w:World}{K K':Value→World→Prop}(h:stepE P s w K)(hk:∀v w,K v w→K' v w):stepE P s w K':=by
 unfold stepE at*
 split at h
 ·exact hk _ _ h
 ·exact hk _ _ h
 ·exact h.mono fun en w'' ⟨v,he,hv⟩=>⟨v,he,hk _ _ hv⟩
 ·exact h.elim
def Qr(n:Nat)(K:Env→World→Prop):Exit→Act→World→Prop
 | .normal,a,w=>∃e,Rep n a e∧K e w
 | _,_,_=>False
theorem oper_wp {P : Program} {n : Nat} {o : Oper} {e : Env} {w : World} {a : Act} {K : Env → World → Prop} {Q : Exit → Act → World → Prop} {next : Act → World → Prop}
    (ha : Rep n a e) (hd : dstB n o.dst = true) (hnext : ∀ a' e' w', Rep n a' e' → K e' w' → next a' w')
    (h : stepE P (execOp (evl e) o) w fun v w' => K (pute e o.dst v) w') : o.wp P a w next Q := by
  unfold Oper.wp
  rw [ha.eval]
  unfold stepE at h
  split at h
  · rename_i v w' hr; rw [hr]; exact hnext _ _ _ (ha.put hd v) h
  · rename_i w' hr; rw [hr]; exact hnext _ _ _ (ha.put hd undef) h
  · rename_i f args w' hr
    rw [hr]
    refine Calls.mono h fun en w'' ⟨v, he, hv⟩ => ?_
    subst he
    exact hnext _ _ _ (ha.put hd v) hv
  · exact h.elim
def WO(P:Program)(n:Nat)(ops:Array Oper)(K:Env→World→Prop)(rest:List Oper)(e:Env)(w:World):Prop:=
 ∀a,Rep n a e→wpList P ops (Qr n K) rest a w
section
variable {P : Program} {n : Nat} {ops : Array Oper} {K : Env → World → Prop} {rest : List Oper} {o : Oper} {e : Env} {w : World}
theorem WO_nil(h:K e w):WO P n ops K [] e w:=fun _ ha=>wpList_nil ⟨e,ha,h⟩
theorem WO_skip(hw:wantedE ops o e=false)(hd:dstB n o.dst=true)(h:WO P n ops K rest (pute e o.dst undef) w):WO P n ops K (o::rest) e w:=by
 intro a ha
 refine wpList_step fun K' hK'=>?_
 rw[ha.wanted,hw]
 exact hK' _ _ (h _ (ha.put hd undef))
theorem WO_step(hw:wantedE ops o e=true)(hd:dstB n o.dst=true)(h:stepE P (execOp (evl e) o) w fun v w'=>WO P n ops K rest (pute e o.dst v) w'):WO P n ops K (o::rest) e w:=by
 intro a ha
 refine wpList_step fun K' hK'=>?_
 rw[ha.wanted,hw]
 exact oper_wp ha hd (fun a' e' w' hr hk=>hK' _ _ (hk a' hr)) h
def psteps (P : Program) (n : Nat) (ops : Array Oper) : List Oper → Env → Option Env
  | [], e => some e
  | o :: l, e => cond (dstB n o.dst)
      (cond (wantedE ops o e)
        (match pureRun P (execOp (evl e) o) with
        | some (.value v) => psteps P n ops l (pute e o.dst v)
        | _ => none)
        (psteps P n ops l (pute e o.dst undef)))
      none
theorem WO_psteps:∀(l:List Oper) {e e':Env},psteps P n ops l e=some e'→WO P n ops K rest e' w→WO P n ops K (l++rest) e w
 |[],e,e',h,hk=>by simp only[psteps,Option.some.injEq]at h;subst h;exact hk
 | o::l,e,e',h,hk=>by
  simp only[psteps]at h
  cases hd:dstB n o.dst with
  | false=>rw[hd]at h;cases h
  | true=>
   rw[hd]at h
   simp only[cond_true]at h
   cases hw:wantedE ops o e with
   | false=>
    rw[hw]at h
    exact WO_skip hw hd (WO_psteps l h hk)
   | true=>
    rw[hw]at h
    simp only[cond_true]at h
    split at h
    ·rename_i v hv
     refine WO_step hw hd ?_
     unfold stepE
     rw[pureRun_run P _ hv w]
     exact WO_psteps l h hk
    ·cases h
theorem WO_pures{l:List Oper}(k:Nat)(u:List (Nat × Value))(h:psteps P n ops (l.take k) e=some (upds e u))(hk:WO P n ops K (l.drop k) (upds e u) w):WO P n ops K l e w:=by
 have:=WO_psteps (rest:=l.drop k) (l.take k) h hk
 rwa[List.take_append_drop]at this
theorem WO_val{v:Value}{w':World}(hw:wantedE ops o e=true)(hd:dstB n o.dst=true)(hr:(execOp (evl e) o).run P w= .ok (.value v) w')(h:WO P n ops K rest (pute e o.dst v) w'):WO P n ops K (o::rest) e w:=by
 refine WO_step hw hd ?_
 unfold stepE;rw[hr];exact h
theorem WO_unit{w':World}(hw:wantedE ops o e=true)(hd:dstB n o.dst=true)(hr:(execOp (evl e) o).run P w= .ok .skip w')(h:WO P n ops K rest (pute e o.dst undef) w'):WO P n ops K (o::rest) e w:=by
 refine WO_step hw hd ?_
 unfold stepE;rw[hr];exact h
theorem WO_call {f : FuncId} {args : Array Value} (hw : wantedE ops o e = true) (hd : dstB n o.dst = true) (hr : (execOp (evl e) o).run P w = .ok (.enter f args) w)
    (h : Calls P f args w fun en w'' => ∃ v, en = .returned v ∧ WO P n ops K rest (pute e o.dst v) w'') : WO P n ops K (o :: rest) e w := by
  refine WO_step hw hd ?_
  unfold stepE; rw [hr]; exact h
theorem Qr_Kx{K':Post}(h:∀e w,K e w→K' .normal e w):∀ex a w,Qr n K ex a w→Kx n K' ex a w:=by
 intro ex a w hq
 cases ex<;>first | exact hq.elim | (obtain⟨e,hr,hk⟩:=hq;exact⟨e,hr,h _ _ hk⟩)
theorem W_region{id:Nat}{K':Post}(h:WO P n ops (K' .normal) ops.toList e w):W P n (.region id ops false) K' e w:=
 fun a ha=>wp_mono (wp_region_list (h a ha)) (Qr_Kx fun _ _ h=>h)
theorem W_regseq{id:Nat}{y:Code}{K':Post}{l:List Oper}(h:WO P n l.toArray (W P n y K') l e w):W P n (.seq (.region id l.toArray false) y) K' e w:=
 W_seq (W_region (K':=seqK (W P n y K') K') (by simpa using h))
theorem W_reg{id:Nat}{K':Post}{l:List Oper}(h:WO P n l.toArray (K' .normal) l e w):W P n (.region id l.toArray false) K' e w:=
 W_region (by simpa using h)
end
structure Pend where
 i:Nat
 s:Sem Next
 v:Value
def Pend.ok(P:Program)(p:Pend)(w:World):Prop:=p.s.run P w= .ok (.value p.v) w
def later(T:List (List Nat))(j i:Nat):Bool:=(T.getD j []).any (Nat.beq i)
def tableB(ops:Array Oper)(T:List (List Nat)):Bool:=
 (List.range ops.size).all fun j=>match ops[j]? with
  | none=>true
  | some oj=>(T.getD j []).all fun i=>oj.after.any fun e=>Region.binds .any e&&(Nat.blt e.on j&&(Nat.beq i e.on||later T e.on i))
def Closed(ops:Array Oper)(listed:Array Bool):Prop:=
 ∀(j:Nat) (oj:Oper),ops[j]? =some oj→listed.getD j false=true→∀e∈oj.after,Region.binds .any e=true→listed.getD e.on false=true
theorem later_listed {ops : Array Oper} {T : List (List Nat)} (hT : tableB ops T = true) {listed : Array Bool} (hc : Closed ops listed) :
    ∀ (j : Nat) (oj : Oper) (i : Nat), ops[j]? = some oj → (∀ e ∈ oj.after, Region.binds .any e = true → listed.getD e.on false = true) → later T j i = true → listed.getD i false = true := by
  intro j
  induction j using Nat.strongRecOn with
  | _ j ih =>
    intro oj i hj hall hl
    have hlt : j < ops.size := (Array.getElem?_eq_some_iff.1 hj).1
    have h1 := List.all_eq_true.1 hT j (List.mem_range.2 hlt)
    simp only [hj] at h1
    obtain ⟨i', hi', hb⟩ := List.any_eq_true.1 hl
    have hii : i = i' := Nat.eq_of_beq_eq_true hb
    subst hii
    have h2 := List.all_eq_true.1 h1 i hi'
    obtain ⟨e, he, h3⟩ := Array.any_eq_true'.1 h2
    simp only [Bool.and_eq_true, Bool.or_eq_true] at h3
    obtain ⟨hbind, hblt, h4⟩ := h3
    have hle := hall e he hbind
    rcases h4 with h4 | h4
    · have : i = e.on := Nat.eq_of_beq_eq_true h4
      subst this; exact hle
    · have helt : e.on < j := by simpa [Nat.blt_eq] using hblt
      have heo : e.on < ops.size := by omega
      exact ih e.on helt ops[e.on] i (Array.getElem?_eq_getElem heo) (hc e.on _ (Array.getElem?_eq_getElem heo) hle) h4
def wpG(P:Program)(ops:Array Oper)(Q:Exit→Act→World→Prop)(T:List (List Nat)):Nat→Array Bool→List Pend→Act→World→Prop
 | 0,listed,_,a,w=>Region.ready .any ops listed=[]∧Q .normal a w
 | f+1,listed,pend,a,w=>
  (Region.ready .any ops listed=[]→Q .normal a w)∧
  ∀j∈Region.ready .any ops listed,wpOp P ops Q j (fun a' w'=>(∀p∈pend,later T j p.i=false→p.ok P w')∧
   wpG P ops Q T f (listed.setIfInBounds j true) (pend.filter fun p=> !later T j p.i) a' w') a w
section
variable {P : Program} {ops : Array Oper} {Q : Exit → Act → World → Prop} {T : List (List Nat)}
theorem wpAny_of_G:∀(f:Nat) (listed:Array Bool) (pend:List Pend) (a:Act) (w:World),wpG P ops Q T f listed pend a w→wpAny P .any ops Q f listed a w
 | 0,_,_,_,_,h=>h
 | f+1,_,_,_,_,h=>⟨h.1,fun j hj=>wpOp_mono (fun a' w' h'=>wpAny_of_G f _ _ a' w' h'.2) (h.2 j hj)⟩
theorem wpG_sub : ∀ (f : Nat) (listed : Array Bool) (p1 p2 : List Pend) (a : Act) (w : World), (∀ p ∈ p1, p ∈ p2) → wpG P ops Q T f listed p2 a w → wpG P ops Q T f listed p1 a w
  | 0, _, _, _, _, _, _, h => h
  | f + 1, _, p1, p2, _, _, hs, h => ⟨h.1, fun j hj => wpOp_mono (fun a' w' h' => ⟨fun p hp => h'.1 p (hs p hp), wpG_sub f _ _ _ a' w' (fun p hp => by
      rw [List.mem_filter] at hp ⊢; exact ⟨hs p hp.1, hp.2⟩) h'.2⟩) (h.2 j hj)⟩
theorem wpG_add {q : Pend} (hq : ∀ w, q.ok P w) : ∀ (f : Nat) (listed : Array Bool) (pend : List Pend) (a : Act) (w : World), wpG P ops Q T f listed pend a w → wpG P ops Q T f listed (q :: pend) a w
  | 0, _, _, _, _, h => h
  | f + 1, listed, pend, _, _, h => ⟨h.1, fun j hj => wpOp_mono (fun a' w' h' => ⟨fun p hp => by
      rcases List.mem_cons.1 hp with rfl | hp
      · exact fun _ => hq w'
      · exact h'.1 p hp, by
      simp only [List.filter_cons]
      split
      · exact wpG_add hq f _ _ a' w' h'.2
      · exact h'.2⟩) (h.2 j hj)⟩
theorem closed_set{listed:Array Bool}(hc:Closed ops listed){i:Nat}(hi:i∈Region.ready .any ops listed):Closed ops (listed.setIfInBounds i true):=by
 obtain⟨_,oi,hoi,hall⟩:=mem_ready.1 hi
 intro j oj hj hl e he hb
 by_cases hij:i=j
 ·subst hij
  have:oj=oi:=Option.some.inj (hj.symm.trans hoi)
  subst this
  exact getD_set_true (hall e he hb)
 ·rw[getD_set_ne false hij]at hl
  exact getD_set_true (hc j oj hj hl e he hb)
theorem getD_flip{listed:Array Bool}{i:Nat}(h:listed.getD i true=false):listed.getD i false=false:=by
 rcases Nat.lt_or_ge i listed.size with h' | h'
 ·simp[h']at h ⊢;exact h
 ·simp[Array.getElem?_eq_none h']at h
theorem wpG_first (hT : tableB ops T = true) {i : Nat} {oi : Oper} {q : Pend} (hqi : q.i = i) (hi : ops[i]? = some oi) (hsel : ∀ (j : Nat) (o : Oper) cs b, ops[j]? = some o → o.op ≠ .select cs b)
    (hQ : ∀ c a w, ¬ Q (.panic c) a w) :
    ∀ (f : Nat) (listed : Array Bool) (pend : List Pend) (a : Act) (w : World), Closed ops listed →
      (∀ j oj, ops[j]? = some oj → j ≠ i → listed.getD j true = false → (∀ e ∈ oj.after, Region.binds .any e = true → e.on ≠ i) → oi.apart ops oj = true) →
      i ∈ Region.ready .any ops listed → YieldsIf P ops (q.ok P) oi q.v a → q.ok P w → (∀ p ∈ pend, p.ok P w) →
      wpG P ops Q T f (listed.setIfInBounds i true) (q :: pend) (a.put oi.dst q.v) w → wpG P ops Q T (f + 1) listed pend a w := by
  intro f
  induction f with
  | zero =>
    intro listed pend a w _ _ hr hy hS hp H
    refine ⟨fun h => (by rw [h] at hr; cases hr), fun j hj => ?_⟩
    by_cases hji : j = i
    · subst hji; exact hy.wpOp hi hS ⟨fun p hp' _ => hp p hp', H⟩
    · have := ready_mono hj hji
      rw [H.1] at this
      cases this
  | succ f ih =>
    intro listed pend a w hc hfree hr hy hS hp H
    refine ⟨fun h => (by rw [h] at hr; cases hr), fun j hj => ?_⟩
    by_cases hji : j = i
    · subst hji
      exact hy.wpOp hi hS ⟨fun p hp' _ => hp p hp', wpG_sub _ _ _ _ _ _ (fun p hp' => List.mem_cons_of_mem _ (List.mem_filter.1 hp').1) H⟩
    · have h1 := H.2 j (ready_mono hj hji)
      obtain ⟨hjun, oj, hoj, hall⟩ := mem_ready.1 hj
      have hiun := (mem_ready.1 hr).1
      have hnot : ∀ e ∈ oj.after, Region.binds .any e = true → e.on ≠ i := fun e he hb heq => by
        have h1 := hall e he hb
        rw [heq, getD_flip hiun] at h1
        cases h1
      have hlat : later T j q.i = false := by
        cases hl : later T j q.i with
        | false => rfl
        | true =>
          have := later_listed hT hc j oj q.i hoj hall hl
          rw [hqi, getD_flip hiun] at this
          cases this
      have h2 := wpOp_putIf hoj (hfree j oj hoj hji hjun hnot) (fun cs b => hsel i oi cs b hi) (fun cs b => hsel j oj cs b hoj) (fun c a w h => (hQ c _ w h).elim) hy h1
      have hfree' : ∀ k ok, ops[k]? = some ok → k ≠ i → (listed.setIfInBounds j true).getD k true = false →
          (∀ e ∈ ok.after, Region.binds .any e = true → e.on ≠ i) → oi.apart ops ok = true := fun k ok hk hki hun hno => by
        refine hfree k ok hk hki ?_ hno
        by_cases hjk : j = k
        · subst hjk; exact hjun
        · rw [getD_set_ne true hjk] at hun; exact hun
      refine wpOp_mono (fun a' w' h3 => ?_) h2
      obtain ⟨hy', hob, hG⟩ := h3
      have hS' : q.ok P w' := hob q (List.mem_cons_self ..) hlat
      refine ⟨fun p hp' hl => hob p (List.mem_cons_of_mem _ hp') hl, ih (listed.setIfInBounds j true) _ a' w' (closed_set hc hj) hfree' (ready_mono hr (Ne.symm hji)) hy' hS' (fun p hp' => ?_) ?_⟩
      · rw [List.mem_filter] at hp'
        exact hob p (List.mem_cons_of_mem _ hp'.1) (by simpa using hp'.2)
      · rw [Array.setIfInBounds_comm _ _ hji]
        simpa [List.filter_cons, hlat] using hG
end
inductive Stp where
 | p (i:Nat)
 | l (i:Nat)
 | e (i:Nat)
def canB(ops:Array Oper):List Stp→Array Bool→Bool
 |[],listed=>(Region.ready .any ops listed).isEmpty
 | .p i::r,listed | .l i::r,listed=>(Region.ready .any ops listed).contains i&&(Region.free .any ops listed i&&canB ops r (listed.setIfInBounds i true))
 | .e i::r,listed=>decide (Region.ready .any ops listed=[i])&&canB ops r (listed.setIfInBounds i true)
def WC (P : Program) (n : Nat) (ops : Array Oper) (T : List (List Nat)) (K : Env → World → Prop) : List Stp → List Pend → Env → World → Prop
  | [], _, e, w => K e w
  | .p i :: r, pend, e, w => ∃ o, ops[i]? = some o ∧ dstB n o.dst = true ∧
      if wantedE ops o e then ∃ v, (∀ w, (execOp (evl e) o).run P w = .ok (.value v) w) ∧ WC P n ops T K r pend (pute e o.dst v) w
      else WC P n ops T K r pend (pute e o.dst undef) w
  | .l i :: r, pend, e, w => ∃ o, ops[i]? = some o ∧ dstB n o.dst = true ∧
      if wantedE ops o e then ∃ v, (execOp (evl e) o).run P w = .ok (.value v) w ∧ WC P n ops T K r (⟨i, execOp (evl e) o, v⟩ :: pend) (pute e o.dst v) w
      else WC P n ops T K r pend (pute e o.dst undef) w
  | .e i :: r, pend, e, w => ∃ o, ops[i]? = some o ∧ dstB n o.dst = true ∧
      if wantedE ops o e then stepE P (execOp (evl e) o) w fun v w' => (∀ p ∈ pend.filter fun p => !later T i p.i, p.ok P w') ∧ WC P n ops T K r (pend.filter fun p => !later T i p.i) (pute e o.dst v) w'
      else WC P n ops T K r pend (pute e o.dst undef) w
section
variable {P : Program} {n : Nat} {ops : Array Oper} {T : List (List Nat)} {K : Env → World → Prop}
theorem WC_sound (hT : tableB ops T = true) (hs : Region.noSelect ops = true) : ∀ (σ : List Stp) (listed : Array Bool) (pend : List Pend) (e : Env) (w : World) (a : Act),
    Closed ops listed → canB ops σ listed = true → (∀ p ∈ pend, p.ok P w) → Rep n a e → WC P n ops T K σ pend e w → wpG P ops (Qr n K) T σ.length listed pend a w
  | [], listed, pend, e, w, a, hc, hB, hp, ha, h => ⟨by simpa [canB] using hB, e, ha, h⟩
  | .p i :: r, listed, pend, e, w, a, hc, hB, hp, ha, h => by
    simp only [canB, Bool.and_eq_true] at hB
    obtain ⟨hr, hf, hB'⟩ := hB
    obtain ⟨o, ho, hd, h⟩ := h
    have hr' : i ∈ Region.ready .any ops listed := by simpa using hr
    by_cases hw : wantedE ops o e = true
    · simp only [hw, if_true] at h
      obtain ⟨v, hv, h⟩ := h
      have hq : ∀ w, (⟨i, execOp (evl e) o, v⟩ : Pend).ok P w := hv
      refine wpG_first (q := ⟨i, execOp (evl e) o, v⟩) hT rfl ho (Region.noSelect_spec hs) (fun _ _ _ h => h) r.length listed pend a w hc (Region.free_spec ho hf) hr' ?_ (hq w) hp ?_
      · exact .inl ⟨by rw [ha.wanted]; exact hw, fun w hw' => by rw [ha.eval]; exact hw'⟩
      · exact wpG_add hq _ _ _ _ _ (WC_sound hT hs r _ pend _ w _ (closed_set hc hr') hB' hp (ha.put hd v) h)
    · simp only [hw, if_false, Bool.false_eq_true] at h
      have hq : ∀ w, (⟨i, .pure (.value undef), undef⟩ : Pend).ok P w := fun w => rfl
      refine wpG_first (q := ⟨i, .pure (.value undef), undef⟩) hT rfl ho (Region.noSelect_spec hs) (fun _ _ _ h => h) r.length listed pend a w hc (Region.free_spec ho hf) hr' ?_ (hq w) hp ?_
      · exact .inr ⟨by rw [ha.wanted]; simpa using hw, rfl⟩
      · exact wpG_add hq _ _ _ _ _ (WC_sound hT hs r _ pend _ w _ (closed_set hc hr') hB' hp (ha.put hd undef) h)
  | .l i :: r, listed, pend, e, w, a, hc, hB, hp, ha, h => by
    simp only [canB, Bool.and_eq_true] at hB
    obtain ⟨hr, hf, hB'⟩ := hB
    obtain ⟨o, ho, hd, h⟩ := h
    have hr' : i ∈ Region.ready .any ops listed := by simpa using hr
    by_cases hw : wantedE ops o e = true
    · simp only [hw, if_true] at h
      obtain ⟨v, hv, h⟩ := h
      refine wpG_first (q := ⟨i, execOp (evl e) o, v⟩) hT rfl ho (Region.noSelect_spec hs) (fun _ _ _ h => h) r.length listed pend a w hc (Region.free_spec ho hf) hr' ?_ hv hp ?_
      · exact .inl ⟨by rw [ha.wanted]; exact hw, fun w hw' => by rw [ha.eval]; exact hw'⟩
      · exact WC_sound hT hs r _ _ _ w _ (closed_set hc hr') hB' (fun p hp' => by
          rcases List.mem_cons.1 hp' with rfl | hp'
          · exact hv
          · exact hp p hp') (ha.put hd v) h
    · simp only [hw, if_false, Bool.false_eq_true] at h
      have hq : ∀ w, (⟨i, .pure (.value undef), undef⟩ : Pend).ok P w := fun w => rfl
      refine wpG_first (q := ⟨i, .pure (.value undef), undef⟩) hT rfl ho (Region.noSelect_spec hs) (fun _ _ _ h => h) r.length listed pend a w hc (Region.free_spec ho hf) hr' ?_ (hq w) hp ?_
      · exact .inr ⟨by rw [ha.wanted]; simpa using hw, rfl⟩
      · exact wpG_add hq _ _ _ _ _ (WC_sound hT hs r _ pend _ w _ (closed_set hc hr') hB' hp (ha.put hd undef) h)
  | .e i :: r, listed, pend, e, w, a, hc, hB, hp, ha, h => by
    simp only [canB, Bool.and_eq_true, decide_eq_true_eq] at hB
    obtain ⟨hr, hB'⟩ := hB
    obtain ⟨o, ho, hd, h⟩ := h
    have hr' : i ∈ Region.ready .any ops listed := by rw [hr]; simp
    refine ⟨fun h0 => (by rw [h0] at hr; cases hr), fun j hj => ?_⟩
    have hji : j = i := by rw [hr] at hj; simpa using hj
    subst hji
    unfold wpOp
    simp only [ho, ha.wanted]
    by_cases hw : wantedE ops o e = true
    · simp only [hw, if_true] at h ⊢
      refine .inl (oper_wp (K := fun e' w' => ∃ v, e' = pute e o.dst v ∧ (∀ p ∈ pend.filter fun p => !later T j p.i, p.ok P w') ∧ WC P n ops T K r (pend.filter fun p => !later T j p.i) (pute e o.dst v) w') ha hd ?_ (stepE_mono h fun v w' hv => ⟨v, rfl, hv⟩))
      rintro a' e' w' hrep ⟨v, rfl, hob, hC⟩
      exact ⟨fun p hp' hl => hob p (List.mem_filter.2 ⟨hp', by simp [hl]⟩), WC_sound hT hs r _ _ _ w' a' (closed_set hc hr') hB' hob hrep hC⟩
    · simp only [hw, if_false, Bool.false_eq_true] at h ⊢
      exact ⟨fun p hp' _ => hp p hp', wpG_sub _ _ _ _ _ _ (fun p hp' => (List.mem_filter.1 hp').1) (WC_sound hT hs r _ pend _ w _ (closed_set hc hr') hB' hp (ha.put hd undef) h)⟩
def drawB(ops:Array Oper)(T:List (List Nat))(σ:List Stp):Bool:=
 Nat.beq σ.length ops.size&&(tableB ops T&&(Region.noSelect ops&&canB ops σ (Array.replicate ops.size false)))
theorem closed_start:Closed ops (Array.replicate ops.size false):=by
 intro j oj _ hl
 rcases Nat.lt_or_ge j ops.size with h | h
 ·simp[h]at hl
 ·simp[h]at hl
theorem W_draw {id : Nat} {K' : Post} {e : Env} {w : World} (hm : P.follows .mixedOrders = true) (T : List (List Nat)) (σ : List Stp) (hB : drawB ops T σ = true)
    (h : WC P n ops T (K' .normal) σ [] e { w with drawn := w.drawn + 1 }) : W P n (.region id ops true) K' e w := by
  simp only [drawB, Bool.and_eq_true] at hB
  obtain ⟨hl, hT, hs, hc⟩ := hB
  intro a ha
  refine wp_mono (wp_region_any hm ?_) (Qr_Kx (K := K' .normal) fun _ _ h => h)
  have := WC_sound (K := K' .normal) hT hs σ (Array.replicate ops.size false) [] e _ a closed_start hc (fun p hp => by cases hp) ha h
  rw [Nat.eq_of_beq_eq_true hl] at this
  exact wpAny_of_G _ _ _ _ _ this
theorem W_drawseq {id : Nat} {y : Code} {K' : Post} {e : Env} {w : World} (hm : P.follows .mixedOrders = true) (T : List (List Nat)) (σ : List Stp) (hB : drawB ops T σ = true)
    (h : WC P n ops T (W P n y K') σ [] e { w with drawn := w.drawn + 1 }) : W P n (.seq (.region id ops true) y) K' e w :=
  W_seq (W_draw (K' := seqK (W P n y K') K') hm T σ hB h)
end
@[reducible] def retK (fn : Func) (P : Program) (n : Nat) (R : Value → World → Prop) : Post
 | .normal | .ret=>fun e w=>∀a,Rep n a e→∃v,(results fn a.tmps).run P w= .ok v w∧R v w
 | _=>fun _ _=>False
def argsE(args:List Value):Env:=fun t=>args.getD t undef
theorem calls_W {P : Program} {f : FuncId} {fn : Func} {c : Code} {args : List Value} {w : World} {R : Value → World → Prop} {n : Nat}
    (hf : P.funcs[f]? = some fn) (hb : fn.body = some c) (hn : fn.ntmps = n) (hle : Nat.ble args.length n = true)
    (h : W P n c (retK fn P n R) (argsE args) w) : Calls P f args.toArray w fun en w' => ∃ v, en = .returned v ∧ R v w' := by
  have hle' : args.length ≤ n := by simpa using hle
  refine calls_of_wp hf hb (wp_mono (h _ ?_) ?_)
  · refine ⟨by simp [hn]; omega, rfl, fun t => ?_⟩
    simp only [argsE]
    by_cases ht : t < args.length
    · simp [Array.getElem?_append, ht]
    · simp [Array.getElem?_append, ht, Array.getElem?_replicate]
      split <;> rfl
  · rintro ex a w' ⟨e, hr, hk⟩
    cases ex <;> first | exact hk.elim | (obtain ⟨v, hv, hR⟩ := hk a hr; exact ⟨hr.defers, v, hv, v, rfl, hR⟩)
theorem ret1{fn:Func}{P:Program}{n:Nat}{R:Value→World→Prop}{e:Env}{w:World}{t:Tmp}(h:fn.results= #[.tmp t]){v:Value}(hv:e t=v)(hR:R v w):retK fn P n R .ret e w:=
 fun a ha=>⟨_,results_tmp h a.tmps P w,by rw[ha.get,hv];exact hR⟩
end Go.Wx
namespace Go.Wx
open Go
def tyk(P:Program)(t:TypeId):Option (Bool × Nat):=
 match P.underlying t,P.info? t with
 | some (.struct _),some i=>some (true,i.size)
 | some (.array _ _),some i=>some (true,i.size)
 | some _,some i=>some (false,i.size)
 | _,_=>none
section
variable {P : Program} {w : World}
theorem tyk_run{t:TypeId}{b:Bool}{n:Nat}(h:tyk P t=some (b,n)):(isAgg t).run P w= .ok b w∧(sizeOf t).run P w= .ok n w:=by
 unfold tyk at h
 unfold isAgg sizeOf underlying typeInfo
 simp only[bind,Sem.bind,Go.program,Sem.run]
 cases hu:P.underlying t with
 | none=>simp[hu]at h
 | some d=>
  cases hi:P.info? t with
  | none=>simp[hu,hi]at h
  | some i=>
   cases d<;>simp_all[pure,Sem.bind]
def Cells(w:World)(a:Addr)(vs:List Value):Prop:=∀i v,vs[i]? =some v→w.cell? (a.add i)=some v
theorem run_bind{α β:Type}(s:Sem α)(f:α→Sem β):∀(w:World),(s>>=f).run P w=match s.run P w with | .ok a w'=>(f a).run P w' | .halt h w'=> .halt h w':=by
 intro w
 show(Sem.bind s f).run P w=_
 induction s generalizing w with
 | pure a=>rfl
 | load m a k ih=>simp only[Sem.bind,Sem.run];split<;>first | exact ih _ _ | (split<;>first | exact ih _ _ | rfl)
 | store m a v k ih=>
  cases v<;>simp only[Sem.bind,Sem.run]<;>(split<;>first | rfl | (split<;>first | rfl | exact ih _) | skip)
 | new o k ih=>exact ih _ _
 | shape r k ih=>exact ih _ _
 | freeze a n k ih=>exact ih _
 | frozen a k ih=>exact ih _ _
 | getObj r k ih=>simp only[Sem.bind,Sem.run];split<;>first | rfl | exact ih _ _
 | setObj r o k ih=>simp only[Sem.bind,Sem.run];split<;>first | rfl | exact ih _
 | choose q k ih=>simp only[Sem.bind,Sem.run];split<;>exact ih _ _
 | sys c k ih=>exact ih _ _
 | program k ih=>exact ih _ _
 | mark m k ih=>exact ih _
 | halt h=>rfl
theorem run_pure{α:Type}(a:α)(w:World):(Pure.pure a:Sem α).run P w= .ok a w:=rfl
theorem run_load{a:Addr}{v:Value}(h:w.cell? a=some v):(load a).run P w= .ok v w:=by
 show(Sem.load _ _ _).run P w=_
 simp only[Sem.run,h]
theorem run_loadCellsFrom {a : Addr} : ∀ (n i : Nat) (acc : Array Value) (vs : List Value), vs.length = n → (∀ j v, vs[j]? = some v → w.cell? (a.add (i + j)) = some v) →
    (loadCellsFrom a i n acc).run P w = .ok (acc ++ vs.toArray) w
  | 0, i, acc, vs, hl, _ => by
    cases vs with
    | nil => simp only [loadCellsFrom, run_pure]; simp
    | cons _ _ => simp at hl
  | n + 1, i, acc, vs, hl, h => by
    cases vs with
    | nil => simp at hl
    | cons v vs =>
      have h0 := h 0 v rfl
      rw [Nat.add_zero] at h0
      simp only [loadCellsFrom, run_bind, run_load h0]
      rw [run_loadCellsFrom n (i + 1) (acc.push v) vs (by simpa using hl) (fun j u hu => by have := h (j + 1) u (by simpa using hu); rwa [show i + 1 + j = i + (j + 1) by omega])]
      simp
theorem run_loadVar1{t:TypeId}{n:Nat}(ht:tyk P t=some (false,n)){a:Addr}{v:Value}(h:w.cell? a=some v):(loadVar t a).run P w= .ok v w:=by
 unfold loadVar
 simp only[run_bind,(tyk_run (w:=w) ht).1]
 exact run_load h
theorem run_loadVarN{t:TypeId}{n:Nat}(ht:tyk P t=some (true,n)){a:Addr}{vs:List Value}(hn:vs.length=n)(h:Cells w a vs):(loadVar t a).run P w= .ok (.agg vs.toArray) w:=by
 unfold loadVar
 simp only[run_bind,(tyk_run (w:=w) ht).1,if_true,(tyk_run (w:=w) ht).2]
 unfold loadCells
 simp only[run_loadCellsFrom (P:=P) n 0 #[] vs hn (fun j v hv=>by rw[Nat.zero_add];exact h j v hv),run_pure]
 simp
def setB(w:World)(b:Nat)(o:Obj):World:={w with heap:=w.heap.setIfInBounds b o}
def putAt(c:Array Value)(off:Nat):List Value→Array Value
 |[]=>c
 | v::vs=>putAt (c.setIfInBounds off v) (off+1) vs
theorem size_putAt:∀(vs:List Value) (c:Array Value) (off:Nat),(putAt c off vs).size=c.size
 |[],_,_=>rfl
 | v::vs,c,off=>by rw[putAt,size_putAt vs];simp
theorem get_putAt : ∀ (vs : List Value) (c : Array Value) (off i : Nat), off + vs.length ≤ c.size →
    (putAt c off vs)[i]? = if off ≤ i ∧ i < off + vs.length then vs[i - off]? else c[i]?
  | [], c, off, i, _ => by rw [putAt, if_neg]; simp
  | v :: vs, c, off, i, h => by
    rw [putAt, get_putAt vs _ _ _ (by simp at h ⊢; omega)]
    simp only [List.length_cons] at h ⊢
    by_cases h1 : off + 1 ≤ i ∧ i < off + 1 + vs.length
    · rw [if_pos h1, if_pos (by omega), show i - off = (i - (off + 1)) + 1 by omega]; rfl
    · rw [if_neg h1]
      by_cases h2 : i = off
      · subst h2; rw [if_pos (by omega), Array.getElem?_setIfInBounds_self_of_lt (by omega)]; simp
      · rw [if_neg (by omega), Array.getElem?_setIfInBounds_ne (by omega)]
theorem setB_setB(w:World)(b:Nat)(o o':Obj):setB (setB w b o) b o'=setB w b o':=by simp[setB]
theorem setB_self{b:Nat}{o:Obj}(h:w.heap[b]? =some o):setB w b o=w:=by
 unfold setB
 congr 1
 apply Array.ext_getElem?
 intro i
 by_cases hi:b=i
 ·subst hi
  have hlt:=(Array.getElem?_eq_some_iff.1 h).1
  rw[Array.getElem?_setIfInBounds_self_of_lt hlt,h]
 ·rw[Array.getElem?_setIfInBounds_ne hi]
theorem getElem_setB_self{b:Nat}{o o':Obj}(h:w.heap[b]? =some o):(setB w b o').heap[b]? =some o':=by
 have hlt:=(Array.getElem?_eq_some_iff.1 h).1
 simp[setB,hlt]
theorem getElem_setB_ne{b k:Nat}{o:Obj}(h:k≠b):(setB w b o).heap[k]? =w.heap[k]? :=by
 simp[setB,Array.getElem?_setIfInBounds_ne (Ne.symm h)]
theorem size_setB{b:Nat}{o:Obj}:(setB w b o).heap.size=w.heap.size:=by simp[setB]
theorem cell_blk{b i:Nat}{c:Array Value}{T:TypeId}{fr:Nat × Nat}{v:Value}(h:w.heap[b]? =some (.cells c T fr))(hc:c[i]? =some v):w.cell? ⟨b,i,none⟩=some v:=by
 simp[World.cell?,h,hc]
theorem Addr_add_none(b o n:Nat):(⟨b,o,none⟩:Addr).add n=⟨b,o+n,none⟩:=by
 unfold Addr.add;split<;>simp_all
theorem setCell_eq_setB {b off : Nat} {c : Array Value} {T : TypeId} {fr : Nat × Nat} (h : w.heap[b]? = some (.cells c T fr)) (v : Value) :
    w.setCell ⟨b, off, none⟩ v = setB w b (.cells (c.setIfInBounds off v) T fr) := by
  unfold World.setCell setB
  congr 1
  apply Array.ext_getElem?
  intro i
  have hlt := (Array.getElem?_eq_some_iff.1 h).1
  by_cases hi : b = i
  · subst hi
    rw [Array.getElem?_setIfInBounds_self_of_lt hlt, Array.getElem?_modify, if_pos rfl, h]
    rfl
  · rw [Array.getElem?_setIfInBounds_ne hi, Array.getElem?_modify, if_neg hi]
theorem run_storeCells : ∀ (vs : List Value) (i : Nat) {w : World} {b off : Nat} {c : Array Value} {T : TypeId}, w.heap[b]? = some (.cells c T (0, 0)) → off + i + vs.length ≤ c.size → (∀ v ∈ vs, v.oneCell' = true) →
    (storeCells ⟨b, off, none⟩ vs i).run P w = .ok () (setB w b (.cells (putAt c (off + i) vs) T (0, 0)))
  | [], i, w, b, off, c, T, h, _, _ => by
    simp only [storeCells, putAt, run_pure]
    rw [setB_self h]
  | v :: vs, i, w, b, off, c, T, h, hl, h1 => by
    simp only [List.length_cons] at hl
    simp only [storeCells, run_bind]
    have hcell : w.cell? ((⟨b, off, none⟩ : Addr).add i) = some (c[off + i]'(by omega)) := by
      rw [Addr_add_none]; exact cell_blk h (Array.getElem?_eq_getElem (by omega))
    have hfro : w.frozen? ((⟨b, off, none⟩ : Addr).add i) = false := by
      rw [Addr_add_none]; simp [World.frozen?, h]
    have hs : (store ((⟨b, off, none⟩ : Addr).add i) v).run P w = .ok () (setB w b (.cells (c.setIfInBounds (off + i) v) T (0, 0))) := by
      have hv : v.oneCell' = true := h1 v (List.mem_cons_self ..)
      rw [← setCell_eq_setB h]
      show (Sem.store _ _ v _).run P w = _
      cases v <;> first | (simp [Value.oneCell'] at hv; done) | (simp only [Sem.run, hcell, hfro]; rw [Addr_add_none]; rfl)
    simp only [hs]
    have h' : (setB w b (.cells (c.setIfInBounds (off + i) v) T (0, 0))).heap[b]? = some (.cells (c.setIfInBounds (off + i) v) T (0, 0)) := getElem_setB_self h
    rw [run_storeCells vs (i + 1) h' (by simp; omega) (fun u hu => h1 u (List.mem_cons_of_mem _ hu))]
    rw [setB_setB, putAt, show off + (i + 1) = off + i + 1 by omega]
theorem run_storeVar {t : TypeId} {g : Bool} {n : Nat} (ht : tyk P t = some (g, n)) {b off : Nat} {c : Array Value} {T : TypeId} (h : w.heap[b]? = some (.cells c T (0, 0))) {v : Value}
    {vs : List Value} (hv : v.cells.toList = vs) (hn : vs.length = n) (hl : off + vs.length ≤ c.size) (h1 : ∀ v ∈ vs, v.oneCell' = true) :
    (storeVar t ⟨b, off, none⟩ v).run P w = .ok () (setB w b (.cells (putAt c off vs) T (0, 0))) := by
  unfold storeVar
  subst hv
  simp only [run_bind, (tyk_run (w := w) ht).2]
  rw [if_neg (by simp at hn; simp [hn])]
  simpa using run_storeCells (P := P) v.cells.toList 0 h (by simpa using hl) h1
variable {e : Env} {o : Oper}
theorem ex_load{t:TypeId}{x:Operand}(ho:o.op= .load t x){a:Addr}(hx:evl e x= .pointer (some a)){v:Value}(h:(loadVar t a).run P w= .ok v w):(execOp (evl e) o).run P w= .ok (.value v) w:=by
 unfold execOp
 simp only[ho,hx,run_bind,Instr.loadAt,Instr.sureAddr,run_pure,h]
theorem ex_load1{t:TypeId}{n:Nat}(ht:tyk P t=some (false,n)){x:Operand}(ho:o.op= .load t x){a:Addr}(hx:evl e x= .pointer (some a)){v:Value}(h:w.cell? a=some v):(execOp (evl e) o).run P w= .ok (.value v) w:=
 ex_load ho hx (run_loadVar1 ht h)
theorem ex_store {t : TypeId} {g : Bool} {n : Nat} (ht : tyk P t = some (g, n)) {x y : Operand} (ho : o.op = .store t x y) {b off : Nat} (hx : evl e x = .pointer (some ⟨b, off, none⟩)) {v : Value} (hy : evl e y = v)
    {c : Array Value} {T : TypeId} (h : w.heap[b]? = some (.cells c T (0, 0))) {vs : List Value} (hv : v.cells.toList = vs) (hn : vs.length = n) (hl : off + vs.length ≤ c.size) (h1 : ∀ v ∈ vs, v.oneCell' = true) :
    (execOp (evl e) o).run P w = .ok .skip (setB w b (.cells (putAt c off vs) T (0, 0))) := by
  unfold execOp
  simp only [ho, hx, hy, run_bind, Instr.storeAt, Instr.sureAddr, run_pure, run_storeVar ht h hv hn hl h1]
def slk(P:Program)(t:TypeId):Option (TypeId × Nat):=
 match P.underlying t with
 | some (.slice e)=>(P.info? e).map fun i=>(e,i.size)
 | _=>none
theorem slk_spec{t e:TypeId}{n:Nat}(h:slk P t=some (e,n)):P.underlying t=some (.slice e)∧∃i,P.info? e=some i∧i.size=n:=by
 unfold slk at h
 split at h
 ·rename_i e' hu
  cases hi:P.info? e' with
  | none=>simp[hi]at h
  | some i=>simp[hi]at h;obtain⟨rfl,rfl⟩:=h;exact⟨hu,i,hi,rfl⟩
 ·cases h
theorem ex_index {t el : TypeId} {sz : Nat} (ht : slk P t = some (el, sz)) {x y : Operand} (ho : o.op = .indexAddr t x y) {a : Addr} {n c : Nat} (hx : evl e x = .slice (some a) n c) {k : IntKind} {i : Int} (hy : evl e y = .int k i)
    (h0 : 0 ≤ i) (hn : i < n) : pureRun P (execOp (evl e) o) = some (.value (.pointer (some (a.add (i.toNat * sz))))) := by
  obtain ⟨hu, inf, hi, rfl⟩ := slk_spec ht
  unfold execOp
  simp [ho, hx, hy, Instr.indexAt, asIntOf, underlying, sizeOf, typeInfo, hu, hi, h0, hn, pureRun, bind, Sem.bind, pure, Go.program]
end
section
variable {P : Program} {n : Nat} {ops : Array Oper} {K : Env → World → Prop} {rest : List Oper} {o : Oper} {e : Env} {w : World} {T : List (List Nat)} {pend : List Pend} {r : List Stp}
def Agree(e:Env):List (Nat × Value)→Prop
 |[]=>True
 | p::l=>e p.1=p.2∧Agree e l
theorem Agree.eq:∀{l:List (Nat × Value)} {e:Env},Agree e l→e=upds e l
 |[],_,_=>rfl
 | p::l,e,h=>by rw[upds,upd_same h.1];exact Agree.eq h.2
theorem W_condB{c:Operand}{x y:Code}{b:Bool}{K:Post}(hc:evl e c= .bool b)(ht:b=true→W P n x K e w)(hf:b=false→W P n y K e w):W P n (.cond c x y) K e w:=by
 cases b with
 | true=>exact W_cond hc (ht rfl)
 | false=>exact W_cond hc (hf rfl)
theorem W_loopI{c:Code}{K:Post}(I:Nat→Env→World→Prop)(k:Nat)(h0:∀e w,I 0 e w→False)(hI:I k e w)(hr:∀k e w,I (k+1) e w→W P n c (seqK (I k) K) e w):W P n (.loop c) K e w:=by
 refine W_loop (k:=k) ?_
 induction k generalizing e w with
 | zero=>exact(h0 _ _ hI).elim
 | succ k ih=>exact W_mono (hr k e w hI) fun ex e w hk=>by cases ex<;>first | exact ih hk | exact hk
theorem blockK_hit{id:Nat}{K:Post}(h:K .normal e w):blockK id K (.exit id) e w:=by simp only[blockK,if_true];exact h
theorem blockK_ret{id:Nat}{K:Post}(h:K .ret e w):blockK id K .ret e w:=h
theorem seqK_ret{A:Env→World→Prop}{K:Post}(h:K .ret e w):seqK A K .ret e w:=h
theorem blockK_normal{id:Nat}{K:Post}(h:K .normal e w):blockK id K .normal e w:=h
theorem WO_case(c:Nat){b:Bool}(hc:e c= .bool b)(ht:b=true→WO P n ops K rest (upds e [(c,.bool true)]) w)(hf:b=false→WO P n ops K rest (upds e [(c,.bool false)]) w):WO P n ops K rest e w:=by
 cases b with
 | true=>have:=ht rfl;rwa[upds,upds,upd_same hc]at this
 | false=>have:=hf rfl;rwa[upds,upds,upd_same hc]at this
theorem WO_p{v:Value}(hw:wantedE ops o e=true)(hd:dstB n o.dst=true)(hr:pureRun P (execOp (evl e) o)=some (.value v))(h:WO P n ops K rest (pute e o.dst v) w):WO P n ops K (o::rest) e w:=
 WO_val hw hd (pureRun_run P _ hr w) h
theorem WC_nil(h:K e w):WC P n ops T K [] pend e w:=h
def csteps(P:Program)(n:Nat)(ops:Array Oper):List Stp→Env→Option Env
 |[],e=>some e
 | .p i::r,e=>match ops[i]? with
  | some o=>cond (dstB n o.dst)
   (cond (wantedE ops o e)
    (match pureRun P (execOp (evl e) o)with
    | some (.value v)=>csteps P n ops r (pute e o.dst v)
    | _=>none)
    (csteps P n ops r (pute e o.dst undef)))
   none
  | none=>none
 | _,_=>none
theorem WC_csteps:∀(l:List Stp) {e e':Env},csteps P n ops l e=some e'→WC P n ops T K r pend e' w→WC P n ops T K (l++r) pend e w
 |[],e,e',h,hk=>by simp only[csteps,Option.some.injEq]at h;subst h;exact hk
 | .l _::l,e,e',h,hk=>by simp[csteps]at h
 | .e _::l,e,e',h,hk=>by simp[csteps]at h
 | .p i::l,e,e',h,hk=>by
  simp only[csteps]at h
  split at h
  ·rename_i o ho
   cases hd:dstB n o.dst with
   | false=>rw[hd]at h;cases h
   | true=>
    rw[hd]at h
    simp only[cond_true]at h
    refine⟨o,ho,hd,?_⟩
    cases hw:wantedE ops o e with
    | false=>
     rw[hw]at h
     exact WC_csteps l h hk
    | true=>
     rw[hw]at h
     simp only[cond_true]at h
     split at h
     ·rename_i v hv
      exact⟨v,pureRun_run P _ hv,WC_csteps l h hk⟩
     ·cases h
  ·cases h
theorem WC_pures{l:List Stp}(k:Nat)(u:List (Nat × Value))(h:csteps P n ops (l.take k) e=some (upds e u))(hk:WC P n ops T K (l.drop k) pend (upds e u) w):WC P n ops T K l pend e w:=by
 have:=WC_csteps (r:=l.drop k) (l.take k) h hk
 rwa[List.take_append_drop]at this
theorem WC_l{i:Nat}{v:Value}(ho:ops[i]? =some o)(hd:dstB n o.dst=true)(hw:wantedE ops o e=true)(hr:(execOp (evl e) o).run P w= .ok (.value v) w)(h:WC P n ops T K r (⟨i,execOp (evl e) o,v⟩::pend) (pute e o.dst v) w):WC P n ops T K (.l i::r) pend e w:=
 ⟨o,ho,hd,by rw[hw];exact⟨v,hr,h⟩⟩
def pfilter(T:List (List Nat))(i:Nat):List Pend→List Pend
 |[]=>[]
 | p::l=>cond (later T i p.i) (pfilter T i l) (p::pfilter T i l)
theorem pfilter_eq(T:List (List Nat))(i:Nat):∀l:List Pend,(l.filter fun p=> !later T i p.i)=pfilter T i l
 |[]=>rfl
 | p::l=>by
  simp only[List.filter_cons,pfilter,pfilter_eq T i l]
  cases later T i p.i<;>simp
def AllOk(P:Program)(w:World):List Pend→Prop
 |[]=>True
 | p::l=>p.ok P w∧AllOk P w l
theorem AllOk.mem{l:List Pend}(h:AllOk P w l):∀p∈l,p.ok P w:=by
 induction l with
 | nil=>intro p hp;cases hp
 | cons q l ih=>
  intro p hp
  rcases List.mem_cons.1 hp with rfl | hp
  ·exact h.1
  ·exact ih h.2 p hp
theorem Pend_ok{i:Nat}{s:Sem Next}{v:Value}(h:s.run P w= .ok (.value v) w):Pend.ok P ⟨i,s,v⟩ w:=h
theorem AllOk.nil:AllOk P w []:=trivial
theorem AllOk.cons{p:Pend}{l:List Pend}(h:p.ok P w)(k:AllOk P w l):AllOk P w (p::l):=⟨h,k⟩
theorem WC_e {i : Nat} (ho : ops[i]? = some o) (hd : dstB n o.dst = true) (hw : wantedE ops o e = true)
    (h : stepE P (execOp (evl e) o) w fun v w' => AllOk P w' (pfilter T i pend) ∧ WC P n ops T K r (pfilter T i pend) (pute e o.dst v) w') : WC P n ops T K (.e i :: r) pend e w :=
  ⟨o, ho, hd, by rw [hw]; exact stepE_mono h fun v w' ⟨h1, h2⟩ => by rw [pfilter_eq]; exact ⟨h1.mem, h2⟩⟩
theorem stepE_val{s:Sem Next}{v:Value}{w':World}{K:Value→World→Prop}(h:s.run P w= .ok (.value v) w')(hK:K v w'):stepE P s w K:=by unfold stepE;rw[h];exact hK
theorem stepE_skip{s:Sem Next}{w':World}{K:Value→World→Prop}(h:s.run P w= .ok .skip w')(hK:K undef w'):stepE P s w K:=by unfold stepE;rw[h];exact hK
theorem stepE_call{s:Sem Next}{f:FuncId}{args:Array Value}{K:Value→World→Prop}(h:s.run P w= .ok (.enter f args) w)(hK:Calls P f args w fun en w''=>∃v,en= .returned v∧K v w''):stepE P s w K:=by unfold stepE;rw[h];exact hK
end
def NN(p:Option Addr)(K:Addr→Prop):Prop:=∃a,p=some a∧K a
def LdI(k:IntKind)(w:World)(a:Addr)(K:Int→Prop):Prop:=∃x,w.cell? a=some (.int k x)∧K x
def St(w:World)(a:Addr)(vs:List Value)(K:World→Prop):Prop:=∃b off c T,a=⟨b,off,none⟩∧w.heap[b]? =some (.cells c T (0,0))∧off+vs.length≤c.size∧K (setB w b (.cells (putAt c off vs) T (0,0)))
def Al(w:World)(o:Obj)(K:Nat→World→Prop):Prop:=K w.heap.size (w.alloc o)
def Dr(w:World)(K:World→Prop):Prop:=K w.drew
def Ix(a:Option Addr)(n:Nat)(i:Int)(K:Addr→Prop):Prop:=∃b,a=some b∧0≤i∧i<n∧K b
def loB(lo:Option Int)(l:Nat):Prop:=match lo with | none=>l=0 | some i=>i=l
def hiB(hi:Option Int)(n h:Nat):Prop:=match hi with | none=>h=n | some i=>i=h
def Ifb(b:Bool)(A B:Prop):Prop:=(b=true→A)∧(b=false→B)
def Ap(P:Program)(w:World)(ts:Array TypeId)(t:TypeId)(x y:Value)(K:Option Addr→Nat→Nat→World→Prop):Prop:=
 ∃a n c w',(Builtin.append_ ts t #[x,y]).run P w= .ok (.slice a n c) w'∧K a n c w'
def Kp(b:Nat)(w w':World):Prop:=w'.heap[b]? =w.heap[b]?
def strEq(x y:ByteArray):Bool:=x.toList==y.toList
def strLt(x y:ByteArray):Bool:=Op.bytesLess x.toList y.toList
end Go.Wx
namespace Go.Wx
open Go
def Sb(w:World)(b:Nat)(o:Obj)(K:World→Prop):Prop:=K (setB w b o)
def Cl(P:Program)(f:FuncId)(args:Array Value)(w:World)(R:Value→World→Prop):Prop:=Calls P f args w fun en w'=>∃v,en= .returned v∧R v w'
def callB(P:Program)(f:FuncId):Bool:=
 match P.funcs[f]? with
 | some fn=> !(fn.name== "runtime.NumGoroutine")&&fn.body.isSome
 | none=>false
theorem Cl.mono{P:Program}{f:FuncId}{args:Array Value}{w:World}{R R':Value→World→Prop}(h:Cl P f args w R)(hr:∀v w',R v w'→R' v w'):Cl P f args w R':=
 Calls.mono h fun _ _ ⟨v,he,hv⟩=>⟨v,he,hr _ _ hv⟩
section
variable {P : Program} {n : Nat} {ops : Array Oper} {K : Env → World → Prop} {rest : List Oper} {o : Oper} {e : Env} {w : World} {T : List (List Nat)} {pend : List Pend} {r : List Stp}
theorem WO_conv(J:Env→World→Prop)(h:WO P n ops J rest e w)(hJ:∀e w,J e w→K e w):WO P n ops K rest e w:=by
 intro a ha
 have:=h a ha
 have hm:∀(l:List Oper) (a:Act) (w:World),wpList P ops (Qr n J) l a w→wpList P ops (Qr n K) l a w:=by
  intro l
  induction l with
  | nil=>intro a w h;obtain⟨e,hr,hj⟩:=h;exact⟨e,hr,hJ _ _ hj⟩
  | cons o l ih=>
   intro a w h
   simp only[wpList]at h ⊢
   split
   ·rename_i hw
    rw[if_pos hw]at h
    rcases h with h | ⟨h1,a0,w0,h2⟩
    ·refine .inl ?_
     have h:=Oper.wp_mono (fun a w=>ih a w) h
     unfold Oper.wp at h ⊢
     generalize (execOp a.eval o).run P w=rr at h ⊢
     cases rr with
     | ok nx w'=>
      cases nx<;>simp only[Oper.upon]at h ⊢<;>first
       | exact h
       | exact Calls.mono h (fun en w'' he=>by cases en<;>first | exact he | exact he.elim | (obtain⟨_,_,hq⟩:=he;exact hq.elim))
     | halt x w'=>cases x<;>simp only[Oper.upon]at h ⊢<;>exact h
    ·exact h2.elim
   ·rename_i hw
    rw[if_neg hw]at h
    exact ih _ _ h
 exact hm rest a w this
theorem WC_mono {K' : Env → World → Prop} (hJ : ∀ e w, K e w → K' e w) : ∀ (r : List Stp) (pend : List Pend) (e : Env) (w : World), WC P n ops T K r pend e w → WC P n ops T K' r pend e w
  | [], _, _, _, h => hJ _ _ h
  | .p i :: r, pend, e, w, ⟨o, ho, hd, h⟩ => ⟨o, ho, hd, by
      split
      · rename_i hw; rw [if_pos hw] at h; obtain ⟨v, hv, h⟩ := h; exact ⟨v, hv, WC_mono hJ r _ _ _ h⟩
      · rename_i hw; rw [if_neg hw] at h; exact WC_mono hJ r _ _ _ h⟩
  | .l i :: r, pend, e, w, ⟨o, ho, hd, h⟩ => ⟨o, ho, hd, by
      split
      · rename_i hw; rw [if_pos hw] at h; obtain ⟨v, hv, h⟩ := h; exact ⟨v, hv, WC_mono hJ r _ _ _ h⟩
      · rename_i hw; rw [if_neg hw] at h; exact WC_mono hJ r _ _ _ h⟩
  | .e i :: r, pend, e, w, ⟨o, ho, hd, h⟩ => ⟨o, ho, hd, by
      split
      · rename_i hw; rw [if_pos hw] at h; exact stepE_mono h fun v w' ⟨h1, h2⟩ => ⟨h1, WC_mono hJ r _ _ _ h2⟩
      · rename_i hw; rw [if_neg hw] at h; exact WC_mono hJ r _ _ _ h⟩
theorem WO_st {b : Nat} {o' : Obj} (hw : wantedE ops o e = true) (hd : dstB n o.dst = true) (hr : (execOp (evl e) o).run P w = .ok .skip (setB w b o'))
    (h : ∀ w', w' = setB w b o' → WO P n ops K rest (pute e o.dst undef) w') : WO P n ops K (o :: rest) e w := WO_unit hw hd hr (h _ rfl)
theorem WC_ev {i : Nat} {v : Value} {w' : World} (ho : ops[i]? = some o) (hd : dstB n o.dst = true) (hw : wantedE ops o e = true) (hr : (execOp (evl e) o).run P w = .ok (.value v) w')
    (h : AllOk P w' (pfilter T i pend) ∧ WC P n ops T K r (pfilter T i pend) (pute e o.dst v) w') : WC P n ops T K (.e i :: r) pend e w := WC_e ho hd hw (stepE_val hr h)
theorem WC_call {i : Nat} {f : FuncId} {args : Array Value} (ho : ops[i]? = some o) (hd : dstB n o.dst = true) (hw : wantedE ops o e = true) (hr : (execOp (evl e) o).run P w = .ok (.enter f args) w)
    (h : Calls P f args w fun en w'' => ∃ v, en = .returned v ∧ (AllOk P w'' (pfilter T i pend) ∧ WC P n ops T K r (pfilter T i pend) (pute e o.dst v) w'')) : WC P n ops T K (.e i :: r) pend e w := WC_e ho hd hw (stepE_call hr h)
end
section
variable {P : Program} {w w' : World} {b : Nat} {e : Env} {o : Oper}
theorem Al.at{ob:Obj}{K:Nat→World→Prop}(h:Al w ob K)(eb:b=w.heap.size)(ew:w'=w.alloc ob):K b w':=by subst eb;subst ew;exact h
theorem Sb.at{ob:Obj}{K:World→Prop}(h:Sb w b ob K)(ew:w'=setB w b ob):K w':=by subst ew;exact h
theorem Dr.at{K:World→Prop}(h:Dr w K)(ew:w'=w.drew):K w':=by subst ew;exact h
theorem dr_keep{ob:Option Obj}(ew:w'=w.drew)(h:w.heap[b]? =ob):w'.heap[b]? =ob:=by subst ew;exact h
theorem blk_lt'{ob:Obj}(h:w.heap[b]? =some ob):b<w.heap.size:=(Array.getElem?_eq_some_iff.1 h).1
theorem al_keep{ob o2:Obj}(ew:w'=w.alloc o2)(h:w.heap[b]? =some ob):w'.heap[b]? =some ob:=by
 subst ew;rw[heap_alloc_old w o2 (blk_lt' h)];exact h
theorem al_new{ob:Obj}(eb:b=w.heap.size)(ew:w'=w.alloc ob):w'.heap[b]? =some ob:=by subst eb;subst ew;exact heap_alloc_new w ob
theorem blk_ne{b2:Nat}{ob:Obj}(h:w.heap[b]? =some ob)(eb:b2=w.heap.size):b≠b2:=by have:=blk_lt' h;omega
theorem kp_at{ob:Option Obj}(hk:Kp b w w')(h:w.heap[b]? =ob):w'.heap[b]? =ob:=hk.trans h
theorem ex_nn{x:Operand}(ho:o.op= .nilCheck x){a:Addr}(hx:evl e x= .pointer (some a)):pureRun P (execOp (evl e) o)=some (.value (.pointer (some a))):=by
 unfold execOp;simp only[ho,hx];rfl
theorem ex_append {ts : Array TypeId} {x y : Operand} {vx vy : Value} {a : Option Addr} {m c : Nat} (ho : o.op = .call { callee := .builtin .append, args := #[x, y], argTypes := ts }) (hx : evl e x = vx) (hy : evl e y = vy)
    (h : (Builtin.append_ ts o.type #[vx, vy]).run P w = .ok (.slice a m c) w') : (execOp (evl e) o).run P w = .ok (.value (.slice a m c)) w' := by
  unfold execOp
  simp only [ho, resolve, invoke, builtin, run_bind, run_pure]
  simp [hx, hy, h]
theorem ex_lookup{t:TypeId}{x y:Operand}{vx vy v:Value}{ok:Bool}(ho:o.op= .lookup t x y ok)(hx:evl e x=vx)(hy:evl e y=vy)(h:(Instr.lookup t vx vy ok).run P w= .ok v w'):(execOp (evl e) o).run P w= .ok (.value v) w':=by
 unfold execOp;simp only[ho,hx,hy,run_bind,h,run_pure]
theorem ex_entry{x:Operand}{vx v:Value}(ho:o.op= .entry x)(hx:evl e x=vx)(h:(Instr.entry vx).run P w= .ok v w'):(execOp (evl e) o).run P w= .ok (.value v) w':=by
 unfold execOp;simp only[ho,hx,run_bind,h,run_pure]
theorem ex_mapUpdate{t:TypeId}{x y z:Operand}{vx vy vz:Value}(ho:o.op= .mapUpdate t x y z)(hx:evl e x=vx)(hy:evl e y=vy)(hz:evl e z=vz)(h:(Instr.mapUpdate t vx vy vz).run P w= .ok () w'):(execOp (evl e) o).run P w= .ok .skip w':=by
 unfold execOp;simp only[ho,hx,hy,hz,run_bind,h,run_pure]
theorem ex_range{t:TypeId}{x:Operand}{vx v:Value}(ho:o.op= .range t x)(hx:evl e x=vx)(h:(Instr.range t vx).run P w= .ok v w'):(execOp (evl e) o).run P w= .ok (.value v) w':=by
 unfold execOp;simp only[ho,hx,run_bind,h,run_pure]
theorem ex_next{x:Operand}{s:Bool}{vx v:Value}(ho:o.op= .next x s)(hx:evl e x=vx)(h:(Instr.next vx s o.type).run P w= .ok v w'):(execOp (evl e) o).run P w= .ok (.value v) w':=by
 unfold execOp;simp only[ho,hx,run_bind,h,run_pure]
theorem run_callFunc{g:FuncId}(hf:callB P g=true)(args:Array Value):(callFunc g args).run P w= .ok (.enter g args) w:=by
 unfold callB at hf
 unfold callFunc
 simp only[run_bind,Go.program,Sem.run]
 cases hg:P.funcs[g]? with
 | none=>rw[hg]at hf;cases hf
 | some fn=>
  rw[hg]at hf
  simp only[Bool.and_eq_true,Bool.not_eq_true']at hf
  obtain⟨h1,h2⟩:=hf
  have h3:fn.body.isNone=false:=by cases hb:fn.body<;>simp_all
  simp only[h1,h3,run_pure,if_false,Bool.false_eq_true]
theorem ex_callv {ts : Array TypeId} {x : Operand} {xs : Array Operand} {args : Array Value} {g : FuncId} {c : Array Value} (ho : o.op = .call { callee := .value x, args := xs, argTypes := ts })
    (hx : evl e x = .func (.func g) #[] c) (ha : xs.map (evl e) = args) (hf : callB P g = true) : (execOp (evl e) o).run P w = .ok (.enter g (args ++ c)) w := by
  unfold execOp
  simp only [ho, resolve, hx, ha, Deferred.ofValue, run_bind, run_pure, invoke]
  simpa using run_callFunc hf (args ++ c)
theorem pr_bind{α β:Type}(s:Sem α)(f:α→Sem β):pureRun P (s>>=f)=(pureRun P s).bind fun a=>pureRun P (f a):=by
 show pureRun P (Sem.bind s f)=_
 induction s with
 | pure a=>rfl
 | program k ih=>exact ih P
 | mark m k ih=>exact ih
 | _=>rfl
theorem pr_pure{α:Type}(a:α):pureRun P (Pure.pure a:Sem α)=some a:=rfl
theorem pr_map{α β:Type}(f:α→β)(s:Sem α):pureRun P (f<$>s)=(pureRun P s).map f:=by
 show pureRun P (s>>=fun a=>Pure.pure (f a))=_
 rw[pr_bind]
 cases pureRun P s<;>rfl
theorem pr_underlying{t:TypeId}{d:TypeDesc}(h:P.underlying t=some d):pureRun P (underlying t)=some d:=by
 unfold underlying;simp only[pr_bind,Go.program,pureRun,Option.bind_some,h];rfl
theorem slbound_lo{y:Nat}{k:IntKind}{code:BoundsCode}{i:Int}{l:Nat}(hi:i=l)(hl:l≤y):pureRun P (Instr.sliceBound (.int k i) y code)=some l:=by
 subst hi
 unfold Instr.sliceBound
 have h1:(0:Int)≤(l:Int)∧(l:Int)≤(y:Int):=⟨by omega,by omega⟩
 simp only[asIntOf,pr_bind,pr_pure,Option.bind_some,if_pos h1]
 simp[pr_pure]
theorem ex_slstr {t : TypeId} {x : Operand} {lo hi : Option Operand} {s r : ByteArray} {li hi' : Option Int} (ht : P.underlying t = some .string) (ho : o.op = .slice t x lo hi none) (hx : evl e x = .string s)
    (hlo : ∀ q, lo = some q → ∃ k i, evl e q = .int k i ∧ li = some i) (hlo0 : lo = none → li = none) (hhi : ∀ q, hi = some q → ∃ k i, evl e q = .int k i ∧ hi' = some i) (hhi0 : hi = none → hi' = none)
    (hs : ∃ l h : Nat, loB li l ∧ hiB hi' s.size h ∧ l ≤ h ∧ h ≤ s.size ∧ r = s.extract l h) : pureRun P (execOp (evl e) o) = some (.value (.string r)) := by
  obtain ⟨l, h, h1, h2, h3, h4, rfl⟩ := hs
  unfold execOp
  simp only [ho, hx, Instr.sliceAt, Instr.slice, pr_bind, pr_underlying ht, Option.bind_some, Option.map_none, Option.isSome_none, Bool.false_eq_true, if_false, pr_pure]
  cases lo with
  | none =>
    rw [hlo0 rfl] at h1
    simp only [loB] at h1
    subst h1
    cases hi with
    | none => rw [hhi0 rfl] at h2; simp only [hiB] at h2; subst h2; simp [Instr.sliceBounds, pr_bind, pr_pure]
    | some q =>
      obtain ⟨k, i, hq, e1⟩ := hhi q rfl
      rw [e1] at h2
      simp [Instr.sliceBounds, pr_bind, pr_pure, pr_map, hq, slbound_lo (show _ = _ from h2) h4]
  | some p =>
    obtain ⟨k0, i0, hp, e0⟩ := hlo p rfl
    rw [e0] at h1
    cases hi with
    | none => rw [hhi0 rfl] at h2; simp only [hiB] at h2; subst h2; simp [Instr.sliceBounds, pr_bind, pr_pure, pr_map, hp, slbound_lo (show _ = _ from h1) h3]
    | some q =>
      obtain ⟨k, i, hq, e1⟩ := hhi q rfl
      rw [e1] at h2
      simp [Instr.sliceBounds, pr_bind, pr_pure, pr_map, hq, hp, slbound_lo (show _ = _ from h2) h4, slbound_lo (show _ = _ from h1) h3]
theorem ex_slsl {t el : TypeId} {sz : Nat} {x : Operand} {lo hi : Option Operand} {a a' : Option Addr} {m c m' c' : Nat} {li hi' : Option Int} (ht : slk P t = some (el, sz)) (ho : o.op = .slice t x lo hi none) (hx : evl e x = .slice a m c)
    (hlo : ∀ q, lo = some q → ∃ k i, evl e q = .int k i ∧ li = some i) (hlo0 : lo = none → li = none) (hhi : ∀ q, hi = some q → ∃ k i, evl e q = .int k i ∧ hi' = some i) (hhi0 : hi = none → hi' = none)
    (hs : ∃ l h : Nat, loB li l ∧ hiB hi' m h ∧ l ≤ h ∧ h ≤ c ∧ a' = (if c = l then a else a.map (·.add (l * sz))) ∧ m' = h - l ∧ c' = c - l) :
    pureRun P (execOp (evl e) o) = some (.value (.slice a' m' c')) := by
  obtain ⟨hu, inf, hi0, rfl⟩ := slk_spec ht
  obtain ⟨l, h, h1, h2, h3, h4, rfl, rfl, rfl⟩ := hs
  have hsz : pureRun P (sizeOf el) = some inf.size := by
    unfold sizeOf typeInfo; simp only [pr_bind, Go.program, pureRun, Option.bind_some, hi0]; rfl
  unfold execOp
  simp only [ho, hx, Instr.sliceAt, Instr.slice, pr_bind, pr_underlying hu, Option.bind_some, Option.map_none]
  cases lo with
  | none =>
    rw [hlo0 rfl] at h1
    simp only [loB] at h1
    subst h1
    cases hi with
    | none => rw [hhi0 rfl] at h2; simp only [hiB] at h2; subst h2; simp [Instr.sliceBounds, pr_bind, pr_pure, pr_map, hsz]
    | some q =>
      obtain ⟨k, i, hq, e1⟩ := hhi q rfl
      rw [e1] at h2
      simp [Instr.sliceBounds, pr_bind, pr_pure, pr_map, hq, slbound_lo (show _ = _ from h2) h4, hsz]
  | some p =>
    obtain ⟨k0, i0, hp, e0⟩ := hlo p rfl
    rw [e0] at h1
    cases hi with
    | none => rw [hhi0 rfl] at h2; simp only [hiB] at h2; subst h2; simp [Instr.sliceBounds, pr_bind, pr_pure, pr_map, hp, slbound_lo (show _ = _ from h1) h3, hsz]
    | some q =>
      obtain ⟨k, i, hq, e1⟩ := hhi q rfl
      rw [e1] at h2
      simp [Instr.sliceBounds, pr_bind, pr_pure, pr_map, hq, hp, slbound_lo (show _ = _ from h2) h4, slbound_lo (show _ = _ from h1) h3, hsz]
end
end Go.Wx
namespace Go.Wx
open Go
abbrev vi(x:Int):Value:= .int .i64 x
abbrev vu(x:Int):Value:= .int .u8 x
abbrev vb(x:Bool):Value:= .bool x
abbrev vs(x:ByteArray):Value:= .string x
abbrev vp(a:Addr):Value:= .pointer (some a)
abbrev vl(a:Option Addr)(n c:Nat):Value:= .slice a n c
abbrev vg(l:List Value):Value:= .agg l.toArray
theorem agree_args:∀(l:List Value) (e:Env) (k:Nat),(∀i,i<l.length→e (k+i)=l.getD i undef)→Agree e (l.zipIdx k |>.map fun p=>(p.2,p.1))
 |[],_,_,_=>trivial
 | v::l,e,k,h=>by
  simp only[List.zipIdx_cons,List.map_cons,Agree]
  refine⟨by simpa using h 0 (by simp),agree_args l e (k+1) fun i hi=>?_⟩
  have:=h (i+1) (by simp;omega)
  simpa[Nat.add_assoc,Nat.add_comm 1 i]using this
def idxs:Nat→List Value→List (Nat × Value)
 | _,[]=>[]
 | k,v::l=>(k,v)::idxs (k+1) l
theorem idxs_eq:∀(l:List Value) (k:Nat),idxs k l=(l.zipIdx k |>.map fun p=>(p.2,p.1))
 |[],_=>rfl
 | v::l,k=>by simp[idxs,idxs_eq l (k+1)]
theorem calls_args {P : Program} {f : FuncId} {fn : Func} {c : Code} {args : List Value} {w : World} {R : Value → World → Prop} {n : Nat}
    (hf : P.funcs[f]? = some fn) (h : W P n c (retK fn P n R) (upds (argsE args) (idxs 0 args)) w) (hb : fn.body = some c := by rfl) (hn : fn.ntmps = n := by rfl) (hle : Nat.ble args.length n = true := by rfl) : Cl P f args.toArray w R := by
  refine calls_W hf hb hn hle ?_
  have : Agree (argsE args) (idxs 0 args) := by
    rw [idxs_eq]
    exact agree_args args (argsE args) 0 fun i _ => by simp [argsE]
  rw [this.eq]
  exact h
section
variable {P : Program} {n : Nat} {ops : Array Oper} {K : Env → World → Prop} {rest : List Oper} {o : Oper} {e : Env} {w : World} {T : List (List Nat)} {pend : List Pend} {r : List Stp}
theorem ci{c:Operand}{x y:Code}{b:Bool}{A B:Prop}{K:Post}(h:Ifb b A B)(ht:A→W P n x K e w)(hf:B→W P n y K e w)(hc:evl e c= .bool b:=by rfl):W P n (.cond c x y) K e w:=
 W_condB hc (fun hb=>ht (h.1 hb)) (fun hb=>hf (h.2 hb))
theorem cs(c:Nat){b:Bool}{A B:Prop}(h:Ifb b A B)(ht:A→WO P n ops K rest (upds e [(c,.bool true)]) w)(hf:B→WO P n ops K rest (upds e [(c,.bool false)]) w)(hc:e c= .bool b:=by rfl):WO P n ops K rest e w:=
 WO_case c hc (fun hb=>ht (h.1 hb)) (fun hb=>hf (h.2 hb))
theorem ps{l:List Oper}(k:Nat)(u:List (Nat × Value))(hk:WO P n ops K (l.drop k) (upds e u) w)(h:psteps P n ops (l.take k) e=some (upds e u):=by kernel_rfl):WO P n ops K l e w:=WO_pures k u h hk
theorem ld1 {t m : Nat} {x : Operand} {a : Addr} {v : Value} (ht : tyk P t = some (false, m)) (hx : w.cell? a = some v) (h : WO P n ops K rest (pute e o.dst v) w) (hw : wantedE ops o e = true := by rfl) (hd : dstB n o.dst = true := by rfl)
    (ho : o.op = .load t x := by rfl) (ha : evl e x = .pointer (some a) := by rfl) : WO P n ops K (o :: rest) e w := WO_val hw hd (ex_load1 ht ho ha hx) h
theorem alp {obj : Obj} {A : Nat → World → Prop} (h : Al w obj A) (hk : ∀ b w', b = w.heap.size → w' = w.alloc obj → w'.heap[b]? = some obj → A b w' → WO P n ops K rest (pute e o.dst (.pointer (some ⟨b, 0, none⟩))) w')
    (hw : wantedE ops o e = true := by rfl) (hd : dstB n o.dst = true := by rfl) (hr : (execOp (evl e) o).run P w = .ok (.value (.pointer (some ⟨w.heap.size, 0, none⟩))) (w.alloc obj) := by kernel_rfl) : WO P n ops K (o :: rest) e w :=
  WO_val hw hd hr (hk _ _ rfl rfl (al_new rfl rfl) h)
theorem st {m : Nat} {g : Bool} {t : TypeId} {x y : Operand} {a : Addr} {v : Value} {vs : List Value} {A : World → Prop} (ht : tyk P t = some (g, m)) (h : St w a vs A) (hk : ∀ w', A w' → WO P n ops K rest (pute e o.dst undef) w')
    (hw : wantedE ops o e = true := by rfl) (hd : dstB n o.dst = true := by rfl) (ho : o.op = .store t x y := by rfl) (ha : evl e x = .pointer (some a) := by rfl) (hy : evl e y = v := by rfl) (hv : v.cells.toList = vs := by rfl) (hn : Nat.beq vs.length m = true := by rfl)
    (h1 : vs.all Value.oneCell' = true := by rfl) : WO P n ops K (o :: rest) e w := by
  obtain ⟨b, off, c, T, rfl, hs, hl, hA⟩ := h
  exact WO_st hw hd (ex_store ht ho ha hy hs hv (Nat.eq_of_beq_eq_true hn) hl (fun v hv => List.all_eq_true.1 h1 v hv)) fun _ ew => hk _ (by subst ew; exact hA)
theorem cl {f : FuncId} {args : Array Value} {R : Value → World → Prop} (h : Cl P f args w R) (hk : ∀ v w', R v w' → WO P n ops K rest (pute e o.dst v) w') (hw : wantedE ops o e = true := by rfl) (hd : dstB n o.dst = true := by rfl)
    (hr : (execOp (evl e) o).run P w = .ok (.enter f args) w := by kernel_rfl) : WO P n ops K (o :: rest) e w :=
  WO_call hw hd hr (Calls.mono h fun _ _ ⟨v, he, hv⟩ => ⟨v, he, hk _ _ hv⟩)
theorem ap {ts : Array TypeId} {ty : TypeId} {x y : Operand} {vx vy : Value} {A : Option Addr → Nat → Nat → World → Prop} (h : Ap P w ts ty vx vy A) (hk : ∀ a m c w', A a m c w' → WO P n ops K rest (pute e o.dst (.slice a m c)) w') (hw : wantedE ops o e = true := by rfl) (hd : dstB n o.dst = true := by rfl)
    (ho : o.op = .call { callee := .builtin .append, args := #[x, y], argTypes := ts } := by rfl) (ht : o.type = ty := by rfl) (hx : evl e x = vx := by rfl) (hy : evl e y = vy := by rfl) : WO P n ops K (o :: rest) e w := by
  obtain ⟨a, m, c, w', hap, hA⟩ := h
  subst ht
  exact WO_val hw hd (ex_append ho hx hy hap) (hk _ _ _ _ hA)
theorem nn{x:Operand}{p:Option Addr}{A:Addr→Prop}(h:NN p A)(hk:∀a,A a→WO P n ops K rest (pute e o.dst (.pointer (some a))) w)(hw:wantedE ops o e=true:=by rfl)(hd:dstB n o.dst=true:=by rfl)(ho:o.op= .nilCheck x:=by rfl)(hx:evl e x= .pointer p:=by rfl):WO P n ops K (o::rest) e w:=by
 obtain⟨a,rfl,hA⟩:=h
 exact WO_p hw hd (ex_nn ho hx) (hk a hA)
theorem ix {t el sz : Nat} {x y : Operand} {p : Option Addr} {m c : Nat} {k : IntKind} {i : Int} {A : Addr → Prop} (ht : slk P t = some (el, sz)) (h : Ix p m i A) (hk : ∀ a, A a → WO P n ops K rest (pute e o.dst (.pointer (some (a.add (i.toNat * sz))))) w) (hw : wantedE ops o e = true := by rfl) (hd : dstB n o.dst = true := by rfl)
    (ho : o.op = .indexAddr t x y := by rfl) (hx : evl e x = .slice p m c := by rfl) (hy : evl e y = .int k i := by rfl) : WO P n ops K (o :: rest) e w := by
  obtain ⟨a, rfl, h0, hn, hA⟩ := h
  exact WO_p hw hd (ex_index ht ho hx hy h0 hn) (hk a hA)
theorem drs{id:Nat}{y:Code}{K':Post}{A:World→Prop}(hm:P.follows .mixedOrders=true)(T:List (List Nat))(σ:List Stp)(h:Dr w A)(hk:∀w',w'=w.drew→A w'→WC P n ops T (W P n y K') σ [] e w')(hB:drawB ops T σ=true:=by kernel_rfl):W P n (.seq (.region id ops true) y) K' e w:=
 W_drawseq hm T σ hB (hk _ rfl h)
theorem psC{l:List Stp}(k:Nat)(u:List (Nat × Value))(hk:WC P n ops T K (l.drop k) pend (upds e u) w)(h:csteps P n ops (l.take k) e=some (upds e u):=by kernel_rfl):WC P n ops T K l pend e w:=WC_pures k u h hk
theorem lb1C {j t m b i : Nat} {x : Operand} {c : Array Value} {ty : TypeId} {fr : Nat × Nat} {v : Value} (ht : tyk P t = some (false, m)) (hb : w.heap[b]? = some (.cells c ty fr)) (h : WC P n ops T K r (⟨j, execOp (evl e) o, v⟩ :: pend) (pute e o.dst v) w) (hi : ops[j]? = some o := by rfl) (hw : wantedE ops o e = true := by rfl) (hd : dstB n o.dst = true := by rfl)
    (ho : o.op = .load t x := by rfl) (ha : evl e x = .pointer (some ⟨b, i, none⟩) := by rfl) (hc : c[i]? = some v := by rfl) : WC P n ops T K (.l j :: r) pend e w := WC_l hi hd hw (ex_load1 ht ho ha (cell_blk hb hc)) h
theorem alsC (m : Nat) {i : Nat} {obj : Obj} {A : Nat → World → Prop} (h : Al w obj A) (hk : ∀ b w', b = w.heap.size → w' = w.alloc obj → w'.heap[b]? = some obj → A b w' → AllOk P w' (pfilter T i pend) ∧ WC P n ops T K r (pfilter T i pend) (pute e o.dst (.slice (some ⟨b, 0, none⟩) m m)) w')
    (hi : ops[i]? = some o := by rfl) (hw : wantedE ops o e = true := by rfl) (hd : dstB n o.dst = true := by rfl) (hr : (execOp (evl e) o).run P w = .ok (.value (.slice (some ⟨w.heap.size, 0, none⟩) m m)) (w.alloc obj) := by kernel_rfl) : WC P n ops T K (.e i :: r) pend e w :=
  WC_ev hi hd hw hr (hk _ _ rfl rfl (al_new rfl rfl) h)
theorem clC {i : Nat} {f : FuncId} {args : Array Value} {R : Value → World → Prop} (h : Cl P f args w R) (hk : ∀ v w', R v w' → AllOk P w' (pfilter T i pend) ∧ WC P n ops T K r (pfilter T i pend) (pute e o.dst v) w') (hi : ops[i]? = some o := by rfl) (hw : wantedE ops o e = true := by rfl) (hd : dstB n o.dst = true := by rfl)
    (hr : (execOp (evl e) o).run P w = .ok (.enter f args) w := by kernel_rfl) : WC P n ops T K (.e i :: r) pend e w :=
  WC_call hi hd hw hr (Calls.mono h fun _ _ ⟨v, he, hv⟩ => ⟨v, he, hk _ _ hv⟩)
end
end Go.Wx
namespace Go.Wx
open Go
structure Frm(S:Nat→Prop)(w w':World):Prop where
 os:w'.os=w.os
 tape:w'.tape=w.tape
 output:w'.output=w.output
 size:w.heap.size≤w'.heap.size
 blk:∀b,b<w.heap.size→¬S b→w'.heap[b]? =w.heap[b]?
abbrev Ext(w w':World):Prop:=Frm (fun _=>False) w w'
def At(w:World)(b:Nat)(o:Obj):Prop:=w.heap[b]? =some o
section
variable {w w1 w2 w3 : World} {S S' : Nat → Prop}
theorem Frm.refl(S:Nat→Prop)(w:World):Frm S w w:=⟨rfl,rfl,rfl,Nat.le_refl _,fun _ _ _=>rfl⟩
theorem Frm.mono(h:Frm S w w1)(hs:∀b,b<w.heap.size→S b→S' b):Frm S' w w1:=⟨h.os,h.tape,h.output,h.size,fun b hb hn=>h.blk b hb fun hS=>hn (hs b hb hS)⟩
theorem Frm.trans(h:Frm S w w1)(h':Frm S' w1 w2)(hs:∀b,b<w.heap.size→S' b→S b):Frm S w w2:=
 ⟨h'.os.trans h.os,h'.tape.trans h.tape,h'.output.trans h.output,Nat.le_trans h.size h'.size,fun b hb hn=>(h'.blk b (Nat.lt_of_lt_of_le hb h.size) fun hS=>hn (hs b hb hS)).trans (h.blk b hb hn)⟩
theorem er(w:World):Ext w w:=Frm.refl _ w
theorem Ext.trans(h:Ext w w1)(h':Ext w1 w2):Ext w w2:=Frm.trans h h' fun _ _ h=>h
theorem Ext.frm(h:Ext w w1):Frm S w w1:=Frm.mono h fun _ _ h=>h.elim
theorem Frm.ext(h:Frm S w w1)(h':Ext w1 w2):Frm S w w2:=h.trans h' fun _ _ h=>h.elim
theorem Ext.then(h:Ext w w1)(h':Frm S w1 w2):Frm S w w2:=(Ext.frm h).trans h' fun _ _ h=>h
theorem frm_alloc(o:Obj):Ext w (w.alloc o):=⟨rfl,rfl,rfl,by simp,fun _ hb _=>heap_alloc_old w o hb⟩
theorem frm_drew:Ext w w.drew:=⟨rfl,rfl,rfl,Nat.le_refl _,fun _ _ _=>rfl⟩
theorem frm_setB{b:Nat}{o:Obj}:Frm (fun k=>k=b) w (setB w b o):=⟨rfl,rfl,rfl,by rw[size_setB];exact Nat.le_refl _,fun k _ hn=>getElem_setB_ne hn⟩
theorem At.lt{b:Nat}{o:Obj}(h:At w b o):b<w.heap.size:=(Array.getElem?_eq_some_iff.1 h).1
theorem At.frm{b:Nat}{o:Obj}(h:At w b o)(f:Frm S w w1)(hn:¬S b):At w1 b o:=(f.blk b h.lt hn).trans h
theorem At.ext{b:Nat}{o:Obj}(h:At w b o)(f:Ext w w1):At w1 b o:=h.frm f id
theorem At.new{o:Obj}:At (w.alloc o) w.heap.size o:=heap_alloc_new w o
theorem At.set{b:Nat}{o o':Obj}(h:At w b o):At (setB w b o') b o':=getElem_setB_self h
theorem At.ne{b b':Nat}{o o':Obj}(h:At w b o)(h':At w b' o')(hn:o≠o'):b≠b':=fun e=>hn (by subst e;exact Option.some.inj (h.symm.trans h'))
theorem cell_lt{a:Addr}{v:Value}(h:w.cell? a=some v):a.block<w.heap.size:=World.block_lt_of_cell? w a h
theorem cell_frm{a:Addr}{v:Value}(h:w.cell? a=some v)(f:Frm S w w1)(hn:¬S a.block):w1.cell? a=some v:=(World.cell?_of_block (f.blk _ (cell_lt h) hn)).trans h
theorem add_block(a:Addr)(n:Nat):(a.add n).block=a.block:=by unfold Addr.add;split<;>rfl
theorem Cells.frm{a:Addr}{vs:List Value}(h:Cells w a vs)(f:Frm S w w1)(hn:¬S a.block):Cells w1 a vs:=fun i v hi=>cell_frm (h i v hi) f (by rw[add_block];exact hn)
theorem Cells.ext{a:Addr}{vs:List Value}(h:Cells w a vs)(f:Ext w w1):Cells w1 a vs:=h.frm f id
theorem Cells.lt{a:Addr}{vs:List Value}(h:Cells w a vs)(hv:vs≠[]):a.block<w.heap.size:=by
 cases vs with
 | nil=>exact absurd rfl hv
 | cons v vs=>have:=cell_lt (h 0 v rfl);rwa[add_block]at this
theorem add_add(a:Addr)(m n:Nat):(a.add m).add n=a.add (m+n):=by
 unfold Addr.add
 by_cases hm:m=0<;>by_cases hn:n=0<;>simp[hm,hn,Nat.add_assoc]
theorem Cells.at{a:Addr}{vs:List Value}(h:Cells w a vs)(i:Nat){v:Value}(hv:vs[i]? =some v):w.cell? (a.add i)=some v:=h i v hv
def Rd{α:Type}(enc:α→List Value)(sz:Nat)(w:World)(a:Option Addr)(n:Nat)(xs:List α):Prop:=
 n=xs.length∧(a=none→n=0)∧∀a0,a=some a0→∀i x,xs[i]? =some x→Cells w (a0.add (i*sz)) (enc x)
section
variable {α : Type} {enc : α → List Value} {sz : Nat} {a : Option Addr} {n c : Nat} {xs : List α}
theorem Rd.frm(h:Rd enc sz w a n xs)(f:Frm S w w1)(hn:∀a0,a=some a0→n≠0→¬S a0.block):Rd enc sz w1 a n xs:=by
 refine⟨h.1,h.2.1,fun a0 ha i x hx=>(h.2.2 a0 ha i x hx).frm f ?_⟩
 rw[add_block]
 refine hn a0 ha ?_
 rw[h.1]
 have:=(List.getElem?_eq_some_iff.1 hx).1
 omega
theorem Rd.ext(h:Rd enc sz w a n xs)(f:Ext w w1):Rd enc sz w1 a n xs:=h.frm f fun _ _ _=>id
theorem Rd.nil:Rd enc sz w none 0 []:=⟨rfl,fun _=>rfl,fun _ h=>by cases h⟩
theorem Rd.ix(h:Rd enc sz w a n xs){v:Int}(h0:0≤v)(h1:v<n){K:Addr→Prop}(hk:∀a0 x,a=some a0→xs[v.toNat]? =some x→Cells w (a0.add (v.toNat*sz)) (enc x)→K a0):Ix a n v K:=by
 cases a with
 | none=>have:=h.2.1 rfl;omega
 | some a0=>
  have hl:v.toNat<xs.length:=by have:=h.1;omega
  exact⟨a0,rfl,h0,h1,hk a0 _ rfl (List.getElem?_eq_getElem hl) (h.2.2 a0 rfl _ _ (List.getElem?_eq_getElem hl))⟩
def Own(T sz:Nat)(enc:α→List Value)(w:World)(a:Option Addr)(n c:Nat)(xs:List α):Prop:=
 n=xs.length∧((c=0∧n=0)∨∃g cur,a=some ⟨g,0,none⟩∧At w g (.cells cur T (0,0))∧n≤c∧c≤maxLen∧cur.size=c*sz∧cur.toList.take (n*sz)=xs.flatMap enc)
def obk(a:Option Addr)(c:Nat):Option Nat:=if c=0 then none else a.map (·.block)
theorem flat_len(he:∀x,(enc x).length=sz):∀xs:List α,(xs.flatMap enc).length=xs.length*sz
 |[]=>by simp
 | x::xs=>by rw[List.flatMap_cons,List.length_append,he,flat_len he xs,List.length_cons,Nat.succ_mul];omega
theorem Own.frm{T:Nat}(h:Own T sz enc w a n c xs)(f:Frm S w w1)(hn:∀b,obk a c=some b→¬S b):Own T sz enc w1 a n c xs:=by
 rcases h with⟨hl,h | ⟨g,cur,rfl,hat,hnc,hcm,hs,ht⟩⟩
 ·exact⟨hl,.inl h⟩
 ·by_cases hc:c=0
  ·exact⟨hl,.inl ⟨hc,by omega⟩⟩
  ·exact⟨hl,.inr ⟨g,cur,rfl,hat.frm f (hn g (by simp[obk,hc])),hnc,hcm,hs,ht⟩⟩
theorem Own.ext{T:Nat}(h:Own T sz enc w a n c xs)(f:Ext w w1):Own T sz enc w1 a n c xs:=h.frm f fun _ _=>id
theorem Own.nil{T:Nat}:Own T sz enc w none 0 0 []:=⟨rfl,.inl ⟨rfl,rfl⟩⟩
theorem Own.at{T:Nat}(h:Own T sz enc w a n c xs):∀b,obk a c=some b→∃cur,At w b (.cells cur T (0,0)):=by
 intro b hb
 unfold obk at hb
 split at hb
 ·cases hb
 ·rcases h with⟨hl,h | ⟨g,cur,rfl,hat,_⟩⟩
  ·omega
  ·simp at hb;subst hb;exact⟨cur,hat⟩
end
end
def apk(P:Program)(t:TypeId):Option (TypeId × Nat × Nat):=
 match P.underlying t with
 | some (.slice e)=>match P.info? e with
  | some i=>match i.zero with
   | some z=>if Nat.beq z.cells.size i.size then some (e,i.size,i.bytes)else none
   | none=>none
  | none=>none
 | _=>none
theorem apk_info{P:Program}{t e sz by_:Nat}(h:apk P t=some (e,sz,by_)):∃i z,P.underlying t=some (.slice e)∧P.info? e=some i∧i.zero=some z∧z.cells.size=i.size∧i.size=sz∧i.bytes=by_:=by
 unfold apk at h
 split at h
 case h_2=>cases h
 split at h
 case h_2=>cases h
 split at h
 case h_2=>cases h
 split at h
 case isFalse=>cases h
 rename_i hu _ _ hi _ z hz hc
 simp only[Option.some.injEq,Prod.mk.injEq]at h
 obtain⟨rfl,rfl,rfl⟩:=h
 exact⟨_,z,hu,hi,hz,Nat.eq_of_beq_eq_true hc,rfl,rfl⟩
section
variable {P : Program} {w : World} {α : Type} {enc : α → List Value} {sz : Nat}
theorem Rd.cells{a:Addr}{n:Nat}{xs:List α}(he:∀x,(enc x).length=sz)(h:Rd enc sz w (some a) n xs):∀j u,(xs.flatMap enc)[j]? =some u→w.cell? (a.add j)=some u:=by
 have key:∀(xs:List α) (a:Addr),(∀i x,xs[i]? =some x→Cells w (a.add (i*sz)) (enc x))→∀j u,(xs.flatMap enc)[j]? =some u→w.cell? (a.add j)=some u:=by
  intro xs
  induction xs with
  | nil=>intro a h j u hu;simp at hu
  | cons x xs ih=>
   intro a h j u hu
   rw[List.flatMap_cons]at hu
   by_cases hj:j<sz
   ·rw[List.getElem?_append_left (by rw[he];exact hj)]at hu
    have:=h 0 x rfl j u hu
    rwa[Nat.zero_mul,add_add,Nat.zero_add]at this
   ·rw[List.getElem?_append_right (by rw[he];omega),he]at hu
    have:=ih (a.add sz) (fun i y hy=>by
     have:=h (i+1) y (by simpa using hy)
     rwa[Nat.succ_mul,Nat.add_comm (i*sz) sz,←add_add]at this) (j-sz) u hu
    rwa[add_add,Nat.add_sub_cancel' (by omega)]at this
 exact key xs a (h.2.2 a rfl)
theorem st_at{b off:Nat}{c:Array Value}{T:TypeId}{vs:List Value}{K:World→Prop}(h:At w b (.cells c T (0,0)))(hl:off+vs.length≤c.size)(hk:∀w',At w' b (.cells (putAt c off vs) T (0,0))→Frm (fun k=>k=b) w w'→K w'):St w ⟨b,off,none⟩ vs K:=
 ⟨b,off,c,T,rfl,h,hl,hk _ h.set frm_setB⟩
theorem al{o:Obj}{K:Nat→World→Prop}(hk:∀b w',b=w.heap.size→At w' b o→Ext w w'→K b w'):Al w o K:=hk _ _ rfl At.new (frm_alloc o)
theorem ifb_t{A B:Prop}(h:A):Ifb true A B:=⟨fun _=>h,fun e=>(by cases e)⟩
theorem ifb_f{A B:Prop}(h:B):Ifb false A B:=⟨fun e=>(by cases e),fun _=>h⟩
theorem wrap_id{x:Int}(h0: -9223372036854775808≤x)(h1:x≤9223372036854775807):IntKind.wrap .i64 x=x:=by rw[IntKind.wrap_i64];omega
end
end Go.Wx
