/- The law holds: part 336. Conditions: none. -/
import Derived.Test.YtpndfdfipkadkaaGreatDoorKU3
import Derived.Sort.Row
import Derived.Sort.Grow
import Derived.Deep.Draws
import Derived.Scope
set_option linter.all false
namespace Go.Ax
open Go Go.Wx
variable [Globs]
section
open Classical
noncomputable def unj(j:Nat→Nat)(k:Nat)(c:Nat):Option Nat:=if h:∃b,b<k∧j b=c then some (Classical.choose h)else none
theorem unj_some{j:Nat→Nat}{k:Nat}(hi:∀b b',b<k→b'<k→j b=j b'→b=b'){b:Nat}(hb:b<k):unj j k (j b)=some b:=by
 have h:∃b',b'<k∧j b'=j b:=⟨b,hb,rfl⟩
 unfold unj
 rw[dif_pos h]
 obtain⟨h1,h2⟩:=Classical.choose_spec h
 rw[hi _ _ h1 hb h2]
theorem unj_none{j:Nat→Nat}{k c:Nat}(h:∀b,b<k→j b≠c):unj j k c=none:=by
 unfold unj
 rw[dif_neg]
 rintro⟨b,h1,h2⟩
 exact h b h1 h2
theorem unj_cases{j:Nat→Nat}{k:Nat}(hi:∀b b',b<k→b'<k→j b=j b'→b=b')(c:Nat):(∃b,b<k∧j b=c∧unj j k c=some b)∨(∀b,b<k→j b≠c)∧unj j k c=none:=by
 by_cases h:∃b,b<k∧j b=c
 ·obtain⟨b,h1,rfl⟩:=h
  exact .inl ⟨b,h1,rfl,unj_some hi h1⟩
 ·exact .inr ⟨fun b h1 h2=>h ⟨b,h1,h2⟩,unj_none fun b h1 h2=>h ⟨b,h1,h2⟩⟩
variable {P : Program} {X X1 : Cx} {M M1 : Nat → Prop} {f : FuncId} {args : List D} {H H1 : Heap} {R : OpK}
noncomputable def backH(j:Nat→Nat)(H H0:Heap):Heap:=H.mapIdx fun c o=>match unj j H0.length c with
 | some b=>(match H0[b]? with | some o'=>relO j o' | none=>o)
 | none=>o
noncomputable def backX(X X1:Cx)(j:Nat→Nat):Cx:=⟨X1.w,X1.F,fun c=>match unj j X1.H.length c with | some b=>X1.ρ b | none=>X.ρ c,fun c=>match unj j X1.H.length c with | some b=>X1.gh b | none=>X.gh c,backH j X.H X1.H⟩
theorem backH_len{j:Nat→Nat}{H H0:Heap}:(backH j H H0).length=H.length:=by simp[backH]
theorem backH_in{j:Nat→Nat}{H H0:Heap}(hj:∀b,b<H0.length→j b<H.length)(hi:∀b b',b<H0.length→b'<H0.length→j b=j b'→b=b'){b:Nat}(hb:b<H0.length):(backH j H H0)[j b]? =(H0[b]?).map (relO j):=by
 unfold backH
 rw[List.getElem?_mapIdx,List.getElem?_eq_getElem (hj b hb),Option.map_some,unj_some hi hb,List.getElem?_eq_getElem hb]
 simp only[List.getElem?_eq_getElem hb,Option.map_some]
theorem backH_out{j:Nat→Nat}{H H0:Heap}{c:Nat}(h:∀b,b<H0.length→j b≠c):(backH j H H0)[c]? =H[c]? :=by
 unfold backH
 rw[List.getElem?_mapIdx,unj_none h]
 cases H[c]? <;>rfl
theorem Bl.back {j : Nat → Nat} {k : Nat} (hk : X1.H.length = k) (hj : ∀ b, b < k → j b < X.H.length) (hi : ∀ b b', b < k → b' < k → j b = j b' → b = b') {d : D} (hb : Bl k d) : ∀ {y : Value}, Rp X1 d y → Rp (backX X X1 j) (Ax.rel j d) y := by
  subst hk
  have hat : ∀ {b : Nat}, b < X1.H.length → (backX X X1 j).H[j b]? = (X1.H[b]?).map (relO j) := fun hb => backH_in hj hi hb
  have hρ : ∀ {b : Nat}, b < X1.H.length → (backX X X1 j).ρ (j b) = X1.ρ b := fun hb => by simp only [backX, unj_some hi hb]
  have hg : ∀ {b : Nat}, b < X1.H.length → (backX X X1 j).gh (j b) = X1.gh b := fun hb => by simp only [backX, unj_some hi hb]
  have hl : ∀ {b : Nat}, b < X1.H.length → j b < (backX X X1 j).H.length := fun hb => by rw [show (backX X X1 j).H.length = X.H.length from backH_len]; exact hj _ hb
  induction hb with
  | pd h => intro y hr; rw [rel_pd h]; exact hr.pd (fun _ h => h) (fun _ _ => rfl) h
  | ptr hb =>
    intro y hr
    simp only [Ax.rel]
    cases hr with
    | ptr hb' hh =>
      refine .ptr (hl hb) fun T sz xs hx => ?_
      rw [hat hb, Option.map_eq_some_iff] at hx
      obtain ⟨o, ho, e⟩ := hx
      cases o <;> simp [relO] at e
      obtain ⟨rfl, rfl, rfl⟩ := e
      rw [hρ hb, hg hb]
      have := hh _ _ _ ho
      simp only [List.length_map]
      exact this
  | sl hb =>
    intro y hr
    simp only [Ax.rel]
    cases hr with
    | sl hb' hh =>
      refine .sl (hl hb) fun T sz xs hx => ?_
      rw [hat hb, Option.map_eq_some_iff] at hx
      obtain ⟨o, ho, e⟩ := hx
      cases o <;> simp [relO] at e
      obtain ⟨rfl, rfl, rfl⟩ := e
      rw [hρ hb, hg hb]
      have := hh _ _ _ ho
      simp only [List.length_map]
      exact this
  | map hb =>
    intro y hr
    simp only [Ax.rel]
    cases hr with
    | map hb' hm =>
      rw [← hρ hb]
      obtain ⟨es, c, hm⟩ := hm
      exact .map (hl hb) ⟨_, _, by rw [hat hb, hm]; rfl⟩
  | it hb =>
    intro y hr
    simp only [Ax.rel]
    cases hr with
    | it hb' hm =>
      rw [← hρ hb]
      obtain ⟨m, n, l, hm⟩ := hm
      exact .it (hl hb) ⟨_, _, _, by rw [hat hb, hm]; rfl⟩
  | agg h ih =>
    intro y hr
    simp only [Ax.rel]
    cases hr with
    | agg hl hr => exact .agg (by simpa using hl) fun k d x h1 h2 => by
                    rw [List.getElem?_map, Option.map_eq_some_iff] at h1
                    obtain ⟨d0, h1, rfl⟩ := h1
                    exact ih d0 (List.mem_of_getElem? h1) (hr k _ x h1 h2)
  | tup h ih =>
    intro y hr
    simp only [Ax.rel]
    cases hr with
    | tup hl hr => exact .tup (by simpa using hl) fun k d x h1 h2 => by
                    rw [List.getElem?_map, Option.map_eq_some_iff] at h1
                    obtain ⟨d0, h1, rfl⟩ := h1
                    exact ih d0 (List.mem_of_getElem? h1) (hr k _ x h1 h2)
  | clo h ih =>
    intro y hr
    simp only [Ax.rel]
    cases hr with
    | clo hl hr => exact .clo (by simpa using hl) fun k d x h1 h2 => by
                    rw [List.getElem?_map, Option.map_eq_some_iff] at h1
                    obtain ⟨d0, h1, rfl⟩ := h1
                    exact ih d0 (List.mem_of_getElem? h1) (hr k _ x h1 h2)
structure Emb(j:Nat→Nat)(H1 H:Heap):Prop where
 lt:∀b,b<H1.length→j b<H.length
 inj:∀b b',b<H1.length→b'<H1.length→j b=j b'→b=b'
 at_:∀b o,H1[b]? =some o→H[j b]? =some (relO j o)
theorem AC.frame {j : Nat → Nat} (e : Emb j H1 H) (ha : ∀ d ∈ args, Bl H1.length d) (hO : ∀ o ∈ H1, BlO H1.length o)
    (hR : ∀ d H0 ms, R d H0 ms → H0.length = H1.length ∧ Bl H1.length d ∧ (∀ o ∈ H0, BlO H1.length o) ∧ ∀ b ∈ ms, b < H1.length) (h : AC P f args H1 R) :
    AC P f (args.map (rel j)) H fun d H' ms => ∃ d0 H0 ms0, R d0 H0 ms0 ∧ d = rel j d0 ∧ H' = backH j H H0 ∧ ms = ms0.map j := by
  refine ⟨h.cb, fun X M vs hs hXH hv => ?_⟩
  subst hXH
  obtain ⟨hj, hi, hH⟩ := e
  have hv1 : RpL (relX X j H1) args vs := ⟨by have := hv.1; simpa using this, fun k d y h1 h2 => (ha d (List.mem_of_getElem? h1)).rel hj hH (hv.2 k _ y (by rw [List.getElem?_map, h1]; rfl) h2)⟩
  refine Cl.mono (h.run (relX X j H1) (relM X j H1) vs (rel_sim (H1 := H1) hs hj hi hH hO) rfl hv1) ?_
  rintro v w' ⟨X1, M1, d, ms, E, S, rfl, hr, hRd⟩
  obtain ⟨hlen, hBd, hBO, hms⟩ := hR _ _ _ hRd
  have hj1 : ∀ b, b < X1.H.length → j b < X.H.length := fun b hb => hj b (by omega)
  have hi1 : ∀ b b', b < X1.H.length → b' < X1.H.length → j b = j b' → b = b' := fun b b' h1 h2 => hi b b' (by omega) (by omega)
  have hM : ∀ k, relM X j H1 k → M k := by
    rintro k ⟨b, hb, hg, rfl⟩
    exact hs.im _ (hj b hb) hg
  have hat : ∀ {b : Nat}, b < X1.H.length → (backX X X1 j).H[j b]? = (X1.H[b]?).map (relO j) := fun hb => backH_in hj1 hi1 hb
  have hρ : ∀ {b : Nat}, b < X1.H.length → (backX X X1 j).ρ (j b) = X1.ρ b := fun hb => by simp only [backX, unj_some hi1 hb]
  have hgg : ∀ {b : Nat}, b < X1.H.length → (backX X X1 j).gh (j b) = X1.gh b := fun hb => by simp only [backX, unj_some hi1 hb]
  have out : ∀ {c : Nat}, (∀ b, b < X1.H.length → j b ≠ c) → (backX X X1 j).H[c]? = X.H[c]? ∧ (backX X X1 j).ρ c = X.ρ c ∧ (backX X X1 j).gh c = X.gh c := fun hc => ⟨backH_out hc, by simp only [backX, unj_none hc], by simp only [backX, unj_none hc]⟩
  have hnM : ∀ {c : Nat}, c < X.H.length → X.gh c = false → (∀ b, b < X1.H.length → j b ≠ c) → ¬ relM X j H1 (X.ρ c) := by
    rintro c hc hg hout ⟨b, hb, hgb, e⟩
    exact hout b (by omega) (hs.inj c (j b) hc (hj b hb) hg hgb e).symm
  have hlenX : (backX X X1 j).H.length = X.H.length := backH_len
  have E2 : Ev (fun b => b ∈ ms.map j) X M (backX X X1 j) (fun k => (M k ∧ ¬ relM X j H1 k) ∨ M1 k) := {
    frm := E.frm.mono fun k _ hk => hM k hk
    mn := fun k hk => hk.elim (fun h => .inl h.1) fun h => (E.mn k h).imp (hM k) id
    ff := E.ff
    fn := E.fn
    len := by rw [hlenX]; exact Nat.le_refl _
    old := fun c hc hn => by
      rcases unj_cases hi1 c with ⟨b, hb, rfl, _⟩ | ⟨hout, _⟩
      · have hb1 : b < H1.length := by omega
        obtain ⟨g1, g2, g3, g4⟩ := E.old b hb1 fun hm => hn (List.mem_map.2 ⟨b, hm, rfl⟩)
        refine ⟨?_, (hρ hb).trans g2, (hgg hb).trans g3, g4⟩
        rw [hat hb, g1]
        show Option.map (relO j) H1[b]? = _
        rw [List.getElem?_eq_getElem hb1, hH b _ (List.getElem?_eq_getElem hb1)]
        rfl
      · obtain ⟨g1, g2, g3⟩ := out hout
        exact ⟨g1, g2, g3, fun hg => E.frm.blk _ (hs.lt hc hg) (hnM hc hg hout)⟩
    arr := fun c T sz xs' hc hx => by
      rcases unj_cases hi1 c with ⟨b, hb, rfl, _⟩ | ⟨hout, _⟩
      · have hb1 : b < H1.length := by omega
        rw [hat hb, Option.map_eq_some_iff] at hx
        obtain ⟨o, ho, e⟩ := hx
        cases o <;> simp [relO] at e
        obtain ⟨rfl, rfl, rfl⟩ := e
        obtain ⟨xs, g1, g2⟩ := E.arr b _ _ _ hb1 ho
        refine ⟨_, hH b _ g1, ?_⟩
        rw [hρ hb, hgg hb]
        simp only [List.length_map]
        exact g2
      · obtain ⟨g1, g2, g3⟩ := out hout
        rw [g1] at hx
        exact ⟨xs', hx, .inr ⟨rfl, g2, g3, fun hg cur hcur => ⟨cur, (E.frm.blk _ (hs.lt hc hg) (hnM hc hg hout)).trans hcur, rfl⟩⟩⟩
    map := fun c ks ds hc => by
      rcases unj_cases hi1 c with ⟨b, hb, rfl, _⟩ | ⟨hout, _⟩
      · have hb1 : b < H1.length := by omega
        have h2 := hH b _ (List.getElem?_eq_getElem hb1)
        rw [hc] at h2
        cases ho : H1[b] with
        | map ks0 ds0 =>
          obtain ⟨g1, ks', ds', g2⟩ := E.map b ks0 ds0 (by show H1[b]? = _; rw [List.getElem?_eq_getElem hb1, ho])
          exact ⟨(hρ hb).trans g1, ks', ds'.map (rel j), by rw [hat hb, g2]; rfl⟩
        | arr _ _ _ => rw [ho] at h2; cases h2
        | iter _ _ _ => rw [ho] at h2; cases h2
      · obtain ⟨g1, g2, g3⟩ := out hout
        exact ⟨g2, ks, ds, g1.trans hc⟩
    iter := fun c m n l hc => by
      rcases unj_cases hi1 c with ⟨b, hb, rfl, _⟩ | ⟨hout, _⟩
      · have hb1 : b < H1.length := by omega
        have h2 := hH b _ (List.getElem?_eq_getElem hb1)
        rw [hc] at h2
        cases ho : H1[b] with
        | iter m0 n0 l0 =>
          rw [ho] at h2
          simp [relO] at h2
          obtain ⟨rfl, rfl, rfl⟩ := h2
          obtain ⟨g1, l', g2⟩ := E.iter b m0 n l (by show H1[b]? = _; rw [List.getElem?_eq_getElem hb1, ho])
          exact ⟨(hρ hb).trans g1, l', by rw [hat hb, g2]; rfl⟩
        | arr _ _ _ => rw [ho] at h2; cases h2
        | map _ _ => rw [ho] at h2; cases h2
      · obtain ⟨g1, g2, g3⟩ := out hout
        exact ⟨g2, l, g1.trans hc⟩
    nw := fun c hc hg => by
      rcases unj_cases hi1 c with ⟨b, hb, rfl, _⟩ | ⟨hout, _⟩
      · rw [hρ hb]
        rw [hgg hb] at hg
        rcases E.nw b hb hg with g | ⟨g1, g2, g3⟩
        · exact .inl g
        · exact .inr ⟨hj b g1, g2, g3⟩
      · obtain ⟨g1, g2, g3⟩ := out hout
        rw [g3] at hg
        exact .inr ⟨by rw [← hlenX]; exact hc, g2, hg⟩ }
  refine ⟨backX X X1 j, _, rel j d, ms.map j, E2, ?_, rfl, Bl.back (X := X) rfl hj1 hi1 (by rw [hlen]; exact hBd) hr, d, X1.H, ms, hRd, rfl, rfl, rfl⟩
  refine ⟨S.gl, fun k hk => hk.elim (fun h => Nat.lt_of_lt_of_le (hs.mlt k h.1) E.frm.size) (S.mlt k), S.flt, fun k hk hm => ?_, fun c hc hg => ?_, fun c c' hc hc' hg hg' he => ?_, fun c o hc => ?_⟩
  · rcases hm with ⟨h1, h2⟩ | h1
    · rcases E.fn k hk with h3 | h3
      · exact hs.dj k h3 h1
      · have := hs.mlt k h1
        have h3 : X.w.heap.size ≤ k := h3
        omega
    · exact S.dj k hk h1
  · rcases unj_cases hi1 c with ⟨b, hb, rfl, _⟩ | ⟨hout, _⟩
    · rw [hgg hb] at hg
      rw [hρ hb]
      exact .inr (S.im b hb hg)
    · obtain ⟨g1, g2, g3⟩ := out hout
      rw [g3] at hg
      rw [g2]
      have hc : c < X.H.length := by rw [← hlenX]; exact hc
      exact .inl ⟨hs.im c hc hg, hnM hc hg hout⟩
  · have side : ∀ {c b : Nat}, c < X.H.length → X.gh c = false → (∀ b, b < X1.H.length → j b ≠ c) → b < X1.H.length → X1.gh b = false → X.ρ c ≠ X1.ρ b := fun {c b} hc hg hout hb hgb e => by
      have h1 := S.im b hb hgb
      rw [← e] at h1
      rcases E.mn _ h1 with h2 | h2
      · exact hnM hc hg hout h2
      · have := hs.lt hc hg
        have h2 : X.w.heap.size ≤ X.ρ c := h2
        omega
    rcases unj_cases hi1 c with ⟨b, hb, rfl, _⟩ | ⟨hout, _⟩ <;> rcases unj_cases hi1 c' with ⟨b', hb', rfl, _⟩ | ⟨hout', _⟩
    · rw [hρ hb, hρ hb'] at he
      rw [hgg hb] at hg
      rw [hgg hb'] at hg'
      rw [S.inj b b' hb hb' hg hg' he]
    · obtain ⟨_, g2, g3⟩ := out hout'
      rw [hρ hb, g2] at he
      rw [hgg hb] at hg
      rw [g3] at hg'
      exact absurd he.symm (side (by rw [← hlenX]; exact hc') hg' hout' hb hg)
    · obtain ⟨_, g2, g3⟩ := out hout
      rw [hρ hb', g2] at he
      rw [hgg hb'] at hg'
      rw [g3] at hg
      exact absurd he (side (by rw [← hlenX]; exact hc) hg hout hb' hg')
    · obtain ⟨_, g2, g3⟩ := out hout
      obtain ⟨_, g5, g6⟩ := out hout'
      rw [g2, g5] at he
      rw [g3] at hg
      rw [g6] at hg'
      exact hs.inj c c' (by rw [← hlenX]; exact hc) (by rw [← hlenX]; exact hc') hg hg' he
  · rcases unj_cases hi1 c with ⟨b, hb, rfl, _⟩ | ⟨hout, _⟩
    · rw [hat hb, Option.map_eq_some_iff] at hc
      obtain ⟨o0, ho, rfl⟩ := hc
      have hB := S.blk b o0 ho
      have hBl := hBO o0 (List.mem_of_getElem? ho)
      have bk : ∀ {d : D} {y : Value}, Bl H1.length d → Rp X1 d y → Rp (backX X X1 j) (rel j d) y := fun hb hr => Bl.back (X := X) hlen hj hi hb hr
      cases o0 with
      | arr T sz xs =>
        rcases hB with ⟨hg, hx⟩ | ⟨hg, cur, hc, hl, hz, hv⟩
        · exact .inl ⟨(hgg hb).trans hg, by simpa using hx⟩
        · refine .inr ⟨(hgg hb).trans hg, cur, by rw [hρ hb]; exact hc, by simpa using hl, fun ds hd => ?_, fun i k d hd => ?_⟩
          · obtain ⟨ds0, hd0, rfl⟩ := List.mem_map.1 hd
            simpa using hz ds0 hd0
          · obtain ⟨l, h1, h2⟩ := at2_some.1 hd
            rw [List.getElem?_map, Option.map_eq_some_iff] at h1
            obtain ⟨l0, h1, rfl⟩ := h1
            rw [List.getElem?_map, Option.map_eq_some_iff] at h2
            obtain ⟨d0, h2, rfl⟩ := h2
            obtain ⟨x, hx, ho1, hr1⟩ := hv i k d0 (at2_some.2 ⟨l0, h1, h2⟩)
            exact ⟨x, hx, ho1, bk (hBl l0 (List.mem_of_getElem? h1) d0 (List.mem_of_getElem? h2)) hr1⟩
      | map ks ds =>
        obtain ⟨hg, l, hc, hl, hd, hv⟩ := hB
        refine ⟨(hgg hb).trans hg, l, by rw [hρ hb]; exact hc, hl, by simpa using hd, fun i d m h1 h2 => ?_⟩
        rw [List.getElem?_map, Option.map_eq_some_iff] at h1
        obtain ⟨d0, h1, rfl⟩ := h1
        exact bk (hBl d0 (List.mem_of_getElem? h1)) (hv i d0 m h1 h2)
      | iter m n l =>
        obtain ⟨hg, k, hc, hr1⟩ := hB
        exact ⟨(hgg hb).trans hg, k, by rw [hρ hb]; exact hc, bk hBl hr1⟩
    · have hcl : c < X.H.length := by rw [← hlenX]; exact lt_of_some hc
      rw [(out hout).1] at hc
      exact (hs.blk c o hc).ev E2 hs hcl fun hm => by
        obtain ⟨b, hbm, e⟩ := List.mem_map.1 hm
        exact hout b (by have := hms b hbm; omega) e
theorem backH_eq{j:Nat→Nat}{H H0 H':Heap}(e:Emb j H0 H')(hl:H'.length=H.length)(ho:∀c,(∀b,b<H0.length→j b≠c)→H'[c]? =H[c]?):backH j H H0=H':=by
 apply List.ext_getElem?
 intro c
 rcases unj_cases e.inj c with⟨b,hb,rfl,_⟩ | ⟨hout,_⟩
 ·rw[backH_in (fun b hb=>by rw[←hl];exact e.lt b hb) e.inj hb,List.getElem?_eq_getElem hb]
  exact(e.at_ b _ (List.getElem?_eq_getElem hb)).symm
 ·rw[backH_out hout,ho c hout]
end
section
variable {P : Program} {n : Nat} {A : Nat → Bool} {b0 : Nat} {K : APost} {s : St} {c : Code} {X : Cx} {M : Nat → Prop}
def gcX(X:Cx)(b:Nat)(o o':AO):Cx:=⟨X.w,X.F,X.ρ,fun k=>cond (Nat.beq k X.H.length) true (X.gh k),X.H.set b o++[o']⟩
theorem AW_gcell (b i k T sz T' sz' : Nat) {xs : List (List D)} {ds : List D} (hb : s.H[b]? = some (.arr T sz xs)) (hi : xs[i]? = some ds) (hk : ds[k]? = some (.v (.slice none 0 0))) (hA : b0 ≤ b ∨ A b = true) (hl0 : b0 ≤ s.H.length)
    (h : AW P n A b0 c K ⟨s.e, s.H.set b (.arr T sz (xs.set i (ds.set k (.sl s.H.length 0 0 0)))) ++ [.arr T' sz' []]⟩) : AW P n A b0 c K s := by
  refine ⟨fun X M ec hs hl hH he => ?_⟩
  have hbX : X.H[b]? = some (.arr T sz xs) := by rw [hH]; exact hb
  have hlt := lt_of_some hbX
  obtain ⟨o, hoo⟩ : ∃ o, o = AO.arr T sz (xs.set i (ds.set k (.sl s.H.length 0 0 0))) := ⟨_, rfl⟩
  obtain ⟨X', hX'⟩ : ∃ X', X' = gcX X b o (.arr T' sz' []) := ⟨_, rfl⟩
  have hgh : ∀ {q : Nat}, q < X.H.length → X'.gh q = X.gh q := fun hq => by subst hX'; simp only [gcX, beq_ne (Nat.ne_of_lt hq), cond_false]
  have hnew : X'.H[X.H.length]? = some (.arr T' sz' []) := by subst hX'; simp [gcX]
  have hset : X'.H[b]? = some o := by subst hX'; simp [gcX, List.getElem?_append_left, hlt]
  have hold : ∀ {q : Nat}, q < X.H.length → q ≠ b → X'.H[q]? = X.H[q]? := fun {q} hq hne => by
    subst hX'
    simp only [gcX]
    rw [List.getElem?_append_left (by simpa using hq), List.getElem?_set_ne (Ne.symm hne)]
  have hlen : X'.H.length = X.H.length + 1 := by subst hX'; simp [gcX]
  have E : Ev (fun q => q = b) X M X' M := {
    frm := by subst hX'; exact Frm.refl _ _
    mn := fun _ h => .inl h
    ff := fun _ h => by subst hX'; exact h
    fn := fun _ h => by subst hX'; exact .inl h
    len := by omega
    old := fun q hq hn => ⟨hold hq hn, by subst hX'; rfl, hgh hq, fun _ => by subst hX'; rfl⟩
    arr := fun q T0 sz0 xs0 hq hx => by
      by_cases hqb : q = b
      · subst hqb
        rw [hset] at hx
        cases hx
        cases hoo
        refine ⟨xs, hbX, .inr ⟨by simp, by subst hX'; rfl, hgh hq, fun _ cur hc => ⟨cur, by subst hX'; exact hc, rfl⟩⟩⟩
      · rw [hold hq hqb] at hx
        exact ⟨xs0, hx, .inr ⟨rfl, by subst hX'; rfl, hgh hq, fun _ cur hc => ⟨cur, by subst hX'; exact hc, rfl⟩⟩⟩
    map := fun q ks ds hq => by
      have hne : q ≠ b := fun e => by subst e; rw [hbX] at hq; cases hq
      exact ⟨by subst hX'; rfl, ks, ds, (hold (lt_of_some hq) hne).trans hq⟩
    iter := fun q m n l hq => by
      have hne : q ≠ b := fun e => by subst e; rw [hbX] at hq; cases hq
      exact ⟨by subst hX'; rfl, l, (hold (lt_of_some hq) hne).trans hq⟩
    nw := fun q hq hg => by
      by_cases hqn : q = X.H.length
      · subst hqn
        subst hX'
        simp [gcX] at hg
      · have hq' : q < X.H.length := by omega
        rw [hgh hq'] at hg
        exact .inr ⟨hq', by subst hX'; rfl, hg⟩ }
  have hgl : ∀ {q : Nat}, q < X'.H.length → X'.gh q = false → q < X.H.length ∧ X.gh q = false := fun {q} hq hg => by
    by_cases hqn : q = X.H.length
    · subst hqn; subst hX'; simp [gcX] at hg
    · have hq' : q < X.H.length := by omega
      rw [hgh hq'] at hg
      exact ⟨hq', hg⟩
  have hrp : Rp X' (.sl s.H.length 0 0 0) (.slice none 0 0) := by
    rw [← hH]
    refine .sl (by omega) fun T0 sz0 xs0 hx => ?_
    rw [hnew] at hx
    cases hx
    exact ⟨Nat.le_refl _, fun _ => .inl ⟨rfl, rfl⟩⟩
  have S : Sim X' M := by
    refine hs.step E (fun q hq => by subst hX'; exact hs.mlt q hq) (fun q hq => by subst hX'; exact hs.flt q hq) (fun q hq => by subst hX'; exact hs.dj q hq) (fun q hq hg => by subst hX'; exact hs.im q (hgl hq hg).1 (hgl hq hg).2)
      (fun q q' hq hq' hg hg' he => hs.inj q q' (hgl hq hg).1 (hgl hq' hg').1 (hgl hq hg).2 (hgl hq' hg').2 (by subst hX'; exact he)) fun q ob hq => ?_
    by_cases hqb : q = b
    · subst hqb
      right
      rw [hset] at hq
      cases hq
      cases hoo
      rcases hs.blk q _ hbX with ⟨_, hx⟩ | ⟨hg, cur, hc, hl', hz, hv⟩
      · rw [hx] at hi; cases hi
      · refine .inr ⟨(hgh hlt).trans hg, cur, by subst hX'; exact hc, by simpa using hl', fun l hl => ?_, fun i' k' d hd => ?_⟩
        · rcases List.mem_or_eq_of_mem_set hl with h | h
          · exact hz l h
          · rw [h, List.length_set]; exact hz ds (List.mem_of_getElem? hi)
        · obtain ⟨l, h1, h2⟩ := at2_some.1 hd
          by_cases hii : i = i'
          · subst hii
            rw [List.getElem?_set_self (List.getElem?_eq_some_iff.1 hi).1] at h1
            cases h1
            by_cases hkk : k = k'
            · subst hkk
              rw [List.getElem?_set_self (List.getElem?_eq_some_iff.1 hk).1] at h2
              cases h2
              obtain ⟨x, hx, ho, hr⟩ := hv i k _ (at2_some.2 ⟨ds, hi, hk⟩)
              refine ⟨x, hx, ho, ?_⟩
              rw [hr.v_inv]; exact hrp
            · rw [List.getElem?_set_ne hkk] at h2
              obtain ⟨x, hx, ho, hr⟩ := hv i k' d (at2_some.2 ⟨ds, hi, h2⟩)
              exact ⟨x, hx, ho, hr.ev E hs⟩
          · rw [List.getElem?_set_ne hii] at h1
            obtain ⟨x, hx, ho, hr⟩ := hv i' k' d (at2_some.2 ⟨l, h1, h2⟩)
            exact ⟨x, hx, ho, hr.ev E hs⟩
    · by_cases hqn : q = X.H.length
      · subst hqn
        rw [hnew] at hq
        cases hq
        exact .inr (.inl ⟨by subst hX'; simp [gcX], rfl⟩)
      · exact .inl ⟨by have := lt_of_some hq; omega, hqb⟩
  have Eb : EvB b0 (fun q => A q = true) X M X' M := by
    have E1 := E.b hl
    refine ⟨E1.frm, E1.mn, E1.ff, E1.fn, E1.len, fun q hq hn => E1.old q hq fun e => ?_, E1.arr, E1.map, E1.iter, E1.nw⟩
    subst e
    rcases hA with h | h
    · omega
    · exact hn h
  refine W_mono ((h.run X' M ec S (by omega) (by subst hX'; subst hoo; simp only [gcX]; rw [← hH]) (he.ev E hs))) ?_ |> fun hw => by subst hX'; exact hw
  rintro ex e2 w2 ⟨X2, M2, s2, g1, g2, g3, g4, g5, g6⟩
  exact ⟨X2, M2, s2, Eb.trans g1 hs, g2, g3, g4, g5, g6⟩
end
end Go.Ax
namespace Go.Ax
open Go Go.Wx
variable [Globs]
section
variable {P : Program} {n : Nat} {A : Nat → Bool} {b0 : Nat}
def restC:Nat→Code→Code
 | 0,c=>c
 | n+1,.seq _ b=>restC n b
 | _+1,c=>c
def dcut(P:Program)(n:Nat)(A:Nat→Bool)(b0:Nat)(hp:List Nat)(pl:Plan)(k:Nat):Code→DPost→(Nat→D)→Heap→Prop:=
 Nat.rec (motive:=fun _=>Code→DPost→(Nat→D)→Heap→Prop) (fun c K e H=>AW P n A b0 c (fun ex s=>K ex s.e s.H) ⟨e,H⟩)
  (fun _ ih c K e H=>match c with
   | .seq a b=>dcode P n A b0 hp pl a (fun ex e H=>match ex with | .normal=>ih b K e H | ex=>K ex e H) e H
   | c=>dcode P n A b0 hp pl c K e H) k
theorem dcut_ok{hp:List Nat}{pl:Plan}(hm:P.follows .mixedOrders=true):∀{k:Nat} {c:Code} {K:DPost} {e:Nat→D} {H:Heap},plansOk pl c=true→dcut P n A b0 hp pl k c K e H→AW P n A b0 c (fun ex s=>K ex s.e s.H) ⟨e,H⟩
 | 0,c,K,e,H,_,h=>h
 | k+1,c,K,e,H,hq,h=>by
  cases c with
  | seq a b=>
   have h:dcode P n A b0 hp pl a (fun ex e H=>match ex with | .normal=>dcut P n A b0 hp pl k b K e H | ex=>K ex e H) e H:=h
   simp only[plansOk,Bool.and_eq_true]at hq
   refine AW_seq (AW_mono (dcode_ok hm hq.1 h) fun ex s hk=>?_)
   cases ex<;>first | exact dcut_ok hm hq.2 hk | exact hk
  | _=>exact dcode_ok (hp:=hp) hm hq h
theorem goC(k:Nat){c:Code}{K:APost}{e:Nat→D}{H:Heap}(hp:List Nat)(pl:Plan)(h:dcut P n A b0 hp pl k c (fun ex e H=>K ex ⟨e,H⟩) e H)(hm:P.follows .mixedOrders=true:=by kernel_rfl)(hpl:plansOk pl c=true:=by kernel_rfl):AW P n A b0 c K ⟨e,H⟩:=dcut_ok hm hpl h
theorem AW_has{c:Code}{K:APost}{e:Nat→D}{H:Heap}{l:List (Nat × D)}(h:∀e,AW P n A b0 c K ⟨dupds e l,H⟩)(ha:Agr e l):AW P n A b0 c K ⟨e,H⟩:=by
 rw[ha.eq];exact h e
theorem AW_rest{c c':Code}{K:APost}{s:St}(h:AW P n A b0 c' K s)(e:c'=c:=by rfl):AW P n A b0 c K s:=e▸h
end
end Go.Ax
namespace Go.Ax
open Go Go.Wx
variable [Globs]
section
variable {P : Program} {X X' : Cx} {M M' : Nat → Prop}
theorem wr_ev (hs : Sim X M) {w' : World} {b T sz : Nat} {xs xs' : List (List D)} {cur cur' : Array Value} (hb : X.H[b]? = some (.arr T sz xs)) (hg : X.gh b = false) (hl : xs'.length = xs.length)
    (hc : X.w.heap[X.ρ b]? = some (.cells cur T (0, 0))) (hc' : w'.heap[X.ρ b]? = some (.cells cur' T (0, 0))) (hsz : cur'.size = cur.size) (F : Frm (fun k => k = X.ρ b) X.w w') : Ev (fun k => k ∈ [b]) X M (setX X w' b (.arr T sz xs')) M where
  frm := F.mono fun k _ e => by subst e; exact hs.im b (lt_of_some hb) hg
  mn _ h := .inl h
  ff _ h := h
  fn _ h := .inl h
  len := by simp [setX]
  old b' hb' hn := by
    have hne : b' ≠ b := by simpa using hn
    refine ⟨setX_old hne, rfl, rfl, fun hg' => F.blk _ (hs.lt hb' hg') fun e => hne ?_⟩
    exact hs.inj b' b hb' (lt_of_some hb) hg' hg e
  arr b' T' sz' xs2 hb' hx := by
    by_cases hne : b' = b
    · subst hne
      rw [setX_new hb'] at hx
      cases hx
      refine ⟨xs, hb, .inr ⟨hl, rfl, rfl, fun _ c hc2 => ?_⟩⟩
      rw [hc] at hc2
      cases hc2
      exact ⟨cur', hc', hsz⟩
    · rw [setX_old hne] at hx
      refine ⟨xs2, hx, .inr ⟨rfl, rfl, rfl, fun hg' c hc2 => ⟨c, (F.blk _ (hs.lt hb' hg') fun e => hne (hs.inj b' b hb' (lt_of_some hb) hg' hg e)).trans hc2, rfl⟩⟩⟩
  map b' es c hb' := by
    have hne : b' ≠ b := fun e => by subst e; rw [hb] at hb'; cases hb'
    exact ⟨rfl, es, c, (setX_old hne).trans hb'⟩
  iter b' m n l hb' := by
    have hne : b' ≠ b := fun e => by subst e; rw [hb] at hb'; cases hb'
    exact ⟨rfl, l, (setX_old hne).trans hb'⟩
  nw b' hb' hg' := .inr ⟨by simpa [setX] using hb', rfl, hg'⟩
theorem wr_sim (hs : Sim X M) {w' : World} {b T sz : Nat} {xs xs' : List (List D)} {cur cur' : Array Value} (hb : X.H[b]? = some (.arr T sz xs)) (hg : X.gh b = false) (hl : xs'.length = xs.length)
    (hc : X.w.heap[X.ρ b]? = some (.cells cur T (0, 0))) (hc' : w'.heap[X.ρ b]? = some (.cells cur' T (0, 0))) (hsz : cur'.size = cur.size) (F : Frm (fun k => k = X.ρ b) X.w w') (hB : Blk (setX X w' b (.arr T sz xs')) b (.arr T sz xs')) :
    Sim (setX X w' b (.arr T sz xs')) M := by
  have hlen : (setX X w' b (.arr T sz xs')).H.length = X.H.length := by simp [setX]
  refine hs.step (wr_ev hs hb hg hl hc hc' hsz F) (fun k hk => Nat.lt_of_lt_of_le (hs.mlt k hk) F.size) (fun k hk => Nat.lt_of_lt_of_le (hs.flt k hk) F.size) hs.dj
    (fun b' hb' hg' => hs.im b' (hlen ▸ hb') hg') (fun b1 b2 h1 h2 g1 g2 => hs.inj b1 b2 (hlen ▸ h1) (hlen ▸ h2) g1 g2) ?_
  intro b' o hb'
  by_cases hne : b' = b
  · subst hne
    rw [setX_new (lt_of_some hb)] at hb'
    cases hb'
    exact .inr hB
  · exact .inl ⟨hlen ▸ lt_of_some hb', by simpa using hne⟩
end
section
open Go.Sort
variable {P : Program} {X : Cx} {M : Nat → Prop} {α : Type} [Inhabited α] {enc : α → Value}
def encR(enc:α→Value)(l:List α):List (List D):=l.map fun x=>[.v (enc x)]
theorem row_holds(hs:Sim X M)(h1:∀x,(enc x).oneCell'=true){b T:Nat}{l:List α}(hb:X.H[b]? =some (.arr T 1 (encR enc l)))(hg:X.gh b=false):Holds enc X.w (X.ρ b) 0 l.toArray:=by
 rcases hs.blk b _ hb with⟨h,_⟩ | ⟨_,cur,hc,hl,hz,hv⟩
 ·rw[hg]at h;cases h
 intro j hj
 have hj:j<l.length:=by simpa using hj
 obtain⟨x,hx,_,hr⟩:=hv j 0 (.v (enc l[j])) (at2_some.2 ⟨[.v (enc l[j])],by simp[encR,hj],rfl⟩)
 rw[hr.v_inv]at hx
 refine⟨?_,?_⟩
 ·have hx':cur[j]? =some (enc l[j]):=by simpa using hx
  have:=cell_blk hc hx'
  rw[Nat.zero_add,this,getElem!_pos _ j (by simpa using hj)]
  simp
 ·simp[World.frozen?,hc]
theorem row_step (hs : Sim X M) (h1 : ∀ x, (enc x).oneCell' = true) {b T : Nat} {l l' : List α} (hb : X.H[b]? = some (.arr T 1 (encR enc l))) (hg : X.gh b = false) (hl : l'.length = l.length) (q : Nat) (os : Array Obj) :
    Ev (fun k => k ∈ [b]) X M (setX X (grow (putRow enc (Sort.ahead X.w q) (X.ρ b) 0 l'.toArray) os) b (.arr T 1 (encR enc l'))) M ∧ Sim (setX X (grow (putRow enc (Sort.ahead X.w q) (X.ρ b) 0 l'.toArray) os) b (.arr T 1 (encR enc l'))) M := by
  rcases hs.blk b _ hb with ⟨h, _⟩ | ⟨_, cur, hc, hlc, hz, hv⟩
  · rw [hg] at h; cases h
  have hlt := hs.lt (lt_of_some hb) hg
  have hlt2 : X.ρ b < (putRow enc (Sort.ahead X.w q) (X.ρ b) 0 l'.toArray).heap.size := by rw [size_putRow]; exact hlt
  have hc' : (grow (putRow enc (Sort.ahead X.w q) (X.ρ b) 0 l'.toArray) os).heap[X.ρ b]? = some (.cells (putCells enc 0 l'.toArray cur) T (0, 0)) := by
    rw [heap_grow_old _ _ hlt2]
    unfold putRow mapBlock
    simp only [Array.getElem?_modify, if_true, heap_ahead, hc, Option.map_some, onCells]
  have F : Frm (fun k => k = X.ρ b) X.w (grow (putRow enc (Sort.ahead X.w q) (X.ρ b) 0 l'.toArray) os) := by
    refine ⟨rfl, rfl, rfl, ?_, ?_⟩
    · rw [size_grow, size_putRow]; exact Nat.le_add_right _ _
    · intro k hk hne
      rw [heap_grow_old _ _ (by rw [size_putRow]; exact hk)]
      unfold putRow mapBlock
      simp only [Array.getElem?_modify, heap_ahead]
      rw [if_neg (fun e => hne e.symm)]
  have hll : (encR enc l').length = (encR enc l).length := by simp [encR, hl]
  have hsz : (putCells enc 0 l'.toArray cur).size = cur.size := by simp [putCells]
  refine ⟨wr_ev hs hb hg hll hc hc' hsz F, wr_sim hs hb hg hll hc hc' hsz F (.inr ⟨hg, _, hc', ?_, fun ds hd => ?_, fun i j d hd => ?_⟩)⟩
  · rw [hsz, hll]; exact hlc
  · obtain ⟨x, _, rfl⟩ := List.mem_map.1 hd
    rfl
  · obtain ⟨ds, g1, g2⟩ := at2_some.1 hd
    unfold encR at g1
    rw [List.getElem?_map, Option.map_eq_some_iff] at g1
    obtain ⟨x, g1, rfl⟩ := g1
    cases j with
    | succ j => simp at g2
    | zero =>
      simp at g2
      subst g2
      have hi := (List.getElem?_eq_some_iff.1 g1).1
      have hic : i < cur.size := by simp [encR] at hlc; omega
      refine ⟨enc x, ?_, h1 x, .v _⟩
      unfold putCells
      rw [Array.getElem?_mapIdx, Array.getElem?_eq_getElem (by omega)]
      simp only [Option.map_some, Nat.zero_le, true_and, Nat.zero_add, Nat.sub_zero, Nat.mul_one, Nat.add_zero]
      rw [if_pos (by simpa using hi), getElem!_pos _ i (by simpa using hi)]
      simp [(List.getElem?_eq_some_iff.1 g1).2]
theorem AC_row (h1 : ∀ x, (enc x).oneCell' = true) {f : FuncId} {b T n : Nat} {l l' : List α} {H : Heap} (hb : H[b]? = some (.arr T 1 (encR enc l))) (hn : l.length = n) (hl : l'.length = l.length) {R : OpK} (hcb : callB P f = true)
    (hz : l = [] → ∀ (a : Option Addr) (c : Nat) (w : World), Calls P f #[.slice a 0 c] w fun e w' => ∃ v, e = .returned v ∧ w' = w ∧ ∀ X : Cx, X.H = H → (∀ m, m ≤ n → Rp X (.sl b 0 m n) (.slice a m c)) → ∃ d, Rp X d v ∧ R d (H.set b (.arr T 1 (encR enc l'))) [b])
    (hc : ∀ (blk c : Nat) (w : World), n ≤ c → Holds enc w blk 0 l.toArray → blk < w.heap.size → Calls P f #[.slice (some ⟨blk, 0, none⟩) n c] w fun e w' => ∃ v, e = .returned v ∧ ∃ q os, w' = grow (putRow enc (Sort.ahead w q) blk 0 l'.toArray) os ∧
      ∀ X : Cx, X.H = H.set b (.arr T 1 (encR enc l')) → (∀ m, m ≤ n → Rp X (.sl b 0 m n) (.slice (some ⟨blk, 0, none⟩) m c)) → ∃ d, Rp X d v ∧ R d (H.set b (.arr T 1 (encR enc l'))) [b]) : AC P f [.sl b 0 n n] H R := by
  refine ⟨hcb, fun X M vs hs hH ha => ?_⟩
  subst hH
  obtain ⟨y, rfl⟩ : ∃ y, vs = [y] := by
    match vs, ha.1 with
    | [y], _ => exact ⟨y, rfl⟩
  have hr := ha.2 0 _ y rfl rfl
  obtain ⟨a, c, rfl⟩ : ∃ a c, y = .slice a n c := by cases hr; exact ⟨_, _, rfl⟩
  have hnl : (encR enc l).length = n := by simp [encR, hn]
  rcases hs.sl hr hb hnl with ⟨h0, _⟩ | ⟨hg, rfl, hnc, hcm, cur, hcur, hcs⟩
  · subst h0
    have hl0 : l = [] := List.eq_nil_of_length_eq_zero hn
    refine Calls.mono (hz hl0 a c X.w) ?_
    rintro e w' ⟨v, rfl, rfl, hk⟩
    obtain ⟨d, hd, hR⟩ := hk X rfl fun m hm => by obtain rfl : m = 0 := by omega
                                                  exact hr
    have hl0' : l' = [] := List.eq_nil_of_length_eq_zero (by rw [hl, hn])
    have hset : X.H.set b (.arr T 1 (encR enc l')) = X.H := by
      apply List.ext_getElem?
      intro k
      by_cases hk : b = k
      · subst hk; rw [List.getElem?_set_self (lt_of_some hb), hb, hl0, hl0']
      · rw [List.getElem?_set_ne hk]
    rw [hset] at hR
    exact ⟨v, rfl, X, M, d, [b], Ev.refl _ _ _, hs, rfl, hd, hR⟩
  · rw [Nat.zero_mul] at hr ⊢
    refine Calls.mono (hc (X.ρ b) c X.w hnc (row_holds hs h1 hb hg) (hs.lt (lt_of_some hb) hg)) ?_
    rintro e w' ⟨v, rfl, q, os, rfl, hk⟩
    obtain ⟨E, S⟩ := row_step hs h1 hb hg hl q os
    have hset : (setX X (grow (putRow enc (Sort.ahead X.w q) (X.ρ b) 0 l'.toArray) os) b (.arr T 1 (encR enc l'))).H[b]? = some (.arr T 1 (encR enc l')) := setX_new (lt_of_some hb)
    have hn' : (encR enc l').length = n := by simp [encR, hl, hn]
    obtain ⟨d, hd, hR⟩ := hk (setX X (grow (putRow enc (Sort.ahead X.w q) (X.ρ b) 0 l'.toArray) os) b (.arr T 1 (encR enc l'))) rfl fun m hm => by
      have h2 := hr.ev E hs
      cases h2 with
      | sl hb' hh =>
        refine .sl hb' fun T' sz' xs' hx => ?_
        obtain ⟨g1, g2⟩ := hh T' sz' xs' hx
        refine ⟨g1, fun e => ?_⟩
        rcases g2 e with ⟨g3, g4⟩ | ⟨g3, g4, g5, g6, g7⟩
        · exact .inl ⟨by omega, g4⟩
        · exact .inr ⟨g3, g4, by omega, g6, g7⟩
    exact ⟨v, rfl, _, M, d, [b], E, S, rfl, hd, hR⟩
end
end Go.Ax
namespace Go.Ax
open Go Go.Wx
variable [Globs]
section
variable {P : Program} {n : Nat} {A : Nat → Bool} {b0 : Nat} {K : APost} {s : St} {c : Code} {X : Cx} {M : Nat → Prop}
theorem AW_ncell (b i k T sz : Nat) {xs : List (List D)} {ds : List D} (hb : s.H[b]? = some (.arr T sz xs)) (hi : xs[i]? = some ds) (hk : ds[k]? = some (.v (.slice none 0 0))) (hA : b0 ≤ b ∨ A b = true)
    (h : AW P n A b0 c K ⟨s.e, s.H.set b (.arr T sz (xs.set i (ds.set k (.row false []))))⟩) : AW P n A b0 c K s := by
  refine ⟨fun X M ec hs hl hH he => ?_⟩
  have hbX : X.H[b]? = some (.arr T sz xs) := by rw [hH]; exact hb
  have hlt := lt_of_some hbX
  obtain ⟨o, hoo⟩ : ∃ o, o = AO.arr T sz (xs.set i (ds.set k (.row false []))) := ⟨_, rfl⟩
  obtain ⟨X', hX'⟩ : ∃ X', X' = setX X X.w b o := ⟨_, rfl⟩
  have hset : X'.H[b]? = some o := by subst hX'; exact setX_new hlt
  have hold : ∀ {q : Nat}, q ≠ b → X'.H[q]? = X.H[q]? := fun {q} hne => by subst hX'; exact setX_old hne
  have hlen : X'.H.length = X.H.length := by subst hX'; simp [setX]
  have E : Ev (fun q => q = b) X M X' M := {
    frm := by subst hX'; exact Frm.refl _ _
    mn := fun _ h => .inl h
    ff := fun _ h => by subst hX'; exact h
    fn := fun _ h => by subst hX'; exact .inl h
    len := by omega
    old := fun q hq hn => ⟨hold hn, by subst hX'; rfl, by subst hX'; rfl, fun _ => by subst hX'; rfl⟩
    arr := fun q T0 sz0 xs0 hq hx => by
      by_cases hqb : q = b
      · subst hqb
        rw [hset] at hx
        cases hx
        cases hoo
        refine ⟨xs, hbX, .inr ⟨by simp, by subst hX'; rfl, by subst hX'; rfl, fun _ cur hc => ⟨cur, by subst hX'; exact hc, rfl⟩⟩⟩
      · rw [hold hqb] at hx
        exact ⟨xs0, hx, .inr ⟨rfl, by subst hX'; rfl, by subst hX'; rfl, fun _ cur hc => ⟨cur, by subst hX'; exact hc, rfl⟩⟩⟩
    map := fun q ks ds hq => by
      have hne : q ≠ b := fun e => by subst e; rw [hbX] at hq; cases hq
      exact ⟨by subst hX'; rfl, ks, ds, (hold hne).trans hq⟩
    iter := fun q m n l hq => by
      have hne : q ≠ b := fun e => by subst e; rw [hbX] at hq; cases hq
      exact ⟨by subst hX'; rfl, l, (hold hne).trans hq⟩
    nw := fun q hq hg => by
      refine .inr ⟨by omega, by subst hX'; rfl, ?_⟩
      subst hX'; exact hg }
  have hrp : Rp X' (.row false []) (.slice none 0 0) := Rp.row (cl := false) (xs := []) (a := none) (c := 0) (sz := 0) (fun _ _ => undef) (fun h => nomatch h) ⟨Nat.le_refl _, Nat.zero_le _⟩ (fun _ h => nomatch h) (fun _ => rfl) (fun _ _ h => absurd rfl h) (fun _ i j d _ h => by simp [at2] at h) fun i j d h => by simp [at2] at h
  have S : Sim X' M := by
    refine hs.step E (fun q hq => by subst hX'; exact hs.mlt q hq) (fun q hq => by subst hX'; exact hs.flt q hq) (fun q hq => by subst hX'; exact hs.dj q hq) (fun q hq hg => by subst hX'; exact hs.im q (by simpa [setX] using hq) hg)
      (fun q q' hq hq' hg hg' he => by subst hX'; exact hs.inj q q' (by simpa [setX] using hq) (by simpa [setX] using hq') hg hg' he) fun q ob hq => ?_
    by_cases hqb : q = b
    · subst hqb
      right
      rw [hset] at hq
      cases hq
      cases hoo
      rcases hs.blk q _ hbX with ⟨_, hx⟩ | ⟨hg, cur, hc, hl', hz, hv⟩
      · rw [hx] at hi; cases hi
      · refine .inr ⟨by subst hX'; exact hg, cur, by subst hX'; exact hc, by simpa using hl', fun l hl => ?_, fun i' k' d hd => ?_⟩
        · rcases List.mem_or_eq_of_mem_set hl with h | h
          · exact hz l h
          · rw [h, List.length_set]; exact hz ds (List.mem_of_getElem? hi)
        · obtain ⟨l, h1, h2⟩ := at2_some.1 hd
          by_cases hii : i = i'
          · subst hii
            rw [List.getElem?_set_self (List.getElem?_eq_some_iff.1 hi).1] at h1
            cases h1
            by_cases hkk : k = k'
            · subst hkk
              rw [List.getElem?_set_self (List.getElem?_eq_some_iff.1 hk).1] at h2
              cases h2
              obtain ⟨x, hx, ho, hr⟩ := hv i k _ (at2_some.2 ⟨ds, hi, hk⟩)
              refine ⟨x, hx, ho, ?_⟩
              rw [hr.v_inv]; exact hrp
            · rw [List.getElem?_set_ne hkk] at h2
              obtain ⟨x, hx, ho, hr⟩ := hv i k' d (at2_some.2 ⟨ds, hi, h2⟩)
              exact ⟨x, hx, ho, hr.ev E hs⟩
          · rw [List.getElem?_set_ne hii] at h1
            obtain ⟨x, hx, ho, hr⟩ := hv i' k' d (at2_some.2 ⟨l, h1, h2⟩)
            exact ⟨x, hx, ho, hr.ev E hs⟩
    · exact .inl ⟨by have := lt_of_some hq; omega, hqb⟩
  have Eb : EvB b0 (fun q => A q = true) X M X' M := by
    have E1 := E.b hl
    refine ⟨E1.frm, E1.mn, E1.ff, E1.fn, E1.len, fun q hq hn => E1.old q hq fun e => ?_, E1.arr, E1.map, E1.iter, E1.nw⟩
    subst e
    rcases hA with h | h
    · omega
    · exact hn h
  refine W_mono ((h.run X' M ec S (by omega) (by subst hX'; subst hoo; simp only [setX]; rw [← hH]) (he.ev E hs))) ?_ |> fun hw => by subst hX'; exact hw
  rintro ex e2 w2 ⟨X2, M2, s2, g1, g2, g3, g4, g5, g6⟩
  exact ⟨X2, M2, s2, Eb.trans g1 hs, g2, g3, g4, g5, g6⟩
end
end Go.Ax
namespace Go.Ax
open Go Go.Wx
variable [Globs]
theorem Pur_lib {P : Program} {f : FuncId} {args : List Value} {r : D} (hcb : callB P f = true)
    (h : ∀ w, Globs.ok w → Calls P f args.toArray w fun e w' => ∃ v, e = .returned v ∧ Ext w w' ∧ ∀ X : Cx, X.w = w' → Rp X r v) : Pur P f (args.map .v) r := by
  intro H
  refine ⟨hcb, fun X M vs hs hH hv => ?_⟩
  subst hH
  have hvs : vs = args := by
    refine List.ext_getElem? fun j => ?_
    have hl := hv.1
    rw [List.length_map] at hl
    by_cases hj : j < vs.length
    · have h1 : (args.map D.v)[j]? = some (D.v (args[j]'(by omega))) := by rw [List.getElem?_map, List.getElem?_eq_getElem (by omega)]; rfl
      have h2 := hv.2 j _ _ h1 (List.getElem?_eq_getElem hj)
      rw [List.getElem?_eq_getElem hj, List.getElem?_eq_getElem (by omega), h2.v_inv]
    · rw [List.getElem?_eq_none (by omega), List.getElem?_eq_none (by omega)]
  subst hvs
  refine Calls.mono (h X.w hs.gl.1) ?_
  rintro e w' ⟨v, rfl, hE, hr⟩
  have E2 : Ev (fun b => b ∈ ([] : List Nat)) X M ⟨w', X.F, X.ρ, X.gh, X.H⟩ M :=
    { frm := Ext.frm hE, mn := fun _ h => .inl h, ff := fun k h => h, fn := fun k h => .inl h, len := Nat.le_refl _,
      old := fun b hb _ => ⟨rfl, rfl, rfl, fun hg => hE.blk _ (hs.lt hb hg) id⟩,
      arr := fun b T sz xs' hb hx => ⟨xs', hx, .inr ⟨rfl, rfl, rfl, fun _ cur hc => ⟨cur, (hE.blk _ (At.lt hc) id).trans hc, rfl⟩⟩⟩,
      map := fun b es c hb => ⟨rfl, es, c, hb⟩, iter := fun b m n l hb => ⟨rfl, l, hb⟩, nw := fun b hb hg => .inr ⟨hb, rfl, hg⟩ }
  exact ⟨v, rfl, _, M, r, [], E2, hs.step E2 (fun k hk => Nat.lt_of_lt_of_le (hs.mlt k hk) hE.size) (fun k hk => Nat.lt_of_lt_of_le (hs.flt k hk) hE.size) (fun k hk => hs.dj k hk) hs.im hs.inj (fun b o hb => .inl ⟨lt_of_some hb, by simp⟩), rfl, hr _ rfl, rfl, rfl, rfl⟩
theorem Pur_libv {P : Program} {f : FuncId} {args : List Value} {r : Value} (hcb : callB P f = true)
    (h : ∀ w, Globs.ok w → Calls P f args.toArray w fun e w' => e = .returned r ∧ Ext w w') : Pur P f (args.map .v) (.v r) :=
  Pur_lib hcb fun w hw => Calls.mono (h w hw) fun _ _ ⟨h1, h2⟩ => ⟨r, h1, h2, fun X _ => .v r⟩
theorem Ex_lib {P : Program} {f : FuncId} {args : List D} {H : Heap} {r : D} (hcb : callB P f = true)
    (h : ∀ X M vs, Sim X M → X.H = H → RpL X args vs → Calls P f vs.toArray X.w fun e w' => ∃ v, e = .returned v ∧ Ext X.w w' ∧ ∀ X' : Cx, X'.w = w' → Rp X' r v) : Ex P f args H r := by
  refine ⟨hcb, fun X M vs hs hH hv => ?_⟩
  refine Calls.mono (h X M vs hs hH hv) ?_
  rintro e w' ⟨v, rfl, hE, hr⟩
  have E2 : Ev (fun b => b ∈ ([] : List Nat)) X M ⟨w', X.F, X.ρ, X.gh, X.H⟩ M :=
    { frm := Ext.frm hE, mn := fun _ h => .inl h, ff := fun k h => h, fn := fun k h => .inl h, len := Nat.le_refl _,
      old := fun b hb _ => ⟨rfl, rfl, rfl, fun hg => hE.blk _ (hs.lt hb hg) id⟩,
      arr := fun b T sz xs' hb hx => ⟨xs', hx, .inr ⟨rfl, rfl, rfl, fun _ cur hc => ⟨cur, (hE.blk _ (At.lt hc) id).trans hc, rfl⟩⟩⟩,
      map := fun b es c hb => ⟨rfl, es, c, hb⟩, iter := fun b m n l hb => ⟨rfl, l, hb⟩, nw := fun b hb hg => .inr ⟨hb, rfl, hg⟩ }
  exact ⟨v, rfl, _, M, r, [], E2, hs.step E2 (fun k hk => Nat.lt_of_lt_of_le (hs.mlt k hk) hE.size) (fun k hk => Nat.lt_of_lt_of_le (hs.flt k hk) hE.size) (fun k hk => hs.dj k hk) hs.im hs.inj (fun b o hb => .inl ⟨lt_of_some hb, by simp⟩), rfl, hr _ rfl, rfl, hH, rfl⟩
open Go.Sort in
theorem ext_grow{w:World}(k:Nat)(os:Array Obj):Ext w (grow (w.drewN k) os):=by
 refine⟨rfl,rfl,rfl,?_,fun b hb _=>?_⟩
 ·rw[size_grow];exact Nat.le_add_right _ _
 ·rw[heap_grow_old _ _ (by exact hb)];rfl
end Go.Ax
namespace Go.Ax
open Go Go.Wx
variable [Globs]
section
variable {P : Program} {n : Nat} {A : Nat → Bool} {b0 : Nat} {s : St}
def noG(K:APost):APost
 | .goto _=>fun _=>False
 | ex=>K ex
theorem AW_scope{c:Code}{K:APost}(h:AW P n A b0 c (noG K) s):AW P n A b0 (.scope c) K s:=by
 refine⟨fun X M ec hs hl0 hH he a ha=>wp_scope_straight (wp_mono (h.run X M ec hs hl0 hH he a ha) ?_)⟩
 rintro ex a' w' ⟨e',hr,hk⟩
 obtain⟨X',M',s',h1,h2,h3,h4,h5,h6⟩:=hk
 cases ex with
 | goto l=>exact h6.elim
 | _=>exact⟨e',hr,X',M',s',h1,h2,h3,h4,h5,h6⟩
theorem AW_label{l:Nat}{K:APost}(h:K .normal s):AW P n A b0 (.label l) K s:=
 ⟨fun X M ec hs hl0 hH he a ha=>wp_label ⟨ec,ha,lift_now hs hl0 hH he h⟩⟩
end
end Go.Ax
namespace Go.Ax
open Go Go.Wx
variable [Globs]
section
variable {P : Program} {n : Nat} {A : Nat → Bool} {b0 : Nat} {K : APost} {s : St} {c : Code}
def gcol(k:Nat)(m j:Nat):List (List D):=(List.range j).map (fun i=>[D.sl (k+i) 0 0 0])++List.replicate (m-j) [.v (.slice none 0 0)]
theorem gcol_set{k m j:Nat}(h:j<m):(gcol k m j).set j [.sl (k+j) 0 0 0]=gcol k m (j+1):=by
 unfold gcol
 rw[List.set_append_right _ _ (by simp),List.length_map,List.length_range,Nat.sub_self,show m-j=(m-(j+1))+1 by omega,List.replicate_succ,List.set_cons_zero,List.range_succ,List.map_append,List.append_assoc]
 rfl
theorem gcol_at{k m j:Nat}(h:j<m):(gcol k m j)[j]? =some [.v (.slice none 0 0)]:=by
 unfold gcol
 rw[List.getElem?_append_right (by simp),List.length_map,List.length_range,Nat.sub_self,show m-j=(m-(j+1))+1 by omega,List.replicate_succ]
 rfl
theorem AW_gcells {k T T' sz' m : Nat} {e : Nat → D} {H : Heap} (hb : H[k]? = some (.arr T 1 (List.replicate m [.v (.slice none 0 0)]))) (hA : b0 ≤ k ∨ A k = true) (hl0 : b0 ≤ H.length)
    (h : AW P n A b0 c K ⟨e, H.set k (.arr T 1 ((List.range m).map fun i => [D.sl (H.length + i) 0 0 0])) ++ List.replicate m (.arr T' sz' [])⟩) : AW P n A b0 c K ⟨e, H⟩ := by
  have hk := lt_of_some hb
  suffices key : ∀ j, j ≤ m → AW P n A b0 c K ⟨e, H.set k (.arr T 1 (gcol H.length m j)) ++ List.replicate j (.arr T' sz' [])⟩ by
    have := key 0 (Nat.zero_le _)
    have h0 : gcol H.length m 0 = List.replicate m [.v (.slice none 0 0)] := by simp [gcol]
    rw [h0, List.replicate_zero, List.append_nil] at this
    rwa [show H.set k (.arr T 1 (List.replicate m [.v (.slice none 0 0)])) = H from by
      refine List.ext_getElem? fun i => ?_
      by_cases hi : k = i
      · subst hi; rw [List.getElem?_set_self hk, hb]
      · rw [List.getElem?_set_ne hi]] at this
  intro j hj
  obtain ⟨d, hd⟩ : ∃ d, j + d = m := ⟨m - j, by omega⟩
  induction d generalizing j with
  | zero =>
    obtain rfl : j = m := by omega
    have : gcol H.length j j = (List.range j).map fun i => [D.sl (H.length + i) 0 0 0] := by simp [gcol]
    rw [this]; exact h
  | succ d ih =>
    refine AW_gcell k j 0 T 1 T' sz' (xs := gcol H.length m j) (ds := [.v (.slice none 0 0)]) ?_ (gcol_at (by omega)) rfl hA (by simp; omega) ?_
    · rw [List.getElem?_append_left (by simpa using hk)]
      exact List.getElem?_set_self hk
    · have := ih (j + 1) (by omega) (by omega)
      have hlen : List.length (List.set H k (AO.arr T 1 (gcol (List.length H) m j)) ++ List.replicate j (AO.arr T' sz' [])) = H.length + j := by simp
      show AW P n A b0 c K ⟨e, List.set (H.set k (AO.arr T 1 (gcol H.length m j)) ++ List.replicate j (AO.arr T' sz' [])) k (AO.arr T 1 ((gcol H.length m j).set j ([D.v (.slice none 0 0)].set 0 (.sl (List.length (List.set H k (AO.arr T 1 (gcol (List.length H) m j)) ++ List.replicate j (AO.arr T' sz' []))) 0 0 0)))) ++ [AO.arr T' sz' []]⟩
      rw [hlen, List.set_cons_zero]
      rw [List.set_append_left _ _ (by simpa using hk), List.set_set, gcol_set (by omega), List.append_assoc, ← List.replicate_succ']
      exact this
end
end Go.Ax
namespace Go.Ax
open Go Go.Wx
variable [Globs]
section
variable {P : Program} {H : Heap}
theorem AC_growNil {f : FuncId} {T n : Nat} (hcb : callB P f = true) (hz : n = 0 → ∀ w : World, Calls P f #[.slice none 0 0, .int .i64 n] w fun e w' => e = .returned (.slice none 0 0) ∧ w' = w)
    (hp : 0 < n → ∀ w : World, Calls P f #[.slice none 0 0, .int .i64 n] w fun e w' => ∃ c cur, e = .returned (.slice (some ⟨w.heap.size, 0, none⟩) 0 c) ∧ c ≤ maxLen ∧ c ≤ cur.size ∧ w' = w.drew.alloc (.cells cur T)) :
    AC P f [.v (.slice none 0 0), .v (.int .i64 n)] H fun d H' ms => d = .sl H.length 0 0 0 ∧ H' = H ++ [.arr T 1 []] ∧ ms = [] := by
  refine ⟨hcb, fun X M vs hs hH ha => ?_⟩
  subst hH
  obtain ⟨y, z, rfl⟩ : ∃ y z, vs = [y, z] := by
    match vs, ha.1 with
    | [y, z], _ => exact ⟨y, z, rfl⟩
  have hr1 := (ha.2 0 _ y rfl rfl).v_inv
  have hr2 := (ha.2 1 _ z rfl rfl).v_inv
  subst hr1; subst hr2
  rcases Nat.eq_zero_or_pos n with h0 | h0
  · refine Calls.mono (hz h0 X.w) ?_
    rintro e w' ⟨rfl, rfl⟩
    exact ⟨_, rfl, ghX X (.arr T 1 []), M, .sl X.H.length 0 0 0, [], gh_ev, gh_sim hs, rfl, rp_gh, rfl, rfl, rfl⟩
  · refine Calls.mono (hp h0 X.w) ?_
    rintro e w' ⟨c, cur, rfl, h1, h2, rfl⟩
    have E0 : Ext X.w (X.w.drew.alloc (.cells cur T)) := Ext.trans frm_drew (frm_alloc _)
    have hat : (X.w.drew.alloc (.cells cur T)).heap[X.w.heap.size]? = some (.cells cur T (0, 0)) := heap_alloc_new X.w.drew _
    have E := new_ev (o := .arr T 1 []) hs E0 (Nat.le_refl _)
    refine ⟨_, rfl, newX X _ X.w.heap.size (.arr T 1 []), newM M X.w.heap.size, .sl X.H.length 0 0 0, [], E, new_sim hs E0 (Nat.le_refl _) (by simp) ?_, rfl, rp_whole hat rfl (Nat.zero_le _) h1 (by rw [Nat.mul_one]; exact h2), rfl, rfl, rfl⟩
    refine .inr ⟨newX_new.2.2, cur, by rw [newX_new.2.1]; exact hat, by simp, fun ds hd => by simp at hd, fun i j d hd => by simp [at2] at hd⟩
end
end Go.Ax
namespace Go.Ax
open Go Go.Wx
variable [Globs]
section
variable {P : Program} {f : FuncId} {args : List D} {H H1 L : Heap} {R : OpK}
theorem rel_id{k:Nat}{d:D}(h:Bl k d):rel (fun b=>b) d=d:=by
 induction h with
 | pd h=>exact rel_pd h
 | ptr _=>simp[rel]
 | sl _=>simp[rel]
 | map _=>simp[rel]
 | it _=>simp[rel]
 | agg h ih=>simp only[rel];congr 1;exact(List.map_congr_left ih).trans (List.map_id _)
 | tup h ih=>simp only[rel];congr 1;exact(List.map_congr_left ih).trans (List.map_id _)
 | clo h ih=>simp only[rel];congr 1;exact(List.map_congr_left ih).trans (List.map_id _)
theorem relL_id{k:Nat}{l:List D}(h:∀d∈l,Bl k d):l.map (rel fun b=>b)=l:=(List.map_congr_left fun d hd=>rel_id (h d hd)).trans (List.map_id _)
theorem relO_id{k:Nat}{o:AO}(h:BlO k o):relO (fun b=>b) o=o:=by
 cases o with
 | arr T sz xs=>simp only[relO];congr 1;exact(List.map_congr_left fun l hl=>relL_id (h l hl)).trans (List.map_id _)
 | map ks ds=>simp only[relO];congr 1;exact relL_id h
 | iter m n l=>simp only[relO];congr 1;exact rel_id h
theorem emb_app{k:Nat}(hO:∀o∈H1,BlO k o):Emb (fun b=>b) H1 (H1++L):=
 ⟨fun b hb=>by simp;omega,fun _ _ _ _ h=>h,fun b o ho=>by rw[List.getElem?_append_left (lt_of_some ho),ho,relO_id (hO o (List.mem_of_getElem? ho))]⟩
theorem AC.pre (ha : ∀ d ∈ args, Bl H1.length d) (hO : ∀ o ∈ H1, BlO H1.length o)
    (hR : ∀ d H0 ms, R d H0 ms → H0.length = H1.length ∧ Bl H1.length d ∧ (∀ o ∈ H0, BlO H1.length o) ∧ ∀ b ∈ ms, b < H1.length) (h : AC P f args H1 R) :
    AC P f args (H1 ++ L) fun d H' ms => ∃ H0, R d H0 ms ∧ H' = H0 ++ L := by
  have hf := AC.frame (emb_app (L := L) hO) ha hO hR h
  rw [relL_id ha] at hf
  refine AC.mono hf ?_
  rintro d H' ms ⟨d0, H0, ms0, h0, rfl, rfl, rfl⟩
  obtain ⟨h1, h2, h3, h4⟩ := hR _ _ _ h0
  refine ⟨H0, ?_, ?_⟩
  · rw [rel_id h2, List.map_id']; exact h0
  · refine backH_eq (emb_app h3) (by simp [h1]) fun c hc => ?_
    rcases Nat.lt_or_ge c H0.length with h | h
    · exact absurd rfl (hc c h)
    · rw [List.getElem?_append_right h, List.getElem?_append_right (by omega), h1]
def PdO:AO→Prop
 | .arr _ _ xs=>∀l∈xs,∀d∈l,Pd d
 | _=>False
theorem PdO.bl{k:Nat}{o:AO}(h:PdO o):BlO k o:=by
 cases o with
 | arr T sz xs=>exact fun l hl d hd=> .pd (h l hl d hd)
 | _=>exact h.elim
theorem PdO.rel{j:Nat→Nat}{o:AO}(h:PdO o):relO j o=o:=by
 cases o with
 | arr T sz xs=>
  simp only[relO];congr 1
  exact(List.map_congr_left fun l hl=>(List.map_congr_left fun d hd=>rel_pd (h l hl d hd)).trans (List.map_id _)).trans (List.map_id _)
 | _=>exact h.elim
theorem emb_one{o:AO}{b:Nat}(hp:PdO o)(hb:H[b]? =some o):Emb (fun _=>b) [o] H:=
 ⟨fun _ _=>lt_of_some hb,fun c c' hc hc' _=>by simp at hc hc';omega,fun c x hx=>by
  match c,hx with
  | 0,hx=>cases hx;rw[hp.rel];exact hb⟩
theorem AC.one {o : AO} {b : Nat} {Q : D → AO → Prop} (hp : PdO o) (hb : H[b]? = some o) (ha : ∀ d ∈ args, Bl 1 d)
    (h : AC P f args [o] fun d H' ms => ∃ o', Q d o' ∧ Pd d ∧ PdO o' ∧ H' = [o'] ∧ ms = [0]) : AC P f (args.map (rel fun _ => b)) H fun d H' ms => ∃ o', Q d o' ∧ H' = H.set b o' ∧ ms = [b] := by
  have hf := AC.frame (emb_one hp hb) ha (fun x hx => by rw [List.mem_singleton.1 hx]; exact hp.bl) (fun d H0 ms ⟨o', h1, h2, h3, h4, h5⟩ => by
    subst h4; subst h5
    exact ⟨rfl, .pd h2, fun x hx => by rw [List.mem_singleton.1 hx]; exact h3.bl, fun c hc => by simp at hc ⊢; omega⟩) h
  refine AC.mono hf ?_
  rintro d H' ms ⟨d0, H0, ms0, ⟨o', h1, h2, h3, rfl, rfl⟩, rfl, rfl, rfl⟩
  refine ⟨o', by rw [rel_pd h2]; exact h1, ?_, rfl⟩
  refine backH_eq (emb_one h3 (List.getElem?_set_self (lt_of_some hb))) (by simp) fun c hc => ?_
  exact List.getElem?_set_ne (hc 0 (by simp))
end
end Go.Ax
namespace Go.Ax
open Go Go.Wx
variable [Globs]
section
variable {P : Program} {n : Nat} {A : Nat → Bool} {b0 : Nat} {K : APost} {s : St} {X : Cx} {M : Nat → Prop} {e : Nat → D} {H : Heap} {R : OpK} {o : Oper}
theorem ifne_ok{t t':TypeId}{x y:Operand}{ms:Array (String × TypeId)}{tt:TypeId}{d:D}(ho:o.op= .binOp .neq t x y t')(hu:P.underlying t=some (.interface ms))(hx:dev e x= .ifc tt d)(hy:dev e y= .v .nilIface)(k:R (.v (.bool true)) H []):AO1 P o R e H:=by
 intro X M ec hs hH he
 have h1:=he.dev x
 rw[hx]at h1
 have h2:=he.dev y
 rw[hy]at h2
 have h2:=h2.v_inv
 obtain⟨q,hq⟩:∃q,evl ec x= .iface tt q:=by
  generalize evl ec x=v at h1
  cases h1;exact⟨_,rfl⟩
 have hg:∀w,(eqGuard .neq t x y (.iface tt q) .nilIface).run P w= .ok () w:=fun w=>by unfold eqGuard;simp[run_pure]
 have hE:∀w,(Op.equal t (.iface tt q) .nilIface).run P w= .ok false w:=fun w=>by
  unfold Op.equal Op.maxDepth
  rw[Op.equalIn]
  simp only[run_bind,run_underlying hu,run_pure]
 refine stepE_val (exec_binS ho (fun w=>?_) X.w) ⟨X,M,_,[],Ev.refl _ _ _,hs,rfl,.v (.bool true),by rw[hH];exact k⟩
 rw[hq,h2]
 simp only[run_bind,hg,binOp,hE,run_pure]
 rfl
theorem move_ok1{x:Operand}(ho:o.op= .move x)(k:R (dev e x) H []):AO1 P o R e H:=by
 intro X M ec hs hH he
 exact stepE_val (v:=evl ec x) (by unfold execOp;rw[ho];rfl) ⟨X,M,dev e x,[],Ev.refl _ _ _,hs,rfl,he.dev x,by rw[hH];exact k⟩
theorem AW_ifne {id a b c t t' : Nat} {o1 o2 : Oper} {ms : Array (String × TypeId)} {tt : TypeId} {d : D} (he : s.e c = .ifc tt d) (hu : P.underlying t = some (.interface ms)) (ha : dstB n o1.dst = true) (hb : dstB n o2.dst = true)
    (h1 : o1.op = .move (.tmp c)) (h2 : o2.op = .binOp .neq t (.tmp a) (.const .nilIface) t') (d1 : o1.dst = some a) (d2 : o2.dst = some b) (g1 : o1.guard = none) (g2 : o2.guard = none)
    (k : K .normal ⟨dput (dput s.e (some a) (.ifc tt d)) (some b) (.v (.bool true)), s.H⟩) : AW P n A b0 (.region id #[o1, o2] false) K s := by
  refine AW_region (AOs_step (by unfold wantedD; rw [g1]) ha (move_ok1 h1 ⟨rfl, AOs_step (by unfold wantedD; rw [g2]) hb (ifne_ok (tt := tt) (d := d) h2 hu ?_ rfl ⟨rfl, AOs_nil ?_⟩)⟩))
  · show dput s.e o1.dst (s.e c) a = _
    rw [he, d1]; simp [dput, dset]
  · show K .normal ⟨dput (dput s.e o1.dst (s.e c)) o2.dst _, s.H⟩
    rw [he, d1, d2]; exact k
end
end Go.Ax
