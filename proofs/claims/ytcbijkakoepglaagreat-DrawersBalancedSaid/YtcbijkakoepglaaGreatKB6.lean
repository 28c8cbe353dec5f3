/- A part of a proof over the ledger of the package drawers: what its functions do, as contracts. Conditions: none. -/
import Derived.Test.YtcbijkakoepglaaGreatKB5
import Derived.ProofKit
import Derived.OpenShut
import Derived.ShutString
import Derived.ChangeOld
import Derived.Below
import Derived.Carry
import Derived.SizedLaws
import Derived.ChangeSlices
import Derived.Deep.Slices
import Derived.Test.YtcbijkakoepglaaGreatRows
set_option linter.all false
namespace Go.Wx
open Go Go.ChangeShapes Go.WideShapes Go.ChangeAt Go.RowKit

theorem Ext.below {w w' : World} (E : Ext w w') : Below w.heap.size w w' := ⟨E.os, E.tape, E.output, E.size, fun k hk => E.blk k hk id⟩

/-! ### cells by kind -/
inductive CK where
  | int (k : IntKind)
  | str
  | bool
  | sl (t : TypeId)
def flatFs (P : Program) (g : TypeId → Option (List CK)) : List Field → Nat → Nat → Option (List CK)
  | [], o, tot => if o = tot then some [] else none
  | f :: fs, o, tot => if f.offset = o then match g f.type with
      | some k => (flatFs P g fs (o + P.cellsOf f.type) tot).map (k ++ ·)
      | none => none
    else none
def flatK (P : Program) : Nat → TypeId → Option (List CK)
  | 0, _ => none
  | n + 1, t => match P.underlying t with
    | some (.int k) => some [.int k]
    | some .string => some [.str]
    | some .bool => some [.bool]
    | some (.slice _) => some [.sl t]
    | some (.struct fs) => flatFs P (flatK P n) fs.toList 0 (P.cellsOf t)
    | _ => none

section
variable {H : Type} {enc : TypeId × Value → H} {P : Program} {w : World} {base : Nat} {spare : Nat → Bool} {held : Bool}
/-- cells are of their kinds; a slice among them can be read on. -/
def CM (enc : TypeId × Value → H) (P : Program) (w : World) (base : Nat) (spare : Nat → Bool) (held : Bool) : List CK → List Value → Prop
  | [], cs => cs = []
  | .int k :: ks, cs => ∃ (n : Int) (cs' : List Value), cs = .int k n :: cs' ∧ (Lit.int k n).wf = true ∧ CM enc P w base spare held ks cs'
  | .str :: ks, cs => ∃ (s : ByteArray) (cs' : List Value), cs = .string s :: cs' ∧ s.size ≤ reachBytes ∧ CM enc P w base spare held ks cs'
  | .bool :: ks, cs => ∃ (b : Bool) (cs' : List Value), cs = .bool b :: cs' ∧ CM enc P w base spare held ks cs'
  | .sl t :: ks, cs => ∃ (a : Option Addr) (n c : Nat) (cs' : List Value), cs = .slice a n c :: cs' ∧ (∃ fuel x, DataW.trod enc P w base spare held fuel t [.slice a n c] = some x ∧ ∀ m ∈ x.1.weights P t, m ≤ reachBytes) ∧ CM enc P w base spare held ks cs'
theorem CM.app : ∀ {ks ks' : List CK} {cs cs' : List Value}, CM enc P w base spare held ks cs → CM enc P w base spare held ks' cs' → CM enc P w base spare held (ks ++ ks') (cs ++ cs')
  | [], _, cs, _, h, h' => by simp only [CM] at h; subst h; exact h'
  | .int k :: ks, _, _, _, h, h' => by
    obtain ⟨n, cs2, rfl, h1, h2⟩ := h
    exact ⟨n, _, rfl, h1, h2.app h'⟩
  | .str :: ks, _, _, _, h, h' => by
    obtain ⟨n, cs2, rfl, h1, h2⟩ := h
    exact ⟨n, _, rfl, h1, h2.app h'⟩
  | .bool :: ks, _, _, _, h, h' => by
    obtain ⟨n, cs2, rfl, h2⟩ := h
    exact ⟨n, _, rfl, h2.app h'⟩
  | .sl t :: ks, _, _, _, h, h' => by
    obtain ⟨a, n, c, cs2, rfl, h1, h2⟩ := h
    exact ⟨a, n, c, _, rfl, h1, h2.app h'⟩

theorem trod_flatFs {g : TypeId → Option (List CK)} {n : Nat} (hg : ∀ (t : TypeId) (ks : List CK) (cs : List Value) (x : DataW H × List MemPlace), g t = some ks → DataW.trod enc P w base spare held n t cs = some x → (∀ m ∈ x.1.weights P t, m ≤ reachBytes) → CM enc P w base spare held ks cs) {cs : List Value} :
    ∀ (fs : List Field) (o : Nat) (ks : List CK) (xs : List (DataW H × List MemPlace)), flatFs P g fs o cs.length = some ks → xs.length = fs.length →
      (∀ (i : Nat) (f : Field), fs[i]? = some f → DataW.trod enc P w base spare held n f.type ((cs.drop f.offset).take (P.cellsOf f.type)) = xs[i]?) →
      (∀ (i : Nat) (f : Field) (x : DataW H × List MemPlace), fs[i]? = some f → xs[i]? = some x → ∀ m ∈ x.1.weights P f.type, m ≤ reachBytes) → CM enc P w base spare held ks (cs.drop o)
  | [], o, ks, xs, hf, _, _, _ => by
    unfold flatFs at hf
    split at hf
    · rename_i e
      cases hf
      rw [e, List.drop_length]
      rfl
    · cases hf
  | f :: fs, o, ks, xs, hf, hl, hx, hw => by
    unfold flatFs at hf
    split at hf
    case isFalse => cases hf
    rename_i ho
    split at hf
    case h_2 => cases hf
    rename_i k hk
    obtain ⟨ks', hks, rfl⟩ := Option.map_eq_some_iff.1 hf
    cases xs with
    | nil => simp at hl
    | cons x xs =>
      have h0 := hx 0 f rfl
      simp only [List.getElem?_cons_zero] at h0
      have hm := hg f.type k _ x hk h0 (hw 0 f x rfl rfl)
      have ih := trod_flatFs hg fs (o + P.cellsOf f.type) ks' xs hks (by simpa using hl) (fun i f' hf' => by have := hx (i + 1) f' (by simpa using hf'); simpa using this) (fun i f' x' hf' hx' => hw (i + 1) f' x' (by simpa using hf') (by simpa using hx'))
      have hsplit : cs.drop o = (cs.drop f.offset).take (P.cellsOf f.type) ++ cs.drop (o + P.cellsOf f.type) := by
        rw [ho, ← List.drop_drop, List.take_append_drop]
      rw [hsplit]
      exact hm.app ih

theorem trod_flat : ∀ (q fuel : Nat) (t : TypeId) (ks : List CK) (cs : List Value) (x : DataW H × List MemPlace), flatK P q t = some ks → DataW.trod enc P w base spare held fuel t cs = some x → (∀ m ∈ x.1.weights P t, m ≤ reachBytes) → CM enc P w base spare held ks cs
  | 0, _, _, _, _, _, h, _, _ => by cases h
  | q + 1, fuel, t, ks, cs, x, h, hx, hw => by
    unfold flatK at h
    split at h
    · rename_i k hu
      cases h
      obtain ⟨n, rfl, rfl, hwf⟩ := DataW.trod_int hu hx
      exact ⟨n, [], rfl, hwf, rfl⟩
    · rename_i hu
      cases h
      obtain ⟨s, rfl, rfl, hs⟩ := DataW.trod_string hu hx
      refine ⟨s, [], rfl, ?_, rfl⟩
      have := hw s.data.toList.length (by simp [DataW.weights])
      rwa [Array.length_toList] at this
    · rename_i hu
      cases h
      obtain ⟨b, rfl, _⟩ := DataW.trod_bool hu hx
      exact ⟨b, [], rfl, rfl⟩
    · rename_i e hu
      cases h
      have hx' := hx
      rcases DataW.trod_slice hu hx with ⟨rfl, rfl⟩ | ⟨a, len, cap, _, _, _, _, rfl, _⟩
      · exact ⟨none, 0, 0, [], rfl, ⟨fuel, _, hx', hw⟩, rfl⟩
      · exact ⟨some a, len, cap, [], rfl, ⟨fuel, x, hx', hw⟩, rfl⟩
    · rename_i fs hu
      obtain ⟨xs, n, rfl, rfl, hl, hxl, hget⟩ := DataW.trod_struct hu hx
      have := trod_flatFs (g := flatK P q) (fun t ks cs x h1 h2 h3 => trod_flat q n t ks cs x h1 h2 h3) (cs := cs) fs.toList 0 ks xs (by rw [hl]; exact h) (by simpa using hxl) (fun i f hf => hget i f (by simpa using hf)) (fun i f y hf hy m hm => by
        refine hw m ?_
        simp only [DataW.weights, hu]
        exact DataW.weights_mem_each (j := i) (t := f.type) (d := y.1) (by rw [List.getElem?_map, hf]; rfl) (by rw [List.getElem?_map, hy]; rfl) m hm)
      rwa [List.drop_zero] at this
    · cases h

theorem mapM_get {α β : Type} {f : α → Option β} : ∀ {l : List α} {r : List β}, l.mapM f = some r → r.length = l.length ∧ ∀ (i : Nat) (x : α) (y : β), l[i]? = some x → r[i]? = some y → f x = some y
  | [], r, h => by simp at h; subst h; exact ⟨rfl, fun i x y hx => by simp at hx⟩
  | x :: l, r, h => by
    rw [List.mapM_cons] at h
    cases hx : f x with
    | none => rw [hx] at h; cases h
    | some z =>
      rw [hx] at h
      cases hl : l.mapM f with
      | none => rw [hl] at h; cases h
      | some r' =>
        rw [hl] at h
        cases h
        obtain ⟨h1, h2⟩ := mapM_get hl
        refine ⟨by simp [h1], fun i a b ha hb => ?_⟩
        cases i with
        | zero => simp at ha hb; subst ha; subst hb; exact hx
        | succ i => exact h2 i a b (by simpa using ha) (by simpa using hb)
theorem weightsAll_mem {e : TypeId} : ∀ {ds : List (DataW H)} {d : DataW H}, d ∈ ds → ∀ m ∈ d.weights P e, m ∈ DataW.weightsAll P e ds
  | [], _, h, _, _ => by cases h
  | d0 :: ds, d, h, m, hm => by
    simp only [DataW.weightsAll, List.mem_append]
    rcases List.mem_cons.1 h with rfl | h
    · exact .inl hm
    · exact .inr (weightsAll_mem h m hm)

/-- a slice whose elements are flat: row of lean values. -/
theorem open_rows {α : Type} [Inhabited α] {encA : α → List Value} {sz : Nat} {Ex : World → α → Prop} {t e : TypeId} {q : Nat} {ks : List CK} (hu : P.underlying t = some (.slice e)) (hk : flatK P q e = some ks) (hsz : P.cellsOf e = sz) {B : Nat} (hB : P.bytesOf e = B)
    (hel : ∀ cs, CM enc P w base spare held ks cs → ∃ y : α, cs = encA y ∧ Ex w y) {fuel : Nat} {a : Option Addr} {n c : Nat} {x : DataW H × List MemPlace} (h : DataW.trod enc P w base spare held fuel t [.slice a n c] = some x) (hw : ∀ m ∈ x.1.weights P t, m ≤ reachBytes) :
    ∃ ys : List α, Rd encA sz w a n ys ∧ n * B ≤ reachBytes ∧ n ≤ maxLen ∧ ∀ y ∈ ys, Ex w y := by
  rcases DataW.trod_slice hu h with ⟨hcs, rfl⟩ | ⟨a0, len, cap, elems, rest, m, rfl, hcs, rfl, hb, hlc, hcm, hlen, hel', _, _⟩
  · cases hcs
    exact ⟨[], Rd.nil, by simp, Nat.zero_le _, fun y hy => by cases hy⟩
  · cases hcs
    have each : ∀ i, i < n → ∃ y : α, Cells w (a0.add (i * sz)) (encA y) ∧ Ex w y := by
      intro i hi
      have h1 := hel' i hi
      obtain ⟨y, hy⟩ : ∃ y, elems[i]? = some y := ⟨_, List.getElem?_eq_getElem (by omega)⟩
      rw [hy] at h1
      obtain ⟨cs', hc, ht⟩ := Option.bind_eq_some_iff.1 h1
      have hm := trod_flat q m e ks cs' y hk ht fun z hz => hw z (by
        simp only [DataW.weights, hu]
        refine List.mem_cons_of_mem _ (List.mem_append.2 (.inl (weightsAll_mem (List.mem_map_of_mem (List.mem_of_getElem? hy)) z hz))))
      obtain ⟨v, rfl, hex⟩ := hel cs' hm
      refine ⟨v, fun j u hj => ?_, hex⟩
      unfold World.cells? at hc
      rw [if_pos (by rw [Go.Wx.add_block]; exact hb)] at hc
      obtain ⟨hl, hg⟩ := mapM_get hc
      have hjl := (List.getElem?_eq_some_iff.1 hj).1
      rw [List.length_range] at hl
      have := hg j j u (by rw [List.getElem?_range (by omega)]) hj
      rwa [hsz] at this
    obtain ⟨f, hf⟩ := Deep.choose_lt each
    refine ⟨(List.range n).map f, ⟨by simp, fun h => (by cases h), fun a1 ha i y hy => ?_⟩, ?_, by omega, fun y hy => ?_⟩
    · cases ha
      rw [List.getElem?_map, Option.map_eq_some_iff] at hy
      obtain ⟨j, hj, rfl⟩ := hy
      have hjj : i = j ∧ j < n := by
        obtain ⟨h1, h2⟩ := List.getElem?_eq_some_iff.1 hj
        rw [List.length_range] at h1
        rw [List.getElem_range] at h2
        exact ⟨h2, by omega⟩
      obtain ⟨rfl, hlt⟩ := hjj
      exact (hf i hlt).1
    · have := hw ((((elems.map (·.1)).length + (rest.map (·.1)).length)) * P.bytesOf e) (by simp [DataW.weights, hu])
      rw [hB] at this
      refine Nat.le_trans (Nat.mul_le_mul_right _ ?_) this
      simp; omega
    · obtain ⟨j, hj, rfl⟩ := List.mem_map.1 hy
      exact (hf j (List.mem_range.1 hj)).2
end

/-- all arguments read as they did. -/
theorem Below.trodAll {H : Type} {enc : TypeId × Value → H} {P : Program} (hl : laidOutB P = true) {W W' : World} (hb : Below W.heap.size W W') : ∀ {ts : List TypeId} {vs : List Value} {ds : List (DataW H)} {ps : List MemPlace}, (ts.all fun t => P.readableRec t && decide (t < P.types.size)) = true →
    DataW.TrodAll enc P W 0 (fun _ => true) true ts vs ds ps → DataW.TrodAll enc P W' 0 (fun b => decide (b < W.heap.size)) true ts vs ds ps
  | [], [], [], _, _, h => h
  | t :: ts, v :: vs, d :: ds, ps, ht, h => by
    simp only [List.all_cons, Bool.and_eq_true] at ht
    obtain ⟨p, q, h1, h2, e⟩ := h
    have lt : ∀ x ∈ p, x.block < W.heap.size := by
      obtain ⟨m, hm⟩ := h1
      exact DataW.trod_lt m _ _ _ hm
    exact ⟨p, q, Below.trod hl ht.1.1 (of_decide_eq_true ht.1.2) h1 hb lt, Below.trodAll hl hb ht.2 h2, e⟩
  | [], [], _ :: _, _, _, h => h.elim
  | [], _ :: _, _, _, _, h => h.elim
  | _ :: _, [], _, _, _, h => h.elim
  | _ :: _, _ :: _, [], _, _, h => h.elim
end Go.Wx
namespace Go.Proofs.YtcbijkakoepglaaGreat
open Go Go.Wx Go.ChangeShapes Go.WideShapes Go.ChangeAt Go.RowKit
open Go.ChangeMaps (open_string shut_string)
theorem own : ownKnob Pg.godebug = none := by kernel_rfl
theorem laidOut : laidOutB Pg = true := by kernel_rfl
theorem fk77 : flatK Pg 9 77 = some [.int .u8, .int .i64, .str, .str, .int .i64, .int .i64, .int .i64, .sl 53, .sl 46] := by kernel_rfl
theorem fk58 : flatK Pg 9 58 = some [.str, .int .i64] := by kernel_rfl
theorem fk45 : flatK Pg 9 45 = some [.int .i64, .int .i64, .int .i64, .int .i64, .int .i64, .str, .int .i64, .int .i64, .int .u8, .int .i64] := by kernel_rfl
theorem fk40 : flatK Pg 9 40 = some [.int .u8, .int .i64] := by kernel_rfl
section
variable {H : Type} {enc : TypeId × Value → H} {P : Program} {w : World} {base : Nat} {spare : Nat → Bool} {held : Bool}
theorem open_struct {t : TypeId} {fs : Array Field} {q : Nat} {ks : List CK} {r : Reach} {b0 : Nat} {v : Value} {d : DataW H} {p : List MemPlace} (hs : P.underlying t = some (.struct fs)) (hk : flatK P q t = some ks) (hv : Value.okWide P w r b0 t v) (h : DataW.Trod enc P w base spare held t v d p) (hw : ∀ m ∈ d.weights P t, m ≤ reachBytes) :
    ∃ cs, v = vg cs ∧ CM enc P w base spare held ks cs := by
  obtain ⟨cs, rfl, _⟩ := okWide_struct hs hv
  obtain ⟨fuel, hf⟩ := h
  exact ⟨cs.toList, by simp, trod_flat q fuel t ks _ _ hk hf hw⟩
end
instance : Inhabited TAmount := ⟨⟨ByteArray.empty, 0⟩⟩
instance : Inhabited TLot := ⟨⟨0, 0, 0, 0, 0, ByteArray.empty, 0, 0, 0, 0⟩⟩
instance : Inhabited TOp := ⟨⟨0, 0, ByteArray.empty, ByteArray.empty, 0, 0, 0, none, 0, 0, none, 0, 0⟩⟩
section
variable {H : Type} {enc : TypeId × Value → H} {w : World} {base : Nat} {spare : Nat → Bool} {held : Bool}
theorem el58 (cs : List Value) (h : CM enc Pg w base spare held [.str, .int .i64] cs) : ∃ y : TAmount, cs = y.enc ∧ True := by
  simp only [CM] at h
  obtain ⟨a1, _, rfl, _, a2, _, rfl, _, rfl⟩ := h
  exact ⟨⟨a1, a2⟩, rfl, trivial⟩
theorem el45 (cs : List Value) (h : CM enc Pg w base spare held [.int .i64, .int .i64, .int .i64, .int .i64, .int .i64, .str, .int .i64, .int .i64, .int .u8, .int .i64] cs) : ∃ y : TLot, cs = y.enc ∧ True := by
  simp only [CM] at h
  obtain ⟨a1, _, rfl, _, a2, _, rfl, _, a3, _, rfl, _, a4, _, rfl, _, a5, _, rfl, _, a6, _, rfl, _, a7, _, rfl, _, a8, _, rfl, _, a9, _, rfl, _, a10, _, rfl, _, rfl⟩ := h
  exact ⟨⟨a1, a2, a3, a4, a5, a6, a7, a8, a9, a10⟩, rfl, trivial⟩
theorem el77 (cs : List Value) (h : CM enc Pg w base spare held [.int .u8, .int .i64, .str, .str, .int .i64, .int .i64, .int .i64, .sl 53, .sl 46] cs) : ∃ y : TOp, cs = y.enc ∧ ∃ m, OpIs w y m := by
  simp only [CM] at h
  obtain ⟨a1, _, rfl, _, a2, _, rfl, _, a3, _, rfl, _, a4, _, rfl, _, a5, _, rfl, _, a6, _, rfl, _, a7, _, rfl, _, a8, n8, c8, _, rfl, ⟨f8, x8, h8, w8⟩, a9, n9, c9, _, rfl, ⟨f9, x9, h9, w9⟩, rfl⟩ := h
  obtain ⟨gs, hg, bg, _, _⟩ := open_rows (α := TAmount) (encA := TAmount.enc) (sz := 2) (Ex := fun _ _ => True) Tryz.underlying53 fk58 (by kernel_rfl) (B := 24) (by kernel_rfl) el58 h8 w8
  obtain ⟨ls, hl, bl, _, _⟩ := open_rows (α := TLot) (encA := TLot.enc) (sz := 10) (Ex := fun _ _ => True) Tryz.underlying46 fk45 (by kernel_rfl) (B := 88) (by kernel_rfl) el45 h9 w9
  have hrb : reachBytes < 2 ^ 47 := reachBytes_lt
  exact ⟨⟨a1, a2, a3, a4, a5, a6, a7, a8, n8, c8, a9, n9, c9⟩, rfl, ⟨a1, a2, a3, a4, a5, a6, a7, gs, ls⟩, rfl, rfl, rfl, rfl, rfl, rfl, rfl, hg, hl, by show n8 ≤ 1000000000000000; omega, by show n9 ≤ 1000000000000000; omega⟩
theorem open_script {fuel : Nat} {a : Option Addr} {n c : Nat} {x : DataW H × List MemPlace} (h : DataW.trod enc Pg w base spare held fuel 30 [.slice a n c] = some x) (hw : ∀ m ∈ x.1.weights Pg 30, m ≤ reachBytes) : ∃ ms, OpsIs w a n ms := by
  obtain ⟨os, hr, _, _, hex⟩ := open_rows (α := TOp) (encA := TOp.enc) (sz := 9) (Ex := fun w y => ∃ m, OpIs w y m) Tryz.underlying30 fk77 (by kernel_rfl) (B := Pg.bytesOf 77) rfl el77 h hw
  have : ∀ os : List TOp, (∀ y ∈ os, ∃ m, OpIs w y m) → ∃ ms : List MOp, os.length = ms.length ∧ ∀ (i : Nat) (o : TOp) (m : MOp), os[i]? = some o → ms[i]? = some m → OpIs w o m := by
    intro os
    induction os with
    | nil => exact fun _ => ⟨[], rfl, fun i o m h => by simp at h⟩
    | cons o os ih =>
      intro hh
      obtain ⟨m, hm⟩ := hh o List.mem_cons_self
      obtain ⟨ms, hl, hms⟩ := ih fun y hy => hh y (List.mem_cons_of_mem _ hy)
      refine ⟨m :: ms, by simp [hl], fun i o' m' h1 h2 => ?_⟩
      cases i with
      | zero => simp at h1 h2; subst h1; subst h2; exact hm
      | succ i => exact hms i o' m' (by simpa using h1) (by simpa using h2)
  obtain ⟨ms, hl, hms⟩ := this os hex
  exact ⟨ms, hr.1.trans hl, os, hr, hms⟩
set_option maxRecDepth 100000 in
theorem open_acct {r : Reach} {b0 : Nat} {v : Value} {d : DataW H} {p : List MemPlace} (hv : Value.okWide Pg w r b0 40 v) (h : DataW.Trod enc Pg w base spare held 40 v d p) (hw : ∀ m ∈ d.weights Pg 40, m ≤ reachBytes) : ∃ a : TAccount, v = vg [vu a.Kind, vi a.Id] := by
  obtain ⟨cs, rfl, hm⟩ := @open_struct H enc Pg w base spare held 40 _ 9 _ r b0 v d p Tryz.underlying40 fk40 hv h hw
  simp only [CM] at hm
  obtain ⟨a1, _, rfl, _, a2, _, rfl, _, rfl⟩ := hm
  exact ⟨⟨a1, a2⟩, rfl⟩
set_option maxRecDepth 100000 in
theorem open_op {r : Reach} {b0 : Nat} {v : Value} {d : DataW H} {p : List MemPlace} (hv : Value.okWide Pg w r b0 77 v) (h : DataW.Trod enc Pg w base spare held 77 v d p) (hw : ∀ m ∈ d.weights Pg 77, m ≤ reachBytes) : ∃ (o : TOp) (m : MOp), v = vg o.enc ∧ OpIs w o m := by
  obtain ⟨cs, rfl, hm⟩ := @open_struct H enc Pg w base spare held 77 _ 9 _ r b0 v d p Tryz.underlying77 fk77 hv h hw
  obtain ⟨y, rfl, m, hm⟩ := el77 cs hm
  exact ⟨y, m, rfl, hm⟩
end
/-- the weights of an argument. -/
theorem weights_of {H : Type} {P : Program} {ts : List TypeId} {ds : List (DataW H)} (h : (DataW.weightsEach P ts ds).all (· ≤ reachBytes) = true) {j : Nat} {t : TypeId} {d : DataW H} (ht : ts[j]? = some t) (hd : ds[j]? = some d) : ∀ m ∈ d.weights P t, m ≤ reachBytes :=
  fun m hm => of_decide_eq_true (List.all_eq_true.1 h m (DataW.weights_mem_each ht hd m hm))
end Go.Proofs.YtcbijkakoepglaaGreat
