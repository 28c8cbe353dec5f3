/- The law holds: part 89. Conditions: none. -/
import Derived.Test.YtpndfdfipkadkaaGreatDoorKP10
import Derived.Test.YtpndfdfipkadkaaGreatDoorKP40
set_option linter.all false
set_option maxRecDepth 100000
namespace Go.Proofs.YtpndfdfipkadkaaGreatDoor
open Go Go.Wx Go.Ax
def digB (b : UInt8) : Prop := 48 ≤ b.toNat ∧ b.toNat ≤ 57
theorem digit_of {d : Nat} (h : d < 10) : (UInt8.ofNat (48 + d)).toNat = 48 + d := by
  rw [UInt8.toNat_ofNat']; omega
theorem dec_dig (u : Nat) : ∀ b ∈ Lib.decDigits u, digB b := by
  induction u using Nat.strongRecOn with
  | _ u ih =>
    intro b hb
    rw [Lib.decDigits] at hb
    split at hb
    · rename_i h
      rw [List.mem_singleton.1 hb]
      unfold digB
      rw [digit_of h]
      omega
    · rename_i h
      rcases List.mem_append.1 hb with hb | hb
      · exact ih (u / 10) (by omega) b hb
      · rw [List.mem_singleton.1 hb]
        unfold digB
        rw [digit_of (Nat.mod_lt _ (by decide))]
        omega
theorem dec_ne (u : Nat) : Lib.decDigits u ≠ [] := by
  rw [Lib.decDigits]
  split <;> simp
theorem parse_snoc : ∀ (l : List UInt8) (acc v : Nat) (b : UInt8), digB b → Lib.parseUint10 acc l = .ok v → v < 1000000000 → Lib.parseUint10 acc (l ++ [b]) = .ok (v * 10 + (b.toNat - 48))
  | [], acc, v, b, hb, h, hv => by
    simp only [Lib.parseUint10] at h
    injection h with h
    subst h
    have h2 := hb.2
    rw [List.nil_append, Lib.parseUint10, if_pos (show 48 ≤ b.toNat ∧ b.toNat ≤ 57 from hb), if_neg (by omega), if_neg (by omega)]
    rfl
  | c :: l, acc, v, b, hb, h, hv => by
    rw [List.cons_append]
    simp only [Lib.parseUint10] at h ⊢
    split at h
    · rename_i hc
      rw [if_pos hc]
      split at h
      · cases h
      · rename_i h1
        rw [if_neg h1]
        split at h
        · cases h
        · rename_i h2
          rw [if_neg h2]
          exact parse_snoc l _ v b hb h hv
    · cases h
theorem parse_dec (u : Nat) (h : u < 10000000000) : Lib.parseUint10 0 (Lib.decDigits u) = .ok u := by
  induction u using Nat.strongRecOn with
  | _ u ih =>
    rw [Lib.decDigits]
    split
    · rename_i h1
      have hd : digB (UInt8.ofNat (48 + u)) := by unfold digB; rw [digit_of h1]; omega
      have := parse_snoc [] 0 0 _ hd rfl (by decide)
      rw [List.nil_append, digit_of h1] at this
      rw [this]
      congr 1
      omega
    · rename_i h1
      have hm := Nat.mod_lt u (show 0 < 10 by decide)
      have hd : digB (UInt8.ofNat (48 + u % 10)) := by unfold digB; rw [digit_of hm]; omega
      rw [parse_snoc _ _ _ _ hd (ih (u / 10) (by omega) (by omega)) (by omega), digit_of hm]
      congr 1
      omega
theorem atoi_dec (u : Nat) (h : u < 10000000000) : Lib.atoiAll (Lib.decDigits u) = .ok (u : Int) := by
  have hp := parse_dec u h
  cases hl : Lib.decDigits u with
  | nil => exact absurd hl (dec_ne u)
  | cons c r =>
    have hc : digB c := dec_dig u c (by rw [hl]; exact List.mem_cons_self)
    rw [hl] at hp
    have h1 := hc.1
    have h2 := hc.2
    unfold Lib.atoiAll
    simp only
    rw [if_neg (show ¬ (c.toNat = 43 ∨ c.toNat = 45) by omega), Lib.parseMag, if_neg (by simp), hp]
    simp only
    rw [if_neg (by omega), if_neg (by omega), if_neg (by omega)]
theorem itoa_dec {n : Int} (h : 0 ≤ n) : Lib.itoa n = Lib.decDigits n.toNat := by unfold Lib.itoa; rw [if_neg (by omega)]
theorem atoi_itoa {n : Int} (h0 : 0 ≤ n) (h1 : n < 10000000000) : Lib.atoiAll (Lib.itoa n) = .ok n := by
  rw [itoa_dec h0, atoi_dec _ (by omega), Int.toNat_of_nonneg h0]
theorem numV_itoa {n : Int} (h0 : 0 ≤ n) (h1 : n < 10000000000) : numV (itoaB n) = n := numV_ok (by show Lib.atoiAll (itoaB n).data.toList = _; rw [show (itoaB n).data.toList = Lib.itoa n by simp [itoaB]]; exact atoi_itoa h0 h1)
def numL : Int → List UInt8 → Int
  | n, [] => n
  | n, c :: r => if c.toNat < 48 ∨ c.toNat > 57 then -1 else numL (n * 10 + ((c.toNat : Int) - 48)) r
def numQ (s : ByteArray) : Int := if s.size < 1 ∨ s.size > 7 then -1 else numL 0 s.data.toList
theorem numL_snoc : ∀ (l : List UInt8) (n : Int) (b : UInt8), digB b → (∀ c ∈ l, digB c) → numL n (l ++ [b]) = numL n l * 10 + ((b.toNat : Int) - 48)
  | [], n, b, hb, _ => by
    have h1 := hb.1
    have h2 := hb.2
    rw [List.nil_append]
    simp only [numL]
    rw [if_neg (by omega)]
  | c :: l, n, b, hb, hl => by
    have hc := hl c List.mem_cons_self
    have h1 := hc.1
    have h2 := hc.2
    rw [List.cons_append]
    simp only [numL]
    rw [if_neg (by omega), if_neg (by omega), numL_snoc l _ b hb fun x hx => hl x (List.mem_cons_of_mem _ hx)]
theorem numL_dec (u : Nat) : numL 0 (Lib.decDigits u) = u := by
  induction u using Nat.strongRecOn with
  | _ u ih =>
    rw [Lib.decDigits]
    split
    · rename_i h1
      have hd : digB (UInt8.ofNat (48 + u)) := by unfold digB; rw [digit_of h1]; omega
      have := numL_snoc [] 0 _ hd fun _ h => nomatch h
      rw [List.nil_append, digit_of h1, show numL 0 [] = 0 from rfl] at this
      rw [this]
      omega
    · rename_i h1
      have hm := Nat.mod_lt u (show 0 < 10 by decide)
      have hd : digB (UInt8.ofNat (48 + u % 10)) := by unfold digB; rw [digit_of hm]; omega
      rw [numL_snoc _ _ _ hd (dec_dig _), ih (u / 10) (by omega), digit_of hm]
      omega
theorem nD_le : ∀ (k u : Nat), 1 ≤ k → u < 10 ^ k → Lib.nDigits u ≤ k
  | 0, _, h, _ => by omega
  | k + 1, u, _, h => by
    by_cases hu : u < 10
    · rw [Lib.nDigits_small hu]; omega
    · rw [Lib.nDigits_big hu]
      have hk : 1 ≤ k := by
        rcases Nat.eq_zero_or_pos k with rfl | h'
        · simp at h; omega
        · exact h'
      have := nD_le k (u / 10) hk (by rw [Nat.pow_succ] at h; omega)
      omega
theorem numQ_itoa {n : Int} (h0 : 0 ≤ n) (h1 : n < 10000000) : numQ (itoaB n) = n := by
  have hs : (itoaB n).data.toList = Lib.decDigits n.toNat := by rw [← itoa_dec h0]; simp [itoaB]
  have hl : (itoaB n).size = Lib.nDigits n.toNat := by rw [← Lib.decDigits_length, ← hs]; simp
  have h7 := nD_le 7 n.toNat (by decide) (by omega)
  have h8 := Lib.nDigits_pos n.toNat
  rw [numQ, if_neg (by omega), hs, numL_dec, Int.toNat_of_nonneg h0]
theorem ib_none : ∀ {l : List UInt8} {c : UInt8}, c ∉ l → Lib.indexByte l c = -1
  | [], _, _ => rfl
  | b :: l, c, h => by
    have h1 : ¬ (b == c) = true := fun e => h (by rw [eq_of_beq e]; exact List.mem_cons_self)
    have h2 := ib_none (l := l) (c := c) fun e => h (List.mem_cons_of_mem _ e)
    rw [Lib.indexByte, if_neg h1, h2]
    rfl
theorem ib_at : ∀ {l r : List UInt8} {c : UInt8}, c ∉ l → Lib.indexByte (l ++ c :: r) c = l.length
  | [], _, c, _ => by simp [Lib.indexByte]
  | b :: l, r, c, h => by
    have h1 : ¬ (b == c) = true := fun e => h (by rw [eq_of_beq e]; exact List.mem_cons_self)
    have h2 := ib_at (l := l) (r := r) (c := c) fun e => h (List.mem_cons_of_mem _ e)
    rw [List.cons_append, Lib.indexByte, if_neg h1, h2, if_neg (by first | (simp; done) | (simp; omega))]
    simp
theorem baL_ext {a b : ByteArray} (h : a.data.toList = b.data.toList) : a = b := by
  cases a; cases b; simp only at h; rw [Array.toList_inj.1 h]
theorem ext_list (s : ByteArray) (i j : Nat) : (s.extract i j).data.toList = (s.data.toList.drop i).take (j - i) := by
  rw [ByteArray.data_extract, Array.toList_extract, List.extract_eq_take_drop]
def blk : UInt8 := 32
theorem cut_word {s a b : ByteArray} (hs : s.data.toList = a.data.toList ++ 32 :: b.data.toList) (ha : (32 : UInt8) ∉ a.data.toList) : cutA s = a ∧ cutB s = b := by
  have hi : Lib.indexByte s.data.toList 32 = (a.data.toList.length : Int) := by rw [hs]; exact ib_at ha
  have hz : s.size = a.data.toList.length + 1 + b.data.toList.length := by
    have : s.data.toList.length = s.size := by simp
    rw [← this, hs]; simp; omega
  unfold cutA cutB
  rw [hi, if_pos (Int.natCast_nonneg _), if_pos (Int.natCast_nonneg _)]
  refine ⟨baL_ext ?_, baL_ext ?_⟩
  · rw [ext_list, hs, Int.toNat_natCast, List.drop_zero, Nat.sub_zero, List.take_left']
    rfl
  · rw [ext_list, hs, Int.toNat_natCast, hz, show a.data.toList.length + 1 + b.data.toList.length - (a.data.toList.length + 1) = b.data.toList.length by omega, show a.data.toList ++ 32 :: b.data.toList = (a.data.toList ++ [32]) ++ b.data.toList by simp, List.drop_left' (by simp), List.take_length]
theorem cut_last {s : ByteArray} (ha : (32 : UInt8) ∉ s.data.toList) : cutA s = s ∧ cutB s = ⟨#[]⟩ := by
  unfold cutA cutB
  rw [ib_none ha]
  exact ⟨if_neg (by decide), if_neg (by decide)⟩
theorem itoa_nb {n : Int} (h : 0 ≤ n) : (32 : UInt8) ∉ (itoaB n).data.toList := by
  rw [show (itoaB n).data.toList = Lib.decDigits n.toNat by rw [← itoa_dec h]; simp [itoaB]]
  intro hm
  have := (dec_dig _ _ hm).1
  exact absurd this (by decide)
theorem word_nb (k : Int) : (32 : UInt8) ∉ (wordOf k).data.toList := by
  unfold wordOf
  split
  · decide
  · split
    · decide
    · split
      · decide
      · split
        · decide
        · split <;> decide
theorem kind_word {k : Int} (h : k = 1 ∨ k = 2 ∨ k = 3 ∨ k = 4 ∨ k = 5) : kindW (wordOf k) = k := by
  rcases h with rfl | rfl | rfl | rfl | rfl <;> kernel_rfl
def evQ (s : ByteArray) : Ev :=
  let r1 := cutB s
  let r2 := cutB r1
  let r3 := cutB r2
  let k := kindW (cutA r1)
  if k = 1 then ⟨numQ (cutA s), k, numQ (cutA r2), numQ (cutA r3), cutB r3⟩
  else if k = 2 ∨ k = 5 then ⟨numQ (cutA s), k, numQ (cutA r2), 0, r3⟩
  else if k = 3 ∨ k = 4 then ⟨numQ (cutA s), k, numQ (cutA r2), numQ (cutA r3), ⟨#[]⟩⟩
  else ⟨numQ (cutA s), 0, numQ (cutA r2), 0, ⟨#[]⟩⟩
def readQ (s : ByteArray) : Ev × Int := if wrongL (evQ s) = 0 ∧ joinB (partsL (evQ s)) sp = s then (evQ s, 0) else (noEv, 4)
theorem join_list (xs : List ByteArray) : (joinB xs sp).data.toList = Lib.join (xs.map (·.data.toList)) [32] := by simp [joinB, sp]
theorem join1 (x : List UInt8) : Lib.join [x] [32] = x := by simp [Lib.join, List.intercalate]
theorem join2 (x y : List UInt8) (r : List (List UInt8)) : Lib.join (x :: y :: r) [32] = x ++ 32 :: Lib.join (y :: r) [32] := by simp [Lib.join, List.intercalate]
theorem nameB_ne {s : ByteArray} (h : nameB s = true) : s ≠ ⟨#[]⟩ := by
  rintro rfl
  revert h
  decide
theorem canon {s : ByteArray} {e : Ev} (hw : wrongL e = 0) (hs : joinB (partsL e) sp = s) : evR s = e ∧ evQ s = e := by
  have f := wrong_form hw
  have hk := f.kind
  have hd0 := f.day0
  have hd1 := f.day1
  have hp := f.place
  have hL : s.data.toList = Lib.join ((partsL e).map (·.data.toList)) [32] := by rw [← hs, join_list]
  obtain ⟨t1, ht1⟩ : ∃ t : ByteArray, t.data.toList = Lib.join ((partsL e).tail.map (·.data.toList)) [32] := ⟨⟨(Lib.join ((partsL e).tail.map (·.data.toList)) [32]).toArray⟩, by simp⟩
  obtain ⟨t2, ht2⟩ : ∃ t : ByteArray, t.data.toList = Lib.join ((partsL e).tail.tail.map (·.data.toList)) [32] := ⟨⟨(Lib.join ((partsL e).tail.tail.map (·.data.toList)) [32]).toArray⟩, by simp⟩
  obtain ⟨t3, ht3⟩ : ∃ t : ByteArray, t.data.toList = Lib.join ((partsL e).tail.tail.tail.map (·.data.toList)) [32] := ⟨⟨(Lib.join ((partsL e).tail.tail.tail.map (·.data.toList)) [32]).toArray⟩, by simp⟩
  have c1 : cutA s = itoaB e.day ∧ cutB s = t1 := cut_word (by rw [hL, ht1]; simp only [partsL, List.cons_append, List.nil_append, List.map_cons, List.tail_cons, join2]) (itoa_nb hd0)
  have c2 : cutA t1 = wordOf e.kind ∧ cutB t1 = t2 := cut_word (by rw [ht1, ht2]; simp only [partsL, List.cons_append, List.nil_append, List.map_cons, List.tail_cons, join2]) (word_nb _)
  have hkw := kind_word hk
  have hd : numV (itoaB e.day) = e.day := numV_itoa hd0 (by omega)
  have hdq : numQ (itoaB e.day) = e.day := numQ_itoa hd0 (by omega)
  have hpl : numV (itoaB e.place) = e.place := numV_itoa (by omega) (by omega)
  have hpq : numQ (itoaB e.place) = e.place := numQ_itoa (by omega) (by omega)
  have o1 := f.o13
  have o2 := f.o4
  have o3 := f.o25
  unfold evR evQ
  simp only [c1.1, c1.2, c2.1, c2.2, hkw]
  rw [hd, hdq]
  have named : e.kind = 1 ∨ e.kind = 2 ∨ e.kind = 5 → e.name ≠ ⟨#[]⟩ := fun h => nameB_ne (f.named h)
  have blank : e.kind = 3 ∨ e.kind = 4 → e.name = ⟨#[]⟩ := fun h => f.blank h
  by_cases h25 : e.kind = 2 ∨ e.kind = 5
  · have hn := named (by omega)
    have ho : e.other = 0 := by omega
    have hP : partsL e = [itoaB e.day, wordOf e.kind, itoaB e.place, e.name] := by
      unfold partsL
      rw [if_neg (by omega), if_neg hn]
      rfl
    have c3 : cutA t2 = itoaB e.place ∧ cutB t2 = e.name := cut_word (by rw [ht2, hP]; simp only [List.map_cons, List.map_nil, List.tail_cons, join2, join1]) (itoa_nb (by omega))
    rw [if_neg (by omega), if_neg (by omega), if_pos h25, c3.1, c3.2, hpl, hpq]
    constructor <;> (cases e; simp only at ho; subst ho; rfl)
  · have hoi : 0 ≤ e.other ∧ e.other ≤ 1000000 := by omega
    have hov : numV (itoaB e.other) = e.other := numV_itoa (by omega) (by omega)
    have hoq : numQ (itoaB e.other) = e.other := numQ_itoa (by omega) (by omega)
    rw [if_pos (by omega)]
    by_cases h1 : e.kind = 1
    · have hn := named (by omega)
      have hP : partsL e = [itoaB e.day, wordOf e.kind, itoaB e.place, itoaB e.other, e.name] := by
        unfold partsL
        rw [if_pos (by omega), if_neg hn]
        rfl
      have c3 : cutA t2 = itoaB e.place ∧ cutB t2 = t3 := cut_word (by rw [ht2, ht3, hP]; simp only [List.map_cons, List.map_nil, List.tail_cons, join2, join1]) (itoa_nb (by omega))
      have c4 : cutA t3 = itoaB e.other ∧ cutB t3 = e.name := cut_word (by rw [ht3, hP]; simp only [List.map_cons, List.map_nil, List.tail_cons, join2, join1]) (itoa_nb (by omega))
      rw [if_pos h1, c3.1, c3.2, c4.1, c4.2, hpl, hpq, hov, hoq]
      constructor <;> rfl
    · have hn := blank (by omega)
      have hP : partsL e = [itoaB e.day, wordOf e.kind, itoaB e.place, itoaB e.other] := by
        unfold partsL
        rw [if_pos (by omega), if_pos hn]
        rfl
      have c3 : cutA t2 = itoaB e.place ∧ cutB t2 = t3 := cut_word (by rw [ht2, ht3, hP]; simp only [List.map_cons, List.map_nil, List.tail_cons, join2, join1]) (itoa_nb (by omega))
      have ht : t3 = itoaB e.other := baL_ext (by rw [ht3, hP]; simp only [List.map_cons, List.map_nil, List.tail_cons, join1])
      have c4 := cut_last (s := t3) (by rw [ht]; exact itoa_nb (by omega))
      rw [if_neg h1, if_neg h25, if_pos (by omega), c3.1, c3.2, c4.1, c4.2, ht, hpl, hpq, hov, hoq]
      constructor <;> (cases e; simp only at hn; subst hn; rfl)
theorem readQ_eq (s : ByteArray) : readQ s = readV s := by
  unfold readQ readV
  by_cases h1 : wrongL (evR s) = 0 ∧ joinB (partsL (evR s)) sp = s
  · have := (canon h1.1 h1.2).2
    rw [this, if_pos h1]
  · by_cases h2 : wrongL (evQ s) = 0 ∧ joinB (partsL (evQ s)) sp = s
    · have := (canon h2.1 h2.2).1
      rw [this] at h1
      exact absurd h2 h1
    · rw [if_neg h1, if_neg h2]
theorem readV_write {e : Ev} (hw : wrongL e = 0) : readV (joinB (partsL e) sp) = (e, 0) := by
  unfold readV
  rw [(canon hw rfl).1, if_pos ⟨hw, rfl⟩]
theorem readV_ok {s : ByteArray} (h : (readV s).2 = 0) : wrongL (readV s).1 = 0 ∧ joinB (partsL (readV s).1) sp = s := by
  unfold readV at h ⊢
  by_cases h1 : wrongL (evR s) = 0 ∧ joinB (partsL (evR s)) sp = s
  · rw [if_pos h1]; exact h1
  · rw [if_neg h1] at h; cases h
end Go.Proofs.YtpndfdfipkadkaaGreatDoor
set_option maxRecDepth 100000
namespace Go.Proofs.YtpndfdfipkadkaaGreatDoor
open Go Go.Wx Go.Ax
theorem byte_get {s : ByteArray} {i : Nat} (h : i < s.size) : s.data.toList[i]? = some (s.data.toList[i]'(by simpa using h)) := List.getElem?_eq_getElem _
theorem byteAt_get {s : ByteArray} {i : Nat} (h : i < s.size) : byteAt s i = (s.data.toList[i]'(by simpa using h)).toNat := by
  unfold byteAt
  rw [List.getD_eq_getElem?_getD, byte_get h]
  rfl
theorem ib_of {s : ByteArray} {i : Nat} (hi : i < s.size) (h : ∀ j, j < i → byteAt s j ≠ 32) (h1 : byteAt s i = 32) : Lib.indexByte s.data.toList 32 = (i : Int) := by
  have hl : i < s.data.toList.length := by simpa using hi
  have hd : s.data.toList = s.data.toList.take i ++ 32 :: s.data.toList.drop (i + 1) := by
    rw [byteAt_get hi] at h1
    have h2 : s.data.toList[i] = 32 := UInt8.toNat_inj.1 h1
    rw [← h2, ← List.drop_eq_getElem_cons hl, List.take_append_drop]
  have hn : (32 : UInt8) ∉ s.data.toList.take i := fun hm => by
    obtain ⟨j, hj, he⟩ := List.mem_iff_getElem.1 hm
    rw [List.length_take] at hj
    rw [List.getElem_take] at he
    refine h j (by omega) ?_
    rw [byteAt_get (by omega), he]; rfl
  rw [hd, ib_at hn, List.length_take]
  omega
theorem ib_no {s : ByteArray} (h : ∀ j, j < s.size → byteAt s j ≠ 32) : Lib.indexByte s.data.toList 32 = -1 := by
  refine ib_none fun hm => ?_
  obtain ⟨j, hj, he⟩ := List.mem_iff_getElem.1 hm
  have hj' : j < s.size := by simpa using hj
  refine h j hj' ?_
  rw [byteAt_get hj', he]; rfl
def pl80 : Plan := [(5, [.p 0, .p 1, .p 2, .p 3, .p 4, .p 5, .p 6, .p 7, .p 8])]
theorem word_c (s : ByteArray) (hs : s.size ≤ maxLen) : Pur Pg 80 [ds' s] (.tup [ds' (cutA s), ds' (cutB s)]) := by
  refine fn Tryz.func80 [] pl80 (.one (.v _)) ?_
  refine AW_idx s.size (fun i st => (∀ j, j < i → byteAt s j ≠ 32) ∧ Has [(0, ds' s), (4, di i)] [] st) ⟨fun j hj => absurd hj (Nat.not_lt_zero _), has ⟨rfl, rfl, trivial⟩ rfl⟩ ?_
  rintro i _ _ ⟨h, e, rfl⟩
  refine go [] pl80 (if_ (fun hlt => ?_) (fun hlt => ?_))
  · simp at hlt
    refine ck (sidx hlt) ?_
    refine if_ (fun he => ?_) (fun he => ?_)
    · have he3 : byteAt s i = 32 := by
        have : ((byteAt s i : Nat) : Int) = 32 := by simpa using he
        omega
      have hj := ib_of hlt h he3
      have hw : IntKind.wrap .i64 ((i : Int) + 1) = ((i + 1 : Nat) : Int) := by rw [wadd (by omega) (by simp only [maxLen] at hs; omega)]; omega
      have hp1 : pos' (some (i : Int)) = true := by
        have h : (0 : Int) ≤ (i : Int) := by omega
        exact nonneg_iff.2 h
      have hp2 : pos' (some (IntKind.wrap .i64 ((i : Int) + 1))) = true := by
        rw [hw]
        have h : (0 : Int) ≤ ((i + 1 : Nat) : Int) := by omega
        exact nonneg_iff.2 h
      have hb1 : (lo' none).ble (hi' s.size (some (i : Int))) = true := Nat.ble_eq_true_of_le (Nat.zero_le _)
      have hb2 : (hi' s.size (some (i : Int))).ble s.size = true := Nat.ble_eq_true_of_le (by show i ≤ s.size; omega)
      have hb3 : (lo' (some (IntKind.wrap .i64 ((i : Int) + 1)))).ble (hi' s.size none) = true := by
        rw [hw]
        exact Nat.ble_eq_true_of_le (by show i + 1 ≤ s.size; omega)
      have hb4 : (hi' s.size none).ble s.size = true := Nat.ble_eq_true_of_le (Nat.le_refl _)
      have he : s.extract (lo' (some (IntKind.wrap .i64 ((i : Int) + 1)))) (hi' s.size none) = s.extract (i + 1) s.size := by rw [hw]; rfl
      conv => whnf
      refine ck (and_t (and_t rfl (and_t hp1 (and_t hb1 hb2))) rfl) ?_
      conv => whnf
      refine ck (and_t (and_t hp2 (and_t rfl (and_t hb3 hb4))) rfl) ?_
      have he2 : FrzK 0 ([] : Heap) (.tup [ds' (s.extract (lo' none) (hi' s.size (some (i : Int)))), ds' (s.extract (lo' (some (IntKind.wrap .i64 ((i : Int) + 1)))) (hi' s.size none))]) (.tup [ds' (cutA s), ds' (cutB s)]) := by
        unfold cutA cutB
        rw [he, hj, if_pos (Int.natCast_nonneg _), if_pos (Int.natCast_nonneg _), Int.toNat_natCast]
        exact .pd (.tup fun d hd => by simp at hd; rcases hd with rfl | rfl <;> exact .v _)
      exact he2
    · have he2 : byteAt s i ≠ 32 := fun e => by
        have : ¬ ((byteAt s i : Nat) : Int) = 32 := by simpa using he
        omega
      exact ⟨hlt, lt_succ_all h he2, has ⟨rfl, inc hlt hs, trivial⟩ rfl⟩
  · simp at hlt
    have hj := ib_no fun j hj => h j (by omega)
    have he2 : FrzK 0 ([] : Heap) (.tup [ds' s, ds' ⟨#[]⟩]) (.tup [ds' (cutA s), ds' (cutB s)]) := by
      unfold cutA cutB
      rw [hj, if_neg (by decide), if_neg (by decide)]
      exact .pd (.tup fun d hd => by simp at hd; rcases hd with rfl | rfl <;> exact .v _)
    exact he2
theorem numL_drop {s : ByteArray} {i : Nat} (hi : i < s.size) (v : Int) : numL v (s.data.toList.drop i) = if byteAt s i < 48 ∨ byteAt s i > 57 then -1 else numL (v * 10 + ((byteAt s i : Int) - 48)) (s.data.toList.drop (i + 1)) := by
  rw [List.drop_eq_getElem_cons (by simpa using hi)]
  rw [byteAt_get hi]
  rfl
theorem number_c (s : ByteArray) (hs : s.size ≤ maxLen) : Pur Pg 81 [ds' s] (di (numQ s)) := by
  refine fn Tryz.func81 [] [] (.one (.v _)) ?_
  refine if_ (fun h => ?_) fun h => ?_
  · exact frzi (by rw [numQ, if_pos (by simp at h; omega)])
  refine if_ (fun h2 => ?_) fun h2 => ?_
  · exact frzi (by rw [numQ, if_pos (by simp at h2; omega)])
  have hz : s.size ≤ 7 := by simp at h2; omega
  have hq : numQ s = numL 0 s.data.toList := by rw [numQ, if_neg (by simp at h h2; omega)]
  rw [hq]
  refine AW_idx s.size (fun i st => ∃ v : Int, 0 ≤ v ∧ v < ((10 ^ i : Nat) : Int) ∧ numL 0 s.data.toList = numL v (s.data.toList.drop i) ∧ Has [(0, ds' s), (3, di v), (4, di i)] [] st) ⟨0, by omega, by simp, rfl, has ⟨rfl, rfl, rfl, trivial⟩ rfl⟩ ?_
  rintro i _ hi ⟨v, v0, v1, hv, e, rfl⟩
  refine go [] [] (if_ (fun hlt => ?_) (fun hlt => ?_))
  · simp at hlt
    have h10 : (10 ^ i : Nat) ≤ 10 ^ 7 := Nat.pow_le_pow_right (by decide) (by omega)
    have h11 : (10 ^ (i + 1) : Nat) = 10 ^ i * 10 := rfl
    have h7 : (10 ^ 7 : Nat) = 10000000 := by decide
    rw [numL_drop hlt] at hv
    refine ck (sidx hlt) ?_
    refine if_ (fun a => ?_) fun a => ?_
    · exact frzi (by rw [hv, if_pos (by simp at a; omega)])
    refine ck (sidx hlt) ?_
    refine if_ (fun b => ?_) fun b => ?_
    · exact frzi (by rw [hv, if_pos (by simp at b; omega)])
    have a' : 48 ≤ byteAt s i := by simp at a; omega
    have b' : byteAt s i ≤ 57 := by simp at b; omega
    refine ck (sidx hlt) ?_
    rw [if_neg (by omega)] at hv
    refine ⟨hlt, v * 10 + ((byteAt s i : Int) - 48), by omega, by omega, hv, has ⟨rfl, ?_, inc hlt hs, trivial⟩ rfl⟩
    have w1 : IntKind.wrap .i64 (v * 10) = v * 10 := wrap_id (by omega) (by omega)
    have w2 : IntKind.wrap .u8 ((byteAt s i : Int) - 48) = (byteAt s i : Int) - 48 := by
      show (((byteAt s i : Nat) : Int) - 48) % 256 = _
      omega
    have w3 : IntKind.wrap .i64 ((byteAt s i : Int) - 48) = (byteAt s i : Int) - 48 := wrap_id (by omega) (by omega)
    have w4 : IntKind.wrap .i64 (v * 10 + ((byteAt s i : Int) - 48)) = v * 10 + ((byteAt s i : Int) - 48) := wrap_id (by omega) (by omega)
    show D.v (.int .i64 (IntKind.wrap .i64 (IntKind.wrap .i64 (v * 10) + IntKind.wrap .i64 (IntKind.wrap .u8 ((byteAt s i : Int) - 48))))) = di (v * 10 + ((byteAt s i : Int) - 48))
    rw [w1, w2, w3, w4]
    rfl
  · simp at hlt
    rw [List.drop_of_length_le (by simpa using hlt)] at hv
    exact frzi hv.symm
theorem app_le {a b : ByteArray} {n m : Nat} (ha : a.size ≤ n) (hb : b.size ≤ m) : (a ++ b).size ≤ n + m := by rw [ByteArray.size_append]; omega
theorem sck {a b : ByteArray} {n m : Nat} (ha : a.size ≤ n) (hb : b.size ≤ m) (h : n + m ≤ 9223372036854775807 := by decide) : (a.size + b.size).ble 9223372036854775807 = true := Nat.ble_eq_true_of_le (by omega)
theorem lit_le {b : ByteArray} {m : Nat} (h : b.size.ble m = true := by rfl) : b.size ≤ m := Nat.le_of_ble_eq_true h
theorem itoa_le {n : Int} (h0 : -9223372036854775808 ≤ n) (h1 : n ≤ 9223372036854775807) : (itoaB n).size ≤ 24 := by
  have h : (itoaB n).data.toList.length ≤ 24 := Nat.le_trans (Lib.itoa_length_le n h0 h1) (by decide)
  have : (itoaB n).data.toList.length = (itoaB n).size := by simp
  omega
theorem num_c (n : Int) (h0 : -9223372036854775808 ≤ n) (h1 : n ≤ 9223372036854775807) : Pur Pg 76 [di n] (ds' (sp ++ itoaB n)) := by
  refine fn Tryz.func76 [] [] (.one (.v _)) ?_
  refine (itoa_c n h0 h1).call ?_
  conv => whnf
  refine ck (sck (lit_le (m := 1)) (itoa_le h0 h1)) ?_
  exact frzs rfl
theorem frzW {H : Heap} {b b' : ByteArray} {n : Int} (h : b = b') : Frz H (.tup [ds' b, di n]) (.tup [ds' b', di n]) := by
  subst h
  exact .pd (.tup fun d hd => by simp at hd; rcases hd with rfl | rfl <;> exact .v _)
theorem lapp (a b : ByteArray) : (a ++ b).data.toList = a.data.toList ++ b.data.toList := by rw [ByteArray.data_append, Array.toList_append]
theorem wRef_c (e : Ev) (hn' : e.name.size ≤ maxLen) : Pur Pg 18 [.agg e.enc] (writeD e) := by
  refine fn Tryz.func18 [] [] (PdL.one (.agg (pdEv e))) ?_
  refine (formed_c e hn').call ?_
  refine if_ (fun h => ?_) fun h => ?_
  · have h0 : wrongL e ≠ 0 := by simpa using h
    rw [writeD, if_pos h0]
    exact .pd (.tup fun d hd => by simp at hd; rcases hd with rfl | rfl <;> exact .v _)
  have h0 : wrongL e = 0 := by simpa using h
  have f := wrong_form h0
  rw [writeD, if_neg (by simpa using h0)]
  have hd0 := f.day0
  have hd1 := f.day1
  have hk := f.kind
  have ho : -9223372036854775808 ≤ e.other ∧ e.other ≤ 9223372036854775807 := by
    have o1 := f.o13
    have o2 := f.o4
    have o3 := f.o25
    omega
  have named : e.kind = 1 ∨ e.kind = 2 ∨ e.kind = 5 → e.name ≠ ⟨#[]⟩ := fun h => nameB_ne (f.named h)
  have blank : e.kind = 3 ∨ e.kind = 4 → e.name = ⟨#[]⟩ := fun h => f.blank h
  have hA : (itoaB e.day).size ≤ 24 := itoa_le (by omega) (by omega)
  have hP : (sp ++ itoaB e.place).size ≤ 1 + 24 := app_le lit_le (itoa_le (by have := f.place; omega) (by have := f.place; omega))
  have hO : (sp ++ itoaB e.other).size ≤ 1 + 24 := app_le lit_le (itoa_le ho.1 ho.2)
  have hN : e.kind = 1 ∨ e.kind = 2 ∨ e.kind = 5 → e.name.size ≤ 24 := fun h => nameB_size (f.named h)
  refine (itoa_c e.day (by omega) (by omega)).call ?_
  refine (num_c e.place (by have := f.place; omega) (by have := f.place; omega)).call ?_
  refine (num_c e.other ho.1 ho.2).call ?_
  refine if_ (fun k => ?_) fun k1 => ?_
  · have k : e.kind = 1 := by simpa using k
    conv => whnf
    refine ck (sck hA (lit_le (m := 8))) ?_
    conv => whnf
    refine ck (sck (app_le hA (lit_le (m := 8))) hP) ?_
    conv => whnf
    refine ck (sck (app_le (app_le hA (lit_le (m := 8))) hP) hO) ?_
    conv => whnf
    refine ck (sck (app_le (app_le (app_le hA (lit_le (m := 8))) hP) hO) (lit_le (m := 1))) ?_
    conv => whnf
    refine ck (sck (app_le (app_le (app_le (app_le hA (lit_le (m := 8))) hP) hO) (lit_le (m := 1))) (hN (by omega))) ?_
    conv => whnf
    refine frzW (baL_ext ?_)
    rw [join_list]
    unfold partsL
    rw [if_pos (by omega), if_neg (named (by omega))]
    simp only [List.map_cons, List.map_nil, List.cons_append, List.nil_append, join2, join1, lapp, List.append_assoc]
    rw [k]
    rfl
  have k1 : ¬ e.kind = 1 := by simpa using k1
  refine if_ (fun k => ?_) fun k2 => ?_
  · have k : e.kind = 2 := by simpa using k
    conv => whnf
    refine ck (sck hA (lit_le (m := 8))) ?_
    conv => whnf
    refine ck (sck (app_le hA (lit_le (m := 8))) hP) ?_
    conv => whnf
    refine ck (sck (app_le (app_le hA (lit_le (m := 8))) hP) (lit_le (m := 1))) ?_
    conv => whnf
    refine ck (sck (app_le (app_le (app_le hA (lit_le (m := 8))) hP) (lit_le (m := 1))) (hN (by omega))) ?_
    conv => whnf
    refine frzW (baL_ext ?_)
    rw [join_list]
    unfold partsL
    rw [if_neg (by omega), if_neg (named (by omega))]
    simp only [List.map_cons, List.map_nil, List.cons_append, List.nil_append, List.append_nil, join2, join1, lapp, List.append_assoc]
    rw [k]
    rfl
  have k2 : ¬ e.kind = 2 := by simpa using k2
  refine if_ (fun k => ?_) fun k3 => ?_
  · have k : e.kind = 3 := by simpa using k
    conv => whnf
    refine ck (sck hA (lit_le (m := 8))) ?_
    conv => whnf
    refine ck (sck (app_le hA (lit_le (m := 8))) hP) ?_
    conv => whnf
    refine ck (sck (app_le (app_le hA (lit_le (m := 8))) hP) hO) ?_
    conv => whnf
    refine frzW (baL_ext ?_)
    rw [join_list]
    unfold partsL
    rw [if_pos (by omega), if_pos (blank (by omega))]
    simp only [List.map_cons, List.map_nil, List.cons_append, List.nil_append, List.append_nil, join2, join1, lapp, List.append_assoc]
    rw [k]
    rfl
  have k3 : ¬ e.kind = 3 := by simpa using k3
  refine if_ (fun k => ?_) fun k4 => ?_
  · have k : e.kind = 4 := by simpa using k
    conv => whnf
    refine ck (sck hA (lit_le (m := 8))) ?_
    conv => whnf
    refine ck (sck (app_le hA (lit_le (m := 8))) hP) ?_
    conv => whnf
    refine ck (sck (app_le (app_le hA (lit_le (m := 8))) hP) hO) ?_
    conv => whnf
    refine frzW (baL_ext ?_)
    rw [join_list]
    unfold partsL
    rw [if_pos (by omega), if_pos (blank (by omega))]
    simp only [List.map_cons, List.map_nil, List.cons_append, List.nil_append, List.append_nil, join2, join1, lapp, List.append_assoc]
    rw [k]
    rfl
  have k4 : ¬ e.kind = 4 := by simpa using k4
  have k : e.kind = 5 := by omega
  conv => whnf
  refine ck (sck hA (lit_le (m := 8))) ?_
  conv => whnf
  refine ck (sck (app_le hA (lit_le (m := 8))) hP) ?_
  conv => whnf
  refine ck (sck (app_le (app_le hA (lit_le (m := 8))) hP) (lit_le (m := 1))) ?_
  conv => whnf
  refine ck (sck (app_le (app_le (app_le hA (lit_le (m := 8))) hP) (lit_le (m := 1))) (hN (by omega))) ?_
  conv => whnf
  refine frzW (baL_ext ?_)
  rw [join_list]
  unfold partsL
  rw [if_neg (by omega), if_neg (named (by omega))]
  simp only [List.map_cons, List.map_nil, List.cons_append, List.nil_append, List.append_nil, join2, join1, lapp, List.append_assoc]
  rw [k]
  rfl
end Go.Proofs.YtpndfdfipkadkaaGreatDoor
set_option maxRecDepth 100000
namespace Go.Proofs.YtpndfdfipkadkaaGreatDoor
open Go Go.Wx Go.Ax
theorem kw0 : kindW wFound = 1 := by kernel_rfl
theorem kw1 : kindW wRename = 2 := by kernel_rfl
theorem kw2 : kindW wMove = 3 := by kernel_rfl
theorem kw3 : kindW wMerge = 4 := by kernel_rfl
theorem kw4 : kindW wAlias = 5 := by kernel_rfl
theorem kw_none {w : ByteArray} (h0 : w ≠ wFound) (h1 : w ≠ wRename) (h2 : w ≠ wMove) (h3 : w ≠ wMerge) (h4 : w ≠ wAlias) : kindW w = 0 := by
  unfold kindW
  cases hk : kidx (.string w) wK with
  | none => rfl
  | some j =>
    obtain ⟨k, hj, he⟩ := kidx_lt hk
    have hv : ∀ a b : ByteArray, vEq (.string a) (.string b) = true → b = a ∨ a = b := fun a b h => by
      first
        | exact .inl (strEq_iff'.1 h)
        | exact .inr (strEq_iff'.1 h)
    have hl : j < 5 := (List.getElem?_eq_some_iff.1 hj).1
    match j, hl with
    | 0, _ => cases hj; rcases hv _ _ he with h | h <;> first | exact absurd h h0 | exact absurd h.symm h0
    | 1, _ => cases hj; rcases hv _ _ he with h | h <;> first | exact absurd h h1 | exact absurd h.symm h1
    | 2, _ => cases hj; rcases hv _ _ he with h | h <;> first | exact absurd h h2 | exact absurd h.symm h2
    | 3, _ => cases hj; rcases hv _ _ he with h | h <;> first | exact absurd h h3 | exact absurd h.symm h3
    | 4, _ => cases hj; rcases hv _ _ he with h | h <;> first | exact absurd h h4 | exact absurd h.symm h4
noncomputable def c20 : Code := Tryz.f20.body.getD .skip
theorem frzE {H : Heap} {s : ByteArray} {e : Ev} {n : Int} (h : readQ s = (e, n)) : Frz H (.tup [.agg e.enc, di n]) (.tup [.agg (readQ s).1.enc, di (readQ s).2]) := by
  rw [h]
  exact .pd (.tup fun d hd => by simp at hd; rcases hd with rfl | rfl; exact .agg (pdEv e); exact .v _)
set_option maxHeartbeats 1000000 in
theorem rRead_c (s : ByteArray) (hs : s.size ≤ 140737488355327) : Pur Pg 20 [ds' s] (.tup [.agg (readQ s).1.enc, di (readQ s).2]) := by
  refine Pur_of (PdL.one (.v _)) (AC_fn Tryz.func20 rfl rfl rfl [] (fun _ => true) (fun b h => nomatch h) (AW_rest (c' := restC 0 c20) ?_))
  have h1 := cutB_le s
  have h2 := cutB_le (cutB s)
  have h3 := cutB_le (cutB (cutB s))
  have h4 := cutB_le (cutB (cutB (cutB s)))
  have g1 := cutA_le s
  have g2 := cutA_le (cutB (cutB s))
  have g3 := cutA_le (cutB (cutB (cutB s)))
  have done : ∀ (ev : Ev) e0, evQ s = ev → ev.name.size ≤ maxLen → AW Pg Tryz.f20.ntmps (fun _ => true) 0 (restC 7 c20) (fun ex s' => dret Pg Tryz.f20.results.toList (fun d H' _ => Frz H' d (.tup [.agg (readQ s).1.enc, di (readQ s).2])) [] ex s'.e s'.H)
      ⟨dupds e0 [(0, ds' s), (2, .ptr 0 0 0 1), (3, di 0), (12, .ptr 1 0 0 1)], [.arr 23 5 [noEv.enc], .arr 23 5 [ev.enc]]⟩ := by
    intro ev e0 hev hsz
    have hwr := wRef_c ev hsz
    have hR : readQ s = if wrongL ev = 0 ∧ joinB (partsL ev) sp = s then (ev, 0) else (noEv, 4) := by unfold readQ; rw [hev]
    refine goC 20 [] [] ?_
    conv => whnf
    by_cases hw : wrongL ev = 0
    · have hD : writeD ev = .tup [ds' (joinB (partsL ev) sp), di 0] := by unfold writeD; rw [if_neg (by simpa using hw)]
      rw [hD] at hwr
      refine hwr.call ?_
      conv => whnf
      refine if_ (fun h => ?_) fun h => ?_
      · have hr : readQ s = (noEv, 4) := by
          rw [hR, if_neg]
          rintro ⟨_, hj⟩
          rw [hj] at h
          simp at h
          rw [strEq_iff'.2 rfl] at h
          cases h
        conv => whnf
        exact frzE hr
      · have hr : readQ s = (ev, 0) := by
          rw [hR, if_pos]
          refine ⟨hw, strEq_iff'.1 ?_⟩
          simpa using h
        conv => whnf
        exact frzE hr
    · have hD : writeD ev = .tup [ds' ⟨#[]⟩, di (wrongL ev)] := by unfold writeD; rw [if_pos hw]
      rw [hD] at hwr
      have hr : readQ s = (noEv, 4) := by rw [hR, if_neg fun h => hw h.1]
      refine hwr.call ?_
      conv => whnf
      refine if_ (fun h => ?_) fun h => ?_
      · conv => whnf
        exact frzE hr
      · exact absurd (by simpa using h) hw
  refine goC 6 [] [] ?_
  conv => whnf
  refine (word_c s (by simp only [maxLen]; omega)).call ?_
  conv => whnf
  refine (word_c (cutB s) (by simp only [maxLen]; omega)).call ?_
  conv => whnf
  refine (word_c (cutB (cutB s)) (by simp only [maxLen]; omega)).call ?_
  conv => whnf
  refine (word_c (cutB (cutB (cutB s))) (by simp only [maxLen]; omega)).call ?_
  conv => whnf
  refine (number_c (cutA s) (by simp only [maxLen]; omega)).call ?_
  conv => whnf
  refine (number_c (cutA (cutB (cutB s))) (by simp only [maxLen]; omega)).call ?_
  conv => whnf
  have hn3 := number_c (cutA (cutB (cutB (cutB s)))) (by simp only [maxLen]; omega)
  refine AW_rest (c' := restC 6 c20) (AW_has (l := [(0, ds' s), (2, .ptr 0 0 0 1), (3, di 0), (6, ds' (cutA (cutB s))), (9, ds' (cutB (cutB (cutB s)))), (10, ds' (cutA (cutB (cutB (cutB s))))), (11, ds' (cutB (cutB (cutB (cutB s))))), (12, .ptr 1 0 0 1)]) (fun e0 => ?_) ⟨rfl, rfl, rfl, rfl, rfl, rfl, rfl, rfl, trivial⟩)
  have hE : evQ s = if kindW (cutA (cutB s)) = 1 then ⟨numQ (cutA s), kindW (cutA (cutB s)), numQ (cutA (cutB (cutB s))), numQ (cutA (cutB (cutB (cutB s)))), cutB (cutB (cutB (cutB s)))⟩
    else if kindW (cutA (cutB s)) = 2 ∨ kindW (cutA (cutB s)) = 5 then ⟨numQ (cutA s), kindW (cutA (cutB s)), numQ (cutA (cutB (cutB s))), 0, cutB (cutB (cutB s))⟩
    else if kindW (cutA (cutB s)) = 3 ∨ kindW (cutA (cutB s)) = 4 then ⟨numQ (cutA s), kindW (cutA (cutB s)), numQ (cutA (cutB (cutB s))), numQ (cutA (cutB (cutB (cutB s)))), ⟨#[]⟩⟩
    else ⟨numQ (cutA s), 0, numQ (cutA (cutB (cutB s))), 0, ⟨#[]⟩⟩ := rfl
  generalize cutA (cutB s) = verb at hE
  refine goC 1 [] [] ?_
  conv => whnf
  refine if_ (fun hq => ?_) fun hq => ?_
  · have hw : verb = wFound := strEq_iff'.1 hq
    rw [hw, kw0, if_pos rfl] at hE
    conv => whnf
    refine hn3.call ?_
    conv => whnf
    exact AW_rest (c' := restC 7 c20) (AW_has (l := [(0, ds' s), (2, .ptr 0 0 0 1), (3, di 0), (12, .ptr 1 0 0 1)]) (fun e0 => done _ e0 hE (by simp only [maxLen]; omega)) ⟨rfl, rfl, rfl, rfl, trivial⟩)
  have q0 : verb ≠ wFound := fun h => Bool.noConfusion ((strEq_iff'.2 h).symm.trans hq)
  refine if_ (fun hq => ?_) fun hq => ?_
  · have hw : verb = wRename := strEq_iff'.1 hq
    rw [hw, kw1, if_neg (by decide), if_pos (by decide)] at hE
    conv => whnf
    exact AW_rest (c' := restC 7 c20) (AW_has (l := [(0, ds' s), (2, .ptr 0 0 0 1), (3, di 0), (12, .ptr 1 0 0 1)]) (fun e0 => done _ e0 hE (by simp only [maxLen]; omega)) ⟨rfl, rfl, rfl, rfl, trivial⟩)
  have q1 : verb ≠ wRename := fun h => Bool.noConfusion ((strEq_iff'.2 h).symm.trans hq)
  refine if_ (fun hq => ?_) fun hq => ?_
  · have hw : verb = wMove := strEq_iff'.1 hq
    rw [hw, kw2, if_neg (by decide), if_neg (by decide), if_pos (by decide)] at hE
    conv => whnf
    refine hn3.call ?_
    conv => whnf
    exact AW_rest (c' := restC 7 c20) (AW_has (l := [(0, ds' s), (2, .ptr 0 0 0 1), (3, di 0), (12, .ptr 1 0 0 1)]) (fun e0 => done _ e0 hE (Nat.zero_le _)) ⟨rfl, rfl, rfl, rfl, trivial⟩)
  have q2 : verb ≠ wMove := fun h => Bool.noConfusion ((strEq_iff'.2 h).symm.trans hq)
  refine if_ (fun hq => ?_) fun hq => ?_
  · have hw : verb = wMerge := strEq_iff'.1 hq
    rw [hw, kw3, if_neg (by decide), if_neg (by decide), if_pos (by decide)] at hE
    conv => whnf
    refine hn3.call ?_
    conv => whnf
    exact AW_rest (c' := restC 7 c20) (AW_has (l := [(0, ds' s), (2, .ptr 0 0 0 1), (3, di 0), (12, .ptr 1 0 0 1)]) (fun e0 => done _ e0 hE (Nat.zero_le _)) ⟨rfl, rfl, rfl, rfl, trivial⟩)
  have q3 : verb ≠ wMerge := fun h => Bool.noConfusion ((strEq_iff'.2 h).symm.trans hq)
  refine if_ (fun hq => ?_) fun hq => ?_
  · have hw : verb = wAlias := strEq_iff'.1 hq
    rw [hw, kw4, if_neg (by decide), if_pos (by decide)] at hE
    conv => whnf
    exact AW_rest (c' := restC 7 c20) (AW_has (l := [(0, ds' s), (2, .ptr 0 0 0 1), (3, di 0), (12, .ptr 1 0 0 1)]) (fun e0 => done _ e0 hE (by simp only [maxLen]; omega)) ⟨rfl, rfl, rfl, rfl, trivial⟩)
  have q4 : verb ≠ wAlias := fun h => Bool.noConfusion ((strEq_iff'.2 h).symm.trans hq)
  rw [kw_none q0 q1 q2 q3 q4, if_neg (by decide), if_neg (by decide), if_neg (by decide)] at hE
  conv => whnf
  exact AW_rest (c' := restC 7 c20) (AW_has (l := [(0, ds' s), (2, .ptr 0 0 0 1), (3, di 0), (12, .ptr 1 0 0 1)]) (fun e0 => done _ e0 hE (Nat.zero_le _)) ⟨rfl, rfl, rfl, rfl, trivial⟩)
theorem parts_small (e : Ev) (form : EvForm e) : (Lib.join ((partsL e).map (·.data.toList)) sp.data.toList).length ≤ 100000000 := by
  have hw : (wordOf e.kind).data.toList.length ≤ 24 := by
    unfold wordOf
    split
    · decide
    · split
      · decide
      · split
        · decide
        · split
          · decide
          · split <;> decide
  have hi : ∀ n : Int, -9223372036854775808 ≤ n → n ≤ 9223372036854775807 → (itoaB n).data.toList.length ≤ 24 := fun n h0 h1 => Nat.le_trans (Lib.itoa_length_le n h0 h1) (by decide)
  have hnm : e.name.data.toList.length ≤ 24 := by
    have k := form.kind
    by_cases hk : e.kind = 1 ∨ e.kind = 2 ∨ e.kind = 5
    · have h1 := form.named hk
      unfold nameB at h1
      simp only [Bool.and_eq_true, decide_eq_true_eq] at h1
      have h2 := h1.2.1
      have : e.name.data.toList.length = e.name.size := by simp
      omega
    · rw [form.blank (by omega)]; decide
  have hall : ∀ x ∈ (partsL e).map (·.data.toList), x.length ≤ 24 := fun x hx => by
    obtain ⟨y, hy, rfl⟩ := List.mem_map.1 hx
    have o1 := form.o13
    have o2 := form.o4
    have o3 := form.o25
    have k := form.kind
    have f1 := form.day0
    have f2 := form.day1
    have f3 := form.place
    unfold partsL at hy
    simp only [List.mem_append, List.mem_cons, List.not_mem_nil, or_false] at hy
    rcases hy with ((rfl | rfl | rfl) | hy) | hy
    · exact hi _ (by omega) (by omega)
    · exact hw
    · exact hi _ (by omega) (by omega)
    · split at hy
      · rw [List.mem_singleton.1 hy]; exact hi _ (by omega) (by omega)
      · cases hy
    · split at hy
      · cases hy
      · rw [List.mem_singleton.1 hy]; exact hnm
  have hl := lens_le hall
  have hpl := parts_len e
  rw [List.length_map] at hl
  cases hp : (partsL e).map (·.data.toList) with
  | nil => simp [Lib.join]
  | cons x r =>
    rw [Lib.join_length, ← hp]
    have : r.length ≤ (partsL e).length := by
      have h3 := congrArg List.length hp
      rw [List.length_map, List.length_cons] at h3
      omega
    have h1 : sp.data.toList.length = 1 := rfl
    rw [h1]
    omega
theorem join_size {e : Ev} (h : wrongL e = 0) : (joinB (partsL e) sp).size ≤ 100000000 := by
  have := parts_small e (wrong_form h)
  have h2 : (joinB (partsL e) sp).size = (Lib.join ((partsL e).map (·.data.toList)) sp.data.toList).length := by simp [joinB, ByteArray.size]
  omega
theorem evEq (e : Ev) : eqLs [.int .i64 e.day, .int .u8 e.kind, .int .i64 e.place, .int .i64 e.other, .string e.name] [.int .i64 e.day, .int .u8 e.kind, .int .i64 e.place, .int .i64 e.other, .string e.name] = true := by simp [eqLs, leafEq, strEq_refl]
noncomputable def c3 : Code := Tryz.f3.body.getD .skip
theorem lawLines_c (x : Ev) (s : ByteArray) (hx : x.name.size ≤ maxLen) (hs : s.size ≤ 140737488355327) : Pur Pg 3 [.agg x.enc, ds' s] (db true) := by
  refine Pur_of (PdL.cons (.agg (pdEv x)) (.one (.v _))) (AC_fn Tryz.func3 rfl rfl rfl [] (fun _ => true) (fun b h => nomatch h) (AW_rest (c' := restC 0 c3) ?_))
  have hrq := rRead_c s hs
  rw [readQ_eq] at hrq
  have hrd := read_c s hs
  obtain ⟨y, hy⟩ : ∃ y, y = (readV s).1 := ⟨_, rfl⟩
  obtain ⟨g, hg⟩ : ∃ g, g = (readV s).2 := ⟨_, rfl⟩
  have hok := readV_ok (s := s)
  rw [← hy, ← hg] at hrq hrd hok
  have hw := write_c x hx
  have hw2 := wRef_c x hx
  obtain ⟨o, e, hD⟩ : ∃ o e, writeD x = .tup [ds' o, di e] := by
    unfold writeD
    split
    · exact ⟨_, _, rfl⟩
    · exact ⟨_, _, rfl⟩
  have ho : e = 0 → wrongL x = 0 ∧ o = joinB (partsL x) sp := fun he => by
    unfold writeD at hD
    split at hD
    · rename_i h
      injection hD with hD
      injection hD with _ hD
      injection hD with hD
      injection hD with hD
      injection hD with _ hD
      rw [he] at hD
      exact absurd hD h
    · rename_i h
      injection hD with hD
      injection hD with hD _
      injection hD with hD
      injection hD with hD
      exact ⟨Classical.not_not.1 h, hD.symm⟩
  rw [hD] at hw hw2
  have hyn : y.name.size ≤ maxLen := by
    rw [hy]
    unfold readV
    split
    · unfold evR
      have h1 := cutB_le s
      have h2 := cutB_le (cutB s)
      have h3 := cutB_le (cutB (cutB s))
      have h4 := cutB_le (cutB (cutB (cutB s)))
      simp only
      split
      · simp only [maxLen]; omega
      · simp only [maxLen]; omega
    · exact Nat.zero_le _
  have yz : eqLs [.int .i64 y.day, .int .u8 y.kind, .int .i64 y.place, .int .i64 y.other, .string y.name] [.int .i64 y.day, .int .u8 y.kind, .int .i64 y.place, .int .i64 y.other, .string y.name] = true := evEq y
  have tail2 : ∀ (G : Heap) e0, AW Pg Tryz.f3.ntmps (fun _ => true) 0 (restC 7 c3) (fun ex s' => dret Pg Tryz.f3.results.toList (fun d H' _ => Frz H' d (db true)) [] ex s'.e s'.H)
      ⟨dupds e0 [(1, ds' s), (9, .ptr 1 0 0 1), (10, di g)], .arr 23 5 [x.enc] :: .arr 23 5 [y.enc] :: .arr 23 5 [y.enc] :: G⟩ := by
    intro G e0
    refine goC 20 [] [] ?_
    conv => whnf
    refine if_ (fun h => ?_) fun h => ?_
    · have hg0 : g = 0 := by simpa using h
      obtain ⟨h1, h2⟩ := hok hg0
      have hwy := write_c y hyn
      have hDy : writeD y = .tup [ds' s, di 0] := by unfold writeD; rw [if_neg (by rw [h1]; simp), h2]
      rw [hDy] at hwy
      conv => whnf
      refine hwy.call ?_
      conv => whnf
      refine iff_ (by rw [strEq_refl]; rfl) ?_
      refine alive_c.call ?_
      conv => whnf
      exact .pd (.v _)
    · refine alive_c.call ?_
      conv => whnf
      exact .pd (.v _)
  have tail1 : ∀ e0, AW Pg Tryz.f3.ntmps (fun _ => true) 0 (restC 6 c3) (fun ex s' => dret Pg Tryz.f3.results.toList (fun d H' _ => Frz H' d (db true)) [] ex s'.e s'.H)
      ⟨dupds e0 [(1, ds' s), (2, .ptr 0 0 0 1), (5, ds' o), (6, di e), (9, .ptr 1 0 0 1), (10, di g)], [.arr 23 5 [x.enc], .arr 23 5 [y.enc], .arr 23 5 [y.enc]]⟩ := by
    intro e0
    refine goC 1 [] [] ?_
    conv => whnf
    refine if_ (fun h => ?_) fun h => ?_
    · have he0 : e = 0 := by simpa using h
      obtain ⟨h1, h2⟩ := ho he0
      have hro := read_c o (by rw [h2]; have := join_size h1; omega)
      rw [h2, readV_write h1, ← h2] at hro
      conv => whnf
      refine hro.call ?_
      conv => whnf
      refine ⟨⟨by kernel_rfl, by kernel_rfl⟩, ?_⟩
      refine neq_true (evEq x) ?_
      conv => whnf
      exact AW_rest (c' := restC 7 c3) (AW_has (l := [(1, ds' s), (9, .ptr 1 0 0 1), (10, di g)]) (fun e0 => tail2 _ e0) (by exact ⟨rfl, rfl, rfl, trivial⟩))
    · conv => whnf
      exact AW_rest (c' := restC 7 c3) (AW_has (l := [(1, ds' s), (9, .ptr 1 0 0 1), (10, di g)]) (fun e0 => tail2 _ e0) (by exact ⟨rfl, rfl, rfl, trivial⟩))
  refine goC 5 [] [] ?_
  conv => whnf
  refine hw.call ?_
  conv => whnf
  refine hw2.call ?_
  conv => whnf
  refine hrd.call ?_
  conv => whnf
  refine hrq.call ?_
  conv => whnf
  refine AW_rest (c' := restC 5 c3) (AW_has (l := [(1, ds' s), (2, .ptr 0 0 0 1), (5, ds' o), (6, di e), (7, ds' o), (8, di e), (9, .ptr 1 0 0 1), (10, di g), (11, .ptr 2 0 0 1), (12, di g)]) (fun e0 => ?_) (by exact ⟨rfl, rfl, rfl, rfl, rfl, rfl, rfl, rfl, rfl, rfl, trivial⟩))
  refine goC 1 [] [] ?_
  conv => whnf
  refine iff_ (by rw [strEq_refl]; rfl) ?_
  conv => whnf
  refine iff_ (by simp) ?_
  conv => whnf
  refine ⟨⟨by kernel_rfl, by kernel_rfl⟩, ?_⟩
  refine neq_true yz ?_
  conv => whnf
  refine iff_ (by simp) ?_
  conv => whnf
  exact AW_rest (c' := restC 6 c3) (AW_has (l := [(1, ds' s), (2, .ptr 0 0 0 1), (5, ds' o), (6, di e), (9, .ptr 1 0 0 1), (10, di g)]) (fun e0 => tail1 e0) (by exact ⟨rfl, rfl, rfl, rfl, rfl, rfl, trivial⟩))
end Go.Proofs.YtpndfdfipkadkaaGreatDoor
