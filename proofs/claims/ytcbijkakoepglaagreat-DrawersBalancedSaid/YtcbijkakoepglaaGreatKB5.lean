/- A part of a proof over the ledger of the package drawers: what its functions do, as contracts. Conditions: none. -/
import Derived.Test.YtcbijkakoepglaaGreatKB4
set_option linter.all false
namespace Go.Proofs.YtcbijkakoepglaaGreat
open Go Go.Wx
set_option maxRecDepth 100000
def drawers_Audit.j3 (Q : Option Addr → Nat → Nat → Int → World → Prop) (b1 : Nat) (v1 : Int) (kl1 : Int → World → Prop) (x1 : TPosting) (v4 : Bool) (w12 : World) : Prop := (
 Ifb v4
 (Q none 0 0 62 w12)
 (Dr w12 fun w13 =>
 ∃ x5, (Instr.lookup 103 (.map (some b1)) (vg [vu x1.To_Kind, vi x1.To_Id, vs x1.Unit]) false).run Pg w13 = .ok (vi x5) w13 ∧
 ∃ (x6 : Int), ∃ (x7 : Int), ∃ w14, (Instr.mapEntry 103 (.map (some b1)) (vg [vu x1.To_Kind, vi x1.To_Id, vs x1.Unit])).run Pg w13 = .ok (.tuple #[vi x6, vi x7]) w14 ∧
 (Instr.lookup 103 (.map (some b1)) (vg [vu x1.To_Kind, vi x1.To_Id, vs x1.Unit]) false).run Pg w14 = .ok (vi x5) w14 ∧ ∃ w15, (Instr.entryStore 103 (.map (some b1)) (vi x7) (vi (IntKind.wrap .i64 (x5 + x1.N)))).run Pg w14 = .ok () w15 ∧
 kl1 (IntKind.wrap .i64 (v1 + 1)) w15))
def drawers_Audit.j2 (Q : Option Addr → Nat → Nat → Int → World → Prop) (b1 : Nat) (v1 : Int) (kl1 : Int → World → Prop) (x1 : TPosting) (b2 : Nat) (v3 : Bool) (w6 : World) : Prop := (
 Ifb v3
 (Q none 0 0 7 w6)
 (Al w6 (.cells #[vu 0, vi 0, vs (ByteArray.mk #[])] 111) fun b3 w7 =>
 Sb w7 b3 (.cells #[vu x1.From_Kind, vi x1.From_Id, vs x1.Unit] 111 (0, 0)) fun w8 =>
 Dr w8 fun w9 =>
 ∃ x2, (Instr.lookup 103 (.map (some b1)) (vg [vu x1.From_Kind, vi x1.From_Id, vs x1.Unit]) false).run Pg w9 = .ok (vi x2) w9 ∧
 ∃ (x3 : Int), ∃ (x4 : Int), ∃ w10, (Instr.mapEntry 103 (.map (some b1)) (vg [vu x1.From_Kind, vi x1.From_Id, vs x1.Unit])).run Pg w9 = .ok (.tuple #[vi x3, vi x4]) w10 ∧
 Kp b2 w9 w10 ∧ Kp b3 w9 w10 ∧ (Instr.lookup 103 (.map (some b1)) (vg [vu x1.From_Kind, vi x1.From_Id, vs x1.Unit]) false).run Pg w10 = .ok (vi x2) w10 ∧ ∃ w11, (Instr.entryStore 103 (.map (some b1)) (vi x4) (vi (IntKind.wrap .i64 (x2 - x1.N)))).run Pg w10 = .ok () w11 ∧
 Kp b2 w10 w11 ∧ Kp b3 w10 w11 ∧ Ifb (x1.From_Kind != 1)
 (Ifb (x1.From_Kind != 6)
 (∃ x8, (Instr.lookup 103 (.map (some b1)) (vg [vu x1.From_Kind, vi x1.From_Id, vs x1.Unit]) false).run Pg w11 = .ok (vi x8) w11 ∧
 drawers_Audit.j3 Q b1 v1 kl1 x1 (decide (x8 < 0)) w11)
 (drawers_Audit.j3 Q b1 v1 kl1 x1 false w11))
 (drawers_Audit.j3 Q b1 v1 kl1 x1 false w11)))
def drawers_Audit.j1 (Q : Option Addr → Nat → Nat → Int → World → Prop) (l_a : Option Addr) (l_n : Nat) (b1 : Nat) (v1 : Int) (kl1 : Int → World → Prop) (x1 : TPosting) (b2 : Nat) (v2 : Bool) (w5 : World) : Prop := (
 Ifb v2
 (Q none 0 0 1 w5)
 (Dr w5 fun w16 =>
 Ifb (decide (v1 > 0))
 (Ix l_a l_n (IntKind.wrap .i64 (v1 - 1)) fun p2 =>
 LdI .i64 w16 (Addr.add p2 ((IntKind.wrap .i64 (v1 - 1)).toNat * 9)) fun x9 =>
 drawers_Audit.j2 Q b1 v1 kl1 x1 b2 (decide (x1.Day < x9)) w16)
 (drawers_Audit.j2 Q b1 v1 kl1 x1 b2 false w16)))
def drawers_Audit.l1 (Q : Option Addr → Nat → Nat → Int → World → Prop) (l_a : Option Addr) (l_n : Nat) (b1 : Nat) : Nat → Int → World → Prop
 | 0, _, _ => False
 | nl1 + 1, v1, w2 => (
 Ifb (decide (v1 < ((l_n : Nat) : Int)))
 (Ix l_a l_n v1 fun p1 =>
 LdT TPosting.enc w2 (Addr.add p1 (v1.toNat * 9)) fun x1 =>
 Al w2 (.cells #[vi 0, vs (ByteArray.mk #[]), vi 0, vu 0, vi 0, vu 0, vi 0, vu 0, vi 0] 42) fun b2 w3 =>
 Sb w3 b2 (.cells #[vi x1.Day, vs x1.Unit, vi x1.N, vu x1.From_Kind, vi x1.From_Id, vu x1.To_Kind, vi x1.To_Id, vu x1.Why, vi x1.Lot] 42 (0, 0)) fun w4 =>
 Dr w4 fun w17 =>
 Ifb (decide (x1.Day < 0))
 (drawers_Audit.j1 Q l_a l_n b1 v1 (drawers_Audit.l1 Q l_a l_n b1 nl1) x1 b2 true w17)
 (Ifb (decide (x1.Day > 100000))
 (drawers_Audit.j1 Q l_a l_n b1 v1 (drawers_Audit.l1 Q l_a l_n b1 nl1) x1 b2 true w17)
 (Cl Pg 66 #[vs x1.Unit] w17 (fun v w18 => ∃ r1, v = vb r1 ∧ Kp b2 w17 w18 ∧ Ifb (!r1)
 (drawers_Audit.j1 Q l_a l_n b1 v1 (drawers_Audit.l1 Q l_a l_n b1 nl1) x1 b2 true w18)
 (Ifb (decide (x1.N < 1))
 (drawers_Audit.j1 Q l_a l_n b1 v1 (drawers_Audit.l1 Q l_a l_n b1 nl1) x1 b2 true w18)
 (Ifb (decide (x1.N > 1000000000))
 (drawers_Audit.j1 Q l_a l_n b1 v1 (drawers_Audit.l1 Q l_a l_n b1 nl1) x1 b2 true w18)
 (Ifb (decide (x1.Lot < 1))
 (drawers_Audit.j1 Q l_a l_n b1 v1 (drawers_Audit.l1 Q l_a l_n b1 nl1) x1 b2 true w18)
 (Ifb (decide (x1.Lot > 2000))
 (drawers_Audit.j1 Q l_a l_n b1 v1 (drawers_Audit.l1 Q l_a l_n b1 nl1) x1 b2 true w18)
 (Cl Pg 67 #[vg [vu x1.From_Kind, vi x1.From_Id]] w18 (fun v w19 => ∃ r2, v = vb r2 ∧ Kp b2 w18 w19 ∧ Ifb (!r2)
 (drawers_Audit.j1 Q l_a l_n b1 v1 (drawers_Audit.l1 Q l_a l_n b1 nl1) x1 b2 true w19)
 (Cl Pg 67 #[vg [vu x1.To_Kind, vi x1.To_Id]] w19 (fun v w20 => ∃ r3, v = vb r3 ∧ Kp b2 w19 w20 ∧ Ifb (!r3)
 (drawers_Audit.j1 Q l_a l_n b1 v1 (drawers_Audit.l1 Q l_a l_n b1 nl1) x1 b2 true w20)
 (Cl Pg 69 #[vu x1.Why] w20 (fun v w21 => ∃ r4_a r4_n r4_c, v = vl r4_a r4_n r4_c ∧ Kp b2 w20 w21 ∧ Cl Pg 68 #[vl r4_a r4_n r4_c, vg [vu x1.From_Kind, vu x1.To_Kind]] w21 (fun v w22 => ∃ r5, v = vb r5 ∧ Kp b2 w21 w22 ∧ drawers_Audit.j1 Q l_a l_n b1 v1 (drawers_Audit.l1 Q l_a l_n b1 nl1) x1 b2 (!r5) w22)))))))))))))))
 (Cl Pg 70 #[.map (some b1)] w2 (fun v w23 => ∃ r6_a r6_n r6_c, v = vl r6_a r6_n r6_c ∧ Q r6_a r6_n r6_c 0 w23)))
def drawers_Audit.R (Q : Option Addr → Nat → Nat → Int → World → Prop) (l_a : Option Addr) (l_n : Nat) (l_c : Nat) (w : World) : Prop := (
 Ifb (decide (((l_n : Nat) : Int) > 20000))
 (Q none 0 0 2 w)
 (Al w (.map #[] 0) fun b1 w1 =>
 ∃ k, drawers_Audit.l1 Q l_a l_n b1 k 0 w1))
theorem drawers_Audit.ok {Q : Option Addr → Nat → Nat → Int → World → Prop} {l_a : Option Addr} {l_n : Nat} {l_c : Nat} {w : World} (h : drawers_Audit.R Q l_a l_n l_c w) : Cl Pg 19 #[vl l_a l_n l_c] w (fun v w' => ∃ r0a r0n r0c r1, v = .tuple #[vl r0a r0n r0c, vi r1] ∧ Q r0a r0n r0c r1 w') := by
 refine calls_args (args := [vl l_a l_n l_c]) Tryz.func19 ?_
 unfold drawers_Audit.R at h
 refine W_regseq <| ps 2 [(2, vl none 0 0), (3, vi 0)] <| WO_nil <| W_seq <| W_regseq <| ps 3 [(8, vl l_a l_n l_c), (9, vi (l_n : Nat)), (10, vb (decide (((l_n : Nat) : Int) > 20000)))] <| WO_nil <| ci h (fun h => ?_) fun h => ?_
 exact W_regseq <| ps 2 [(2, vl none 0 0), (3, vi 2)] <| WO_nil <| W_ret <| seqK_ret <| ret2 (v := vl none 0 0) (v' := vi 2) (t := 2) (u := 3) rfl rfl rfl ⟨_, _, _, _, rfl, h⟩
 refine W_skip <| W_regseq <| alm h ?_
 intro b1 w1 _ _ _ h
 refine ps 1 [(4, .map (some b1))] <| WO_nil <| W_seq <| W_regseq <| ps 3 [(12, vl l_a l_n l_c), (13, vi (l_n : Nat)), (14, vi 0)] <| WO_nil <| W_block ?_
 obtain ⟨nl1, h⟩ := h
 refine W_loopI (fun k e w2 => ∃ (e0 : Env) (v1 : Int), e = upds e0 [(0, vl l_a l_n l_c), (4, .map (some b1)), (12, vl l_a l_n l_c), (13, vi (l_n : Nat)), (14, vi v1)] ∧ drawers_Audit.l1 Q l_a l_n b1 k v1 w2) nl1 ?_ ?_ ?_
 rintro _ _ ⟨_, _, _, h⟩
 exact h
 exact ⟨_, 0, Agree.eq ⟨rfl, rfl, rfl, rfl, rfl, trivial⟩, h⟩
 clear h nl1
 rintro nl1 _ w2 ⟨e0, v1, rfl, h⟩
 unfold drawers_Audit.l1 at h
 refine W_regseq <| ps 1 [(15, vb (decide (v1 < ((l_n : Nat) : Int))))] <| WO_nil <| W_seq <| ci h (fun h => ?_) fun h => ?_
 refine W_skip <| W_seq <| W_block <| W_regseq <| ps 1 [(16, vi v1)] <| ix slk22 h fun p1 h => ?_
 obtain ⟨x1, hx1, h⟩ := h
 refine ldn tk42 hx1 <| alp h ?_
 intro b2 w3 _ _ hb_b2 h
 refine ps 1 [(5, vi v1)] ?_
 refine sb tk42 hb_b2 h ?_
 intro w4 ew hb_ h
 replace hb_b2 := hb_
 refine WO_nil <| W_seq <| W_join (fun e w5 => ∃ (e0 : Env) (v2 : Bool), e = upds e0 [(0, vl l_a l_n l_c), (4, .map (some b1)), (5, vi v1), (6, vp ⟨b2, 0, none⟩), (12, vl l_a l_n l_c), (13, vi (l_n : Nat)), (14, vi v1), (78, vb v2)] ∧ w5.heap[b2]? = some (.cells #[vi x1.Day, vs x1.Unit, vi x1.N, vu x1.From_Kind, vi x1.From_Id, vu x1.To_Kind, vi x1.To_Id, vu x1.Why, vi x1.Lot] 42 (0, 0)) ∧ drawers_Audit.j1 Q l_a l_n b1 v1 (drawers_Audit.l1 Q l_a l_n b1 nl1) x1 b2 v2 w5) ?_ ?_
 refine drw folM [[], [], [1], [1], [1], [1], [1, 5], [1, 5], [1, 5], [1, 5], [1, 5], [1, 5, 10], [1, 5, 10], [1, 5, 10], [1, 5, 10], [1, 5, 10], [1, 5, 10], [1, 5, 10, 16], [1, 5, 10, 16], [1, 5, 10, 16], [1, 5, 10, 16], [1, 5, 10, 16], [1, 5, 10, 16, 21], [1, 5, 10, 16, 21], [1, 5, 10, 16, 21], [1, 5, 10, 16, 21], [1, 5, 10, 16, 21], [1, 5, 10, 16, 21, 26], [1, 5, 10, 16, 21, 26], [1, 5, 10, 16, 21, 26], [1, 5, 10, 16, 21, 26], [1, 5, 10, 16, 21, 26], [1, 5, 10, 16, 21, 26, 31], [1, 5, 10, 16, 21, 26, 31], [1, 5, 10, 16, 21, 26, 31], [1, 5, 10, 16, 21, 26, 31], [1, 5, 10, 16, 21, 26, 31], [1, 5, 10, 16, 21, 26, 31, 36], [1, 5, 10, 16, 21, 26, 31, 36], [1, 5, 10, 16, 21, 26, 31, 36], [1, 5, 10, 16, 21, 26, 31, 36], [1, 5, 10, 16, 21, 26, 31, 36], [1, 5, 10, 16, 21, 26, 31, 36], [1, 5, 10, 16, 21, 26, 31, 36, 42], [1, 5, 10, 16, 21, 26, 31, 36, 42], [1, 5, 10, 16, 21, 26, 31, 36, 42], [1, 5, 10, 16, 21, 26, 31, 36, 42], [1, 5, 10, 16, 21, 26, 31, 36, 42], [1, 5, 10, 16, 21, 26, 31, 36, 42], [1, 5, 10, 16, 21, 26, 31, 36, 42, 48], [1, 5, 10, 16, 21, 26, 31, 36, 42], [1, 5, 10, 16, 21, 26, 31, 36, 42], [1, 5, 10, 16, 21, 26, 31, 36, 42], [1, 5, 10, 16, 21, 26, 31, 36, 42], [1, 5, 10, 16, 21, 26, 31, 36, 42], [1, 5, 10, 16, 21, 26, 31, 36, 42], [1, 5, 10, 16, 21, 26, 31, 36, 42, 52, 55], [1, 5, 10, 16, 21, 26, 31, 36, 42, 48, 52, 55], [1, 5, 10, 16, 21, 26, 31, 36, 42, 48, 52, 55], [1, 5, 10, 16, 21, 26, 31, 36, 42, 48, 52, 55]] [.p 0, .l 1, .p 2, .p 3, .p 4, .l 5, .p 6, .p 7, .p 8, .p 9, .l 10, .e 11, .p 12, .p 13, .p 14, .p 15, .l 16, .p 17, .p 18, .p 19, .p 20, .l 21, .p 22, .p 23, .p 24, .p 25, .l 26, .p 27, .p 28, .p 29, .p 30, .l 31, .p 32, .p 33, .p 34, .p 35, .l 36, .e 37, .p 38, .p 39, .p 40, .p 41, .l 42, .e 43, .p 44, .p 45, .p 46, .p 47, .l 48, .p 50, .p 51, .l 52, .p 53, .p 54, .l 55, .p 56, .e 49, .e 57, .p 58, .p 59] h ?_
 intro w17 ew h
 replace hb_b2 := dr_keep ew hb_b2
 refine psC 1 [(19, vp ⟨b2, 0, none⟩)] ?_
 refine lb1C tk3 hb_b2 <| psC 2 [(21, vb (decide (x1.Day < 0))), (22, vb (decide (x1.Day < 0)))] ?_
 refine csC 22 h (fun h => ?_) fun h => ?_
 exact psC 1 [(23, undef)] <| WC_lskip rfl rfl rfl <| psC 4 [(25, undef), (26, vb true), (27, vb true), (28, undef)] <| WC_lskip rfl rfl rfl <| WC_eskip rfl rfl rfl <| psC 4 [(31, undef), (32, vb true), (33, vb true), (34, undef)] <| WC_lskip rfl rfl rfl <| psC 4 [(36, undef), (37, vb true), (38, vb true), (39, undef)] <| WC_lskip rfl rfl rfl <| psC 4 [(41, undef), (42, vb true), (43, vb true), (44, undef)] <| WC_lskip rfl rfl rfl <| psC 4 [(46, undef), (47, vb true), (48, vb true), (49, undef)] <| WC_lskip rfl rfl rfl <| psC 4 [(51, undef), (52, vb true), (53, vb true), (54, undef)] <| WC_lskip rfl rfl rfl <| WC_eskip rfl rfl rfl <| psC 4 [(57, undef), (58, vb true), (59, vb true), (60, undef)] <| WC_lskip rfl rfl rfl <| WC_eskip rfl rfl rfl <| psC 4 [(63, undef), (64, vb true), (65, vb true), (66, undef)] <| WC_lskip rfl rfl rfl <| psC 2 [(69, undef), (70, undef)] <| WC_lskip rfl rfl rfl <| psC 2 [(72, undef), (73, undef)] <| WC_lskip rfl rfl rfl <| psC 1 [(75, undef)] <| WC_eskip rfl rfl rfl <| WC_eskip rfl rfl rfl <| psC 2 [(77, undef), (78, vb true)] <| WC_nil <| ⟨_, true, Agree.eq ⟨rfl, rfl, rfl, rfl, rfl, rfl, rfl, rfl, trivial⟩, hb_b2, h⟩
 refine psC 1 [(23, vp ⟨b2, 0, none⟩)] ?_
 refine lb1C tk3 hb_b2 <| psC 3 [(25, vb (decide (x1.Day > 100000))), (26, vb (decide (x1.Day > 100000))), (27, vb (decide (x1.Day > 100000)))] ?_
 refine csC 27 h (fun h => ?_) fun h => ?_
 exact psC 1 [(28, undef)] <| WC_lskip rfl rfl rfl <| WC_eskip rfl rfl rfl <| psC 4 [(31, undef), (32, vb true), (33, vb true), (34, undef)] <| WC_lskip rfl rfl rfl <| psC 4 [(36, undef), (37, vb true), (38, vb true), (39, undef)] <| WC_lskip rfl rfl rfl <| psC 4 [(41, undef), (42, vb true), (43, vb true), (44, undef)] <| WC_lskip rfl rfl rfl <| psC 4 [(46, undef), (47, vb true), (48, vb true), (49, undef)] <| WC_lskip rfl rfl rfl <| psC 4 [(51, undef), (52, vb true), (53, vb true), (54, undef)] <| WC_lskip rfl rfl rfl <| WC_eskip rfl rfl rfl <| psC 4 [(57, undef), (58, vb true), (59, vb true), (60, undef)] <| WC_lskip rfl rfl rfl <| WC_eskip rfl rfl rfl <| psC 4 [(63, undef), (64, vb true), (65, vb true), (66, undef)] <| WC_lskip rfl rfl rfl <| psC 2 [(69, undef), (70, undef)] <| WC_lskip rfl rfl rfl <| psC 2 [(72, undef), (73, undef)] <| WC_lskip rfl rfl rfl <| psC 1 [(75, undef)] <| WC_eskip rfl rfl rfl <| WC_eskip rfl rfl rfl <| psC 2 [(77, undef), (78, vb true)] <| WC_nil <| ⟨_, true, Agree.eq ⟨rfl, rfl, rfl, rfl, rfl, rfl, rfl, rfl, trivial⟩, hb_b2, h⟩
 refine psC 1 [(28, vp ⟨b2, 1, none⟩)] ?_
 refine lb1C tk9 hb_b2 ?_
 refine clC h ?_
 rintro _ w18 ⟨r1, rfl, hk0, h⟩
 replace hb_b2 := kp_at hk0 hb_b2
 refine ⟨AllOk.nil, ?_⟩
 refine psC 3 [(31, vb (!r1)), (32, vb (!r1)), (33, vb (!r1))] ?_
 refine csC 33 h (fun h => ?_) fun h => ?_
 exact psC 1 [(34, undef)] <| WC_lskip rfl rfl rfl <| psC 4 [(36, undef), (37, vb true), (38, vb true), (39, undef)] <| WC_lskip rfl rfl rfl <| psC 4 [(41, undef), (42, vb true), (43, vb true), (44, undef)] <| WC_lskip rfl rfl rfl <| psC 4 [(46, undef), (47, vb true), (48, vb true), (49, undef)] <| WC_lskip rfl rfl rfl <| psC 4 [(51, undef), (52, vb true), (53, vb true), (54, undef)] <| WC_lskip rfl rfl rfl <| WC_eskip rfl rfl rfl <| psC 4 [(57, undef), (58, vb true), (59, vb true), (60, undef)] <| WC_lskip rfl rfl rfl <| WC_eskip rfl rfl rfl <| psC 4 [(63, undef), (64, vb true), (65, vb true), (66, undef)] <| WC_lskip rfl rfl rfl <| psC 2 [(69, undef), (70, undef)] <| WC_lskip rfl rfl rfl <| psC 2 [(72, undef), (73, undef)] <| WC_lskip rfl rfl rfl <| psC 1 [(75, undef)] <| WC_eskip rfl rfl rfl <| WC_eskip rfl rfl rfl <| psC 2 [(77, undef), (78, vb true)] <| WC_nil <| ⟨_, true, Agree.eq ⟨rfl, rfl, rfl, rfl, rfl, rfl, rfl, rfl, trivial⟩, hb_b2, h⟩
 refine psC 1 [(34, vp ⟨b2, 2, none⟩)] ?_
 refine lb1C tk3 hb_b2 <| psC 3 [(36, vb (decide (x1.N < 1))), (37, vb (decide (x1.N < 1))), (38, vb (decide (x1.N < 1)))] ?_
 refine csC 38 h (fun h => ?_) fun h => ?_
 exact psC 1 [(39, undef)] <| WC_lskip rfl rfl rfl <| psC 4 [(41, undef), (42, vb true), (43, vb true), (44, undef)] <| WC_lskip rfl rfl rfl <| psC 4 [(46, undef), (47, vb true), (48, vb true), (49, undef)] <| WC_lskip rfl rfl rfl <| psC 4 [(51, undef), (52, vb true), (53, vb true), (54, undef)] <| WC_lskip rfl rfl rfl <| WC_eskip rfl rfl rfl <| psC 4 [(57, undef), (58, vb true), (59, vb true), (60, undef)] <| WC_lskip rfl rfl rfl <| WC_eskip rfl rfl rfl <| psC 4 [(63, undef), (64, vb true), (65, vb true), (66, undef)] <| WC_lskip rfl rfl rfl <| psC 2 [(69, undef), (70, undef)] <| WC_lskip rfl rfl rfl <| psC 2 [(72, undef), (73, undef)] <| WC_lskip rfl rfl rfl <| psC 1 [(75, undef)] <| WC_eskip rfl rfl rfl <| WC_eskip rfl rfl rfl <| psC 2 [(77, undef), (78, vb true)] <| WC_nil <| ⟨_, true, Agree.eq ⟨rfl, rfl, rfl, rfl, rfl, rfl, rfl, rfl, trivial⟩, hb_b2, h⟩
 refine psC 1 [(39, vp ⟨b2, 2, none⟩)] ?_
 refine lb1C tk3 hb_b2 <| psC 3 [(41, vb (decide (x1.N > 1000000000))), (42, vb (decide (x1.N > 1000000000))), (43, vb (decide (x1.N > 1000000000)))] ?_
 refine csC 43 h (fun h => ?_) fun h => ?_
 exact psC 1 [(44, undef)] <| WC_lskip rfl rfl rfl <| psC 4 [(46, undef), (47, vb true), (48, vb true), (49, undef)] <| WC_lskip rfl rfl rfl <| psC 4 [(51, undef), (52, vb true), (53, vb true), (54, undef)] <| WC_lskip rfl rfl rfl <| WC_eskip rfl rfl rfl <| psC 4 [(57, undef), (58, vb true), (59, vb true), (60, undef)] <| WC_lskip rfl rfl rfl <| WC_eskip rfl rfl rfl <| psC 4 [(63, undef), (64, vb true), (65, vb true), (66, undef)] <| WC_lskip rfl rfl rfl <| psC 2 [(69, undef), (70, undef)] <| WC_lskip rfl rfl rfl <| psC 2 [(72, undef), (73, undef)] <| WC_lskip rfl rfl rfl <| psC 1 [(75, undef)] <| WC_eskip rfl rfl rfl <| WC_eskip rfl rfl rfl <| psC 2 [(77, undef), (78, vb true)] <| WC_nil <| ⟨_, true, Agree.eq ⟨rfl, rfl, rfl, rfl, rfl, rfl, rfl, rfl, trivial⟩, hb_b2, h⟩
 refine psC 1 [(44, vp ⟨b2, 8, none⟩)] ?_
 refine lb1C tk3 hb_b2 <| psC 3 [(46, vb (decide (x1.Lot < 1))), (47, vb (decide (x1.Lot < 1))), (48, vb (decide (x1.Lot < 1)))] ?_
 refine csC 48 h (fun h => ?_) fun h => ?_
 exact psC 1 [(49, undef)] <| WC_lskip rfl rfl rfl <| psC 4 [(51, undef), (52, vb true), (53, vb true), (54, undef)] <| WC_lskip rfl rfl rfl <| WC_eskip rfl rfl rfl <| psC 4 [(57, undef), (58, vb true), (59, vb true), (60, undef)] <| WC_lskip rfl rfl rfl <| WC_eskip rfl rfl rfl <| psC 4 [(63, undef), (64, vb true), (65, vb true), (66, undef)] <| WC_lskip rfl rfl rfl <| psC 2 [(69, undef), (70, undef)] <| WC_lskip rfl rfl rfl <| psC 2 [(72, undef), (73, undef)] <| WC_lskip rfl rfl rfl <| psC 1 [(75, undef)] <| WC_eskip rfl rfl rfl <| WC_eskip rfl rfl rfl <| psC 2 [(77, undef), (78, vb true)] <| WC_nil <| ⟨_, true, Agree.eq ⟨rfl, rfl, rfl, rfl, rfl, rfl, rfl, rfl, trivial⟩, hb_b2, h⟩
 refine psC 1 [(49, vp ⟨b2, 8, none⟩)] ?_
 refine lb1C tk3 hb_b2 <| psC 3 [(51, vb (decide (x1.Lot > 2000))), (52, vb (decide (x1.Lot > 2000))), (53, vb (decide (x1.Lot > 2000)))] ?_
 refine csC 53 h (fun h => ?_) fun h => ?_
 exact psC 1 [(54, undef)] <| WC_lskip rfl rfl rfl <| WC_eskip rfl rfl rfl <| psC 4 [(57, undef), (58, vb true), (59, vb true), (60, undef)] <| WC_lskip rfl rfl rfl <| WC_eskip rfl rfl rfl <| psC 4 [(63, undef), (64, vb true), (65, vb true), (66, undef)] <| WC_lskip rfl rfl rfl <| psC 2 [(69, undef), (70, undef)] <| WC_lskip rfl rfl rfl <| psC 2 [(72, undef), (73, undef)] <| WC_lskip rfl rfl rfl <| psC 1 [(75, undef)] <| WC_eskip rfl rfl rfl <| WC_eskip rfl rfl rfl <| psC 2 [(77, undef), (78, vb true)] <| WC_nil <| ⟨_, true, Agree.eq ⟨rfl, rfl, rfl, rfl, rfl, rfl, rfl, rfl, trivial⟩, hb_b2, h⟩
 refine psC 1 [(54, vp ⟨b2, 3, none⟩)] ?_
 refine lbnC [vu x1.From_Kind, vi x1.From_Id] tk40 hb_b2 ?_
 refine clC h ?_
 rintro _ w19 ⟨r2, rfl, hk0, h⟩
 replace hb_b2 := kp_at hk0 hb_b2
 refine ⟨AllOk.nil, ?_⟩
 refine psC 3 [(57, vb (!r2)), (58, vb (!r2)), (59, vb (!r2))] ?_
 refine csC 59 h (fun h => ?_) fun h => ?_
 exact psC 1 [(60, undef)] <| WC_lskip rfl rfl rfl <| WC_eskip rfl rfl rfl <| psC 4 [(63, undef), (64, vb true), (65, vb true), (66, undef)] <| WC_lskip rfl rfl rfl <| psC 2 [(69, undef), (70, undef)] <| WC_lskip rfl rfl rfl <| psC 2 [(72, undef), (73, undef)] <| WC_lskip rfl rfl rfl <| psC 1 [(75, undef)] <| WC_eskip rfl rfl rfl <| WC_eskip rfl rfl rfl <| psC 2 [(77, undef), (78, vb true)] <| WC_nil <| ⟨_, true, Agree.eq ⟨rfl, rfl, rfl, rfl, rfl, rfl, rfl, rfl, trivial⟩, hb_b2, h⟩
 refine psC 1 [(60, vp ⟨b2, 5, none⟩)] ?_
 refine lbnC [vu x1.To_Kind, vi x1.To_Id] tk40 hb_b2 ?_
 refine clC h ?_
 rintro _ w20 ⟨r3, rfl, hk0, h⟩
 replace hb_b2 := kp_at hk0 hb_b2
 refine ⟨AllOk.nil, ?_⟩
 refine psC 3 [(63, vb (!r3)), (64, vb (!r3)), (65, vb (!r3))] ?_
 refine csC 65 h (fun h => ?_) fun h => ?_
 exact psC 1 [(66, undef)] <| WC_lskip rfl rfl rfl <| psC 2 [(69, undef), (70, undef)] <| WC_lskip rfl rfl rfl <| psC 2 [(72, undef), (73, undef)] <| WC_lskip rfl rfl rfl <| psC 1 [(75, undef)] <| WC_eskip rfl rfl rfl <| WC_eskip rfl rfl rfl <| psC 2 [(77, undef), (78, vb true)] <| WC_nil <| ⟨_, true, Agree.eq ⟨rfl, rfl, rfl, rfl, rfl, rfl, rfl, rfl, trivial⟩, hb_b2, h⟩
 refine psC 1 [(66, vp ⟨b2, 7, none⟩)] ?_
 refine lb1C tk5 hb_b2 <| psC 2 [(69, vp ⟨b2, 3, none⟩), (70, vp ⟨b2, 3, none⟩)] ?_
 refine lb1C tk5 hb_b2 <| psC 2 [(72, vp ⟨b2, 5, none⟩), (73, vp ⟨b2, 5, none⟩)] ?_
 refine lb1C tk5 hb_b2 <| psC 1 [(75, vg [vu x1.From_Kind, vu x1.To_Kind])] ?_
 refine clC h ?_
 rintro _ w21 ⟨r4_a, r4_n, r4_c, rfl, hk0, h⟩
 replace hb_b2 := kp_at hk0 hb_b2
 refine ⟨AllOk.cons (Pend_ok (ex_load rfl rfl (run_loadVar1 tk5 (cell_blk hb_b2 rfl)))) <| AllOk.cons (Pend_ok (ex_load rfl rfl (run_loadVar1 tk5 (cell_blk hb_b2 rfl)))) <| AllOk.nil, ?_⟩
 refine clC h ?_
 rintro _ w22 ⟨r5, rfl, hk0, h⟩
 replace hb_b2 := kp_at hk0 hb_b2
 refine ⟨AllOk.nil, ?_⟩
 exact psC 2 [(77, vb (!r5)), (78, vb (!r5))] <| WC_nil <| ⟨_, (!r5), Agree.eq ⟨rfl, rfl, rfl, rfl, rfl, rfl, rfl, rfl, trivial⟩, hb_b2, h⟩
 clear h hb_b2
 rintro _ w5 ⟨e0, v2, rfl, hb_b2, h⟩
 unfold drawers_Audit.j1 at h
 refine ci h (fun h => ?_) fun h => ?_
 exact W_regseq <| ps 2 [(2, vl none 0 0), (3, vi 1)] <| WO_nil <| W_ret <| seqK_ret <| blockK_ret <| seqK_ret <| seqK_ret <| blockK_ret <| seqK_ret <| ret2 (v := vl none 0 0) (v' := vi 1) (t := 2) (u := 3) rfl rfl rfl ⟨_, _, _, _, rfl, h⟩
 refine W_skip <| W_seq <| W_join (fun e w6 => ∃ (e0 : Env) (v3 : Bool), e = upds e0 [(0, vl l_a l_n l_c), (4, .map (some b1)), (6, vp ⟨b2, 0, none⟩), (12, vl l_a l_n l_c), (13, vi (l_n : Nat)), (14, vi v1), (91, vb v3)] ∧ w6.heap[b2]? = some (.cells #[vi x1.Day, vs x1.Unit, vi x1.N, vu x1.From_Kind, vi x1.From_Id, vu x1.To_Kind, vi x1.To_Id, vu x1.Why, vi x1.Lot] 42 (0, 0)) ∧ drawers_Audit.j2 Q b1 v1 (drawers_Audit.l1 Q l_a l_n b1 nl1) x1 b2 v3 w6) ?_ ?_
 refine drw folM [[], [], [], [], [], [], [], [], [], [], [], [4, 10], [4, 10]] [.p 0, .p 1, .p 2, .p 3, .l 4, .p 5, .p 6, .p 7, .p 8, .p 9, .l 10, .p 11, .p 12] h ?_
 intro w16 ew h
 replace hb_b2 := dr_keep ew hb_b2
 refine psC 3 [(79, vi v1), (80, vb (decide (v1 > 0))), (81, vb (decide (v1 > 0)))] ?_
 refine csC 81 h (fun h => ?_) fun h => ?_
 refine psC 1 [(82, vp ⟨b2, 0, none⟩)] ?_
 refine lb1C tk3 hb_b2 <| psC 3 [(84, vl l_a l_n l_c), (85, vi v1), (86, vi (IntKind.wrap .i64 (v1 - 1)))] ?_
 refine ixC slk22 h fun p2 h => psC 1 [(88, vp (Addr.add p2 ((IntKind.wrap .i64 (v1 - 1)).toNat * 9)))] ?_
 obtain ⟨x9, hx9, h⟩ := h
 exact ld1C tk3 hx9 <| psC 2 [(90, vb (decide (x1.Day < x9))), (91, vb (decide (x1.Day < x9)))] <| WC_nil <| ⟨_, decide (x1.Day < x9), Agree.eq ⟨rfl, rfl, rfl, rfl, rfl, rfl, rfl, trivial⟩, hb_b2, h⟩
 exact psC 1 [(82, undef)] <| WC_lskip rfl rfl rfl <| psC 5 [(84, undef), (85, undef), (86, undef), (87, undef), (88, undef)] <| WC_lskip rfl rfl rfl <| psC 2 [(90, undef), (91, vb false)] <| WC_nil <| ⟨_, false, Agree.eq ⟨rfl, rfl, rfl, rfl, rfl, rfl, rfl, trivial⟩, hb_b2, h⟩
 clear h hb_b2
 rintro _ w6 ⟨e0, v3, rfl, hb_b2, h⟩
 unfold drawers_Audit.j2 at h
 refine ci h (fun h => ?_) fun h => ?_
 exact W_regseq <| ps 2 [(2, vl none 0 0), (3, vi 7)] <| WO_nil <| W_ret <| seqK_ret <| blockK_ret <| seqK_ret <| seqK_ret <| blockK_ret <| seqK_ret <| ret2 (v := vl none 0 0) (v' := vi 7) (t := 2) (u := 3) rfl rfl rfl ⟨_, _, _, _, rfl, h⟩
 refine W_skip <| W_regseq <| ps 1 [(92, vp ⟨b2, 3, none⟩)] <| lbn [vu x1.From_Kind, vi x1.From_Id] tk40 hb_b2 <| ps 1 [(94, vp ⟨b2, 1, none⟩)] <| lb1 tk9 hb_b2 <| ps 1 [(96, vg [vu x1.From_Kind, vi x1.From_Id, vs x1.Unit])] <| alp h ?_
 intro b3 w7 eb ew hb_b3 h
 have old_hb_b2 := hb_b2
 replace hb_b2 := al_keep ew hb_b2
 have ne_b2_b3 : b2 ≠ b3 := blk_ne old_hb_b2 eb
 clear old_hb_b2
 clear eb ew
 refine sb tk111 hb_b3 h ?_
 intro w8 ew hb_ h
 replace hb_b2 := sb_keep ew ne_b2_b3 hb_b2
 replace hb_b3 := hb_
 refine WO_nil <| drs folM [[], [], [1], [], [], [1, 2, 4], [1, 4], [1, 4], [1, 2, 4]] [.p 0, .l 1, .l 2, .p 3, .l 4, .p 5, .e 6, .p 7, .e 8] h ?_
 intro w9 ew h
 replace hb_b2 := dr_keep ew hb_b2
 replace hb_b3 := dr_keep ew hb_b3
 refine psC 1 [(97, .map (some b1))] ?_
 refine lbnC [vu x1.From_Kind, vi x1.From_Id, vs x1.Unit] tk111 hb_b3 ?_
 obtain ⟨x2, hlk1, h⟩ := h
 refine WC_l rfl rfl rfl (ex_lookup rfl rfl rfl hlk1) <| psC 1 [(100, vp ⟨b2, 2, none⟩)] ?_
 refine lb1C tk3 hb_b2 <| psC 1 [(102, vi (IntKind.wrap .i64 (x2 - x1.N)))] ?_
 obtain ⟨x3, x4, w10, hrun, hk0, hk1, hk2, h⟩ := h
 refine WC_ev rfl rfl rfl (ex_mapEntry rfl rfl rfl hrun) ?_
 replace hb_b2 := kp_at hk0 hb_b2
 replace hb_b3 := kp_at hk1 hb_b3
 replace hlk1 := hk2
 clear hrun
 refine ⟨AllOk.cons (Pend_ok (ex_lookup rfl rfl rfl hlk1)) <| AllOk.nil, ?_⟩
 refine psC 1 [(104, vi x4)] ?_
 obtain ⟨w11, hrun, hk0, hk1, h⟩ := h
 refine WC_eu rfl rfl rfl (ex_entryStore rfl rfl rfl rfl hrun) ?_
 replace hb_b2 := kp_at hk0 hb_b2
 replace hb_b3 := kp_at hk1 hb_b3
 clear hrun
 refine ⟨AllOk.nil, ?_⟩
 refine WC_nil <| W_seq <| W_join (fun e w12 => ∃ (e0 : Env) (v4 : Bool), e = upds e0 [(0, vl l_a l_n l_c), (4, .map (some b1)), (6, vp ⟨b2, 0, none⟩), (12, vl l_a l_n l_c), (13, vi (l_n : Nat)), (14, vi v1), (120, vb v4)] ∧ w12.heap[b2]? = some (.cells #[vi x1.Day, vs x1.Unit, vi x1.N, vu x1.From_Kind, vi x1.From_Id, vu x1.To_Kind, vi x1.To_Id, vu x1.Why, vi x1.Lot] 42 (0, 0)) ∧ drawers_Audit.j3 Q b1 v1 (drawers_Audit.l1 Q l_a l_n b1 nl1) x1 v4 w12) ?_ ?_
 refine W_reg <| ps 2 [(105, vp ⟨b2, 3, none⟩), (106, vp ⟨b2, 3, none⟩)] <| lb1 tk5 hb_b2 <| ps 2 [(108, vb (x1.From_Kind != 1)), (109, vb (x1.From_Kind != 1))] <| cs 109 h (fun h => ?_) fun h => ?_
 refine ps 2 [(110, vp ⟨b2, 3, none⟩), (111, vp ⟨b2, 3, none⟩)] <| lb1 tk5 hb_b2 <| ps 3 [(113, vb (x1.From_Kind != 6)), (114, vb (x1.From_Kind != 6)), (115, vb (x1.From_Kind != 6))] <| cs 115 h (fun h => ?_) fun h => ?_
 refine ps 1 [(116, .map (some b1))] <| lbn [vu x1.From_Kind, vi x1.From_Id, vs x1.Unit] tk111 hb_b3 ?_
 obtain ⟨x8, hlk3, h⟩ := h
 exact WO_val rfl rfl (ex_lookup rfl rfl rfl hlk3) <| ps 2 [(119, vb (decide (x8 < 0))), (120, vb (decide (x8 < 0)))] <| WO_nil <| ⟨_, decide (x8 < 0), Agree.eq ⟨rfl, rfl, rfl, rfl, rfl, rfl, rfl, trivial⟩, hb_b2, h⟩
 exact ps 5 [(116, undef), (117, undef), (118, undef), (119, undef), (120, vb false)] <| WO_nil <| ⟨_, false, Agree.eq ⟨rfl, rfl, rfl, rfl, rfl, rfl, rfl, trivial⟩, hb_b2, h⟩
 exact ps 11 [(110, undef), (111, undef), (112, undef), (113, undef), (114, vb false), (115, vb false), (116, undef), (117, undef), (118, undef), (119, undef), (120, vb false)] <| WO_nil <| ⟨_, false, Agree.eq ⟨rfl, rfl, rfl, rfl, rfl, rfl, rfl, trivial⟩, hb_b2, h⟩
 clear h hb_b2 hb_b3 ne_b2_b3
 rintro _ w12 ⟨e0, v4, rfl, hb_b2, h⟩
 unfold drawers_Audit.j3 at h
 refine ci h (fun h => ?_) fun h => ?_
 exact W_regseq <| ps 2 [(2, vl none 0 0), (3, vi 62)] <| WO_nil <| W_ret <| seqK_ret <| blockK_ret <| seqK_ret <| seqK_ret <| blockK_ret <| seqK_ret <| ret2 (v := vl none 0 0) (v' := vi 62) (t := 2) (u := 3) rfl rfl rfl ⟨_, _, _, _, rfl, h⟩
 refine W_skip <| drw folM [[], [], [], [], [], [2, 4], [2, 4], [], [], [2, 4, 6, 8], [2, 4, 8], [2, 4, 8], [2, 4, 6, 8]] [.p 0, .p 1, .l 2, .p 3, .l 4, .p 5, .l 6, .p 7, .l 8, .p 9, .e 10, .p 11, .e 12] h ?_
 intro w13 ew h
 replace hb_b2 := dr_keep ew hb_b2
 refine psC 2 [(121, .map (some b1)), (122, vp ⟨b2, 5, none⟩)] ?_
 refine lbnC [vu x1.To_Kind, vi x1.To_Id] tk40 hb_b2 <| psC 1 [(124, vp ⟨b2, 1, none⟩)] ?_
 refine lb1C tk9 hb_b2 <| psC 1 [(126, vg [vu x1.To_Kind, vi x1.To_Id, vs x1.Unit])] ?_
 obtain ⟨x5, hlk2, h⟩ := h
 refine WC_l rfl rfl rfl (ex_lookup rfl rfl rfl hlk2) <| psC 1 [(128, vp ⟨b2, 2, none⟩)] ?_
 refine lb1C tk3 hb_b2 <| psC 1 [(130, vi (IntKind.wrap .i64 (x5 + x1.N)))] ?_
 obtain ⟨x6, x7, w14, hrun, hk0, h⟩ := h
 refine WC_ev rfl rfl rfl (ex_mapEntry rfl rfl rfl hrun) ?_
 replace hlk2 := hk0
 clear hrun
 refine ⟨AllOk.cons (Pend_ok (ex_lookup rfl rfl rfl hlk2)) <| AllOk.nil, ?_⟩
 refine psC 1 [(132, vi x7)] ?_
 obtain ⟨w15, hrun, h⟩ := h
 refine WC_eu rfl rfl rfl (ex_entryStore rfl rfl rfl rfl hrun) ?_
 clear hrun
 refine ⟨AllOk.nil, ?_⟩
 exact WC_nil <| blockK_normal <| W_reg <| ps 2 [(133, vi (IntKind.wrap .i64 (v1 + 1))), (14, vi (IntKind.wrap .i64 (v1 + 1)))] <| WO_nil <| ⟨_, IntKind.wrap .i64 (v1 + 1), Agree.eq ⟨rfl, rfl, rfl, rfl, rfl, trivial⟩, h⟩
 refine W_exit <| blockK_hit <| W_regseq <| ps 1 [(134, .map (some b1))] <| cl h ?_
 rintro _ w23 ⟨r6_a, r6_n, r6_c, rfl, h⟩
 exact ps 2 [(2, vl r6_a r6_n r6_c), (3, vi 0)] <| WO_nil <| W_ret <| ret2 (v := vl r6_a r6_n r6_c) (v' := vi 0) (t := 2) (u := 3) rfl rfl rfl ⟨_, _, _, _, rfl, h⟩
def drawers_right.j2 (Q : Bool → World → Prop) (a : TAccount) (v2 : Bool) (w5 : World) : Prop := (
 Ifb v2
 (Q (a.Id == 0) w5)
 (Q false w5))
def drawers_right.j1 (Q : Bool → World → Prop) (a : TAccount) (v1 : Bool) (w2 : World) : Prop := (
 Ifb v1
 (Al w2 (.cells #[vi a.Id] 3) fun b2 w3 =>
 Cl Pg 87 #[vl (some ⟨b2, 0, none⟩) 1 1] w3 (fun v w4 => ∃ r1, v = vb r1 ∧ Q r1 w4))
 (Ifb (a.Kind == 1)
 (drawers_right.j2 Q a (a.Kind == 1) w2)
 (Ifb (a.Kind == 4)
 (drawers_right.j2 Q a (a.Kind == 4) w2)
 (Ifb (a.Kind == 5)
 (drawers_right.j2 Q a (a.Kind == 5) w2)
 (drawers_right.j2 Q a (a.Kind == 6) w2)))))
def drawers_right.R (Q : Bool → World → Prop) (a : TAccount) (w : World) : Prop := (
 Al w (.cells #[vu a.Kind, vi a.Id] 40) fun b1 w1 =>
 Ifb (a.Kind == 2)
 (drawers_right.j1 Q a (a.Kind == 2) w1)
 (Ifb (a.Kind == 3)
 (drawers_right.j1 Q a (a.Kind == 3) w1)
 (drawers_right.j1 Q a (a.Kind == 7) w1)))
theorem drawers_right.ok {Q : Bool → World → Prop} {a : TAccount} {w : World} (h : drawers_right.R Q a w) : Cl Pg 67 #[vg (TAccount.enc a)] w (fun v w' => ∃ r0, v = vb r0 ∧ Q r0 w') := by
 refine calls_args (args := [vg (TAccount.enc a)]) Tryz.func67 ?_
 unfold drawers_right.R at h
 refine W_regseq <| alp h ?_
 intro b1 w1 _ _ hb_b1 h
 refine ps 1 [(2, vb false)] <| WO_nil <| W_seq <| W_regseq <| ps 1 [(3, vp ⟨b1, 0, none⟩)] <| lb1 tk5 hb_b1 <| WO_nil <| W_block <| W_join (fun e w2 => ∃ (e0 : Env) (v1 : Bool), e = upds e0 [(1, vp ⟨b1, 0, none⟩), (4, vu a.Kind), (5, vb v1)] ∧ w2.heap[b1]? = some (.cells #[vu a.Kind, vi a.Id] 40 (0, 0)) ∧ drawers_right.j1 Q a v1 w2) ?_ ?_
 refine W_regseq <| ps 2 [(6, vb (a.Kind == 2)), (5, vb (a.Kind == 2))] <| WO_nil <| ci h (fun h => ?_) fun h => ?_
 exact W_skip <| ⟨_, (a.Kind == 2), Agree.eq ⟨rfl, rfl, rfl, trivial⟩, hb_b1, h⟩
 refine W_regseq <| ps 2 [(7, vb (a.Kind == 3)), (5, vb (a.Kind == 3))] <| WO_nil <| ci h (fun h => ?_) fun h => ?_
 exact W_skip <| ⟨_, (a.Kind == 3), Agree.eq ⟨rfl, rfl, rfl, trivial⟩, hb_b1, h⟩
 exact W_reg <| ps 2 [(8, vb (a.Kind == 7)), (5, vb (a.Kind == 7))] <| WO_nil <| ⟨_, (a.Kind == 7), Agree.eq ⟨rfl, rfl, rfl, trivial⟩, hb_b1, h⟩
 clear h hb_b1
 rintro _ w2 ⟨e0, v1, rfl, hb_b1, h⟩
 unfold drawers_right.j1 at h
 refine ci h (fun h => ?_) fun h => ?_
 refine W_regseq <| ps 1 [(9, vp ⟨b1, 1, none⟩)] <| lb1 tk3 hb_b1 <| als 1 h ?_
 intro b2 w3 _ _ _ h
 refine cl h ?_
 rintro _ w4 ⟨r1, rfl, h⟩
 exact ps 1 [(2, vb r1)] <| WO_nil <| W_ret <| blockK_ret <| seqK_ret <| ret1 (v := vb r1) (t := 2) rfl rfl ⟨_, rfl, h⟩
 refine W_join (fun e w5 => ∃ (e0 : Env) (v2 : Bool), e = upds e0 [(1, vp ⟨b1, 0, none⟩), (13, vb v2)] ∧ w5.heap[b1]? = some (.cells #[vu a.Kind, vi a.Id] 40 (0, 0)) ∧ drawers_right.j2 Q a v2 w5) ?_ ?_
 refine W_regseq <| ps 2 [(14, vb (a.Kind == 1)), (13, vb (a.Kind == 1))] <| WO_nil <| ci h (fun h => ?_) fun h => ?_
 exact W_skip <| ⟨_, (a.Kind == 1), Agree.eq ⟨rfl, rfl, trivial⟩, hb_b1, h⟩
 refine W_regseq <| ps 2 [(15, vb (a.Kind == 4)), (13, vb (a.Kind == 4))] <| WO_nil <| ci h (fun h => ?_) fun h => ?_
 exact W_skip <| ⟨_, (a.Kind == 4), Agree.eq ⟨rfl, rfl, trivial⟩, hb_b1, h⟩
 refine W_regseq <| ps 2 [(16, vb (a.Kind == 5)), (13, vb (a.Kind == 5))] <| WO_nil <| ci h (fun h => ?_) fun h => ?_
 exact W_skip <| ⟨_, (a.Kind == 5), Agree.eq ⟨rfl, rfl, trivial⟩, hb_b1, h⟩
 exact W_reg <| ps 2 [(17, vb (a.Kind == 6)), (13, vb (a.Kind == 6))] <| WO_nil <| ⟨_, (a.Kind == 6), Agree.eq ⟨rfl, rfl, trivial⟩, hb_b1, h⟩
 clear h hb_b1
 rintro _ w5 ⟨e0, v2, rfl, hb_b1, h⟩
 unfold drawers_right.j2 at h
 refine ci h (fun h => ?_) fun h => ?_
 exact W_regseq <| ps 1 [(18, vp ⟨b1, 1, none⟩)] <| lb1 tk3 hb_b1 <| ps 2 [(20, vb (a.Id == 0)), (2, vb (a.Id == 0))] <| WO_nil <| W_ret <| blockK_ret <| seqK_ret <| ret1 (v := vb (a.Id == 0)) (t := 2) rfl rfl ⟨_, rfl, h⟩
 exact W_skip <| blockK_normal <| W_regseq <| ps 1 [(2, vb false)] <| WO_nil <| W_ret <| ret1 (v := vb false) (t := 2) rfl rfl ⟨_, rfl, h⟩
def slices_Contains_uint8.R (Q : Bool → World → Prop) (s_a : Option Addr) (s_n : Nat) (s_c : Nat) (v : A2_2_uint8) (w : World) : Prop := (
 Al w (.cells #[vu v.x0, vu v.x1] 108) fun b1 w1 =>
 Cl Pg 125 #[vl s_a s_n s_c, vg [vu v.x0, vu v.x1]] w1 (fun v w2 => ∃ r1, v = vi r1 ∧ Q (decide (r1 ≥ 0)) w2))
theorem slices_Contains_uint8.ok {Q : Bool → World → Prop} {s_a : Option Addr} {s_n : Nat} {s_c : Nat} {v : A2_2_uint8} {w : World} (h : slices_Contains_uint8.R Q s_a s_n s_c v w) : Cl Pg 68 #[vl s_a s_n s_c, vg (A2_2_uint8.enc v)] w (fun v w' => ∃ r0, v = vb r0 ∧ Q r0 w') := by
 refine calls_args (args := [vl s_a s_n s_c, vg (A2_2_uint8.enc v)]) Tryz.func68 ?_
 unfold slices_Contains_uint8.R at h
 refine W_regseq <| alp h ?_
 intro b1 w1 _ _ hb_b1 h
 refine ps 1 [(4, vb false)] <| WO_nil <| W_regseq <| ps 1 [(5, vl s_a s_n s_c)] <| lbn [vu v.x0, vu v.x1] tk108 hb_b1 <| cl h ?_
 rintro _ w2 ⟨r1, rfl, h⟩
 exact ps 2 [(8, vb (decide (r1 ≥ 0))), (4, vb (decide (r1 ≥ 0)))] <| WO_nil <| W_ret <| ret1 (v := vb (decide (r1 ≥ 0))) (t := 4) rfl rfl ⟨_, rfl, h⟩
def drawers_ways.j1 (Q : Option Addr → Nat → Nat → World → Prop) (why : Int) (v1 : Bool) (w1 : World) : Prop := (
 Ifb v1
 (Al w1 (.cells #[vu 1, vu 2] 108) fun b1 w2 =>
 Q (some ⟨b1, 0, none⟩) 1 1 w2)
 (Ifb (why == 2)
 (Al w1 (.cells #[vu 2, vu 3] 108) fun b2 w3 =>
 Q (some ⟨b2, 0, none⟩) 1 1 w3)
 (Ifb (why == 3)
 (Al w1 (.cells #[vu 2, vu 4] 108) fun b3 w4 =>
 Q (some ⟨b3, 0, none⟩) 1 1 w4)
 (Ifb (why == 4)
 (Al w1 (.cells #[vu 4, vu 3] 108) fun b4 w5 =>
 Q (some ⟨b4, 0, none⟩) 1 1 w5)
 (Ifb (why == 5)
 (Al w1 (.cells #[vu 2, vu 6, vu 6, vu 2] 108) fun b5 w6 =>
 Q (some ⟨b5, 0, none⟩) 2 2 w6)
 (Ifb (why == 6)
 (Al w1 (.cells #[vu 2, vu 5] 108) fun b6 w7 =>
 Q (some ⟨b6, 0, none⟩) 1 1 w7)
 (Ifb (why == 7)
 (Al w1 (.cells #[vu 5, vu 2] 108) fun b7 w8 =>
 Q (some ⟨b7, 0, none⟩) 1 1 w8)
 (Ifb (why == 8)
 (Al w1 (.cells #[vu 2, vu 7] 108) fun b8 w9 =>
 Q (some ⟨b8, 0, none⟩) 1 1 w9)
 (Ifb (why == 9)
 (Al w1 (.cells #[vu 7, vu 1] 108) fun b9 w10 =>
 Q (some ⟨b9, 0, none⟩) 1 1 w10)
 (Q none 0 0 w1))))))))))
def drawers_ways.R (Q : Option Addr → Nat → Nat → World → Prop) (why : Int) (w : World) : Prop := (
 Ifb (why == 1)
 (drawers_ways.j1 Q why (why == 1) w)
 (drawers_ways.j1 Q why (why == 10) w))
theorem drawers_ways.ok {Q : Option Addr → Nat → Nat → World → Prop} {why : Int} {w : World} (h : drawers_ways.R Q why w) : Cl Pg 69 #[vu why] w (fun v w' => ∃ r0a r0n r0c, v = vl r0a r0n r0c ∧ Q r0a r0n r0c w') := by
 refine calls_args (args := [vu why]) Tryz.func69 ?_
 unfold drawers_ways.R at h
 refine W_regseq <| ps 1 [(2, vl none 0 0)] <| WO_nil <| W_seq <| W_regseq <| ps 1 [(3, vu why)] <| WO_nil <| W_block <| W_join (fun e w1 => ∃ (e0 : Env) (v1 : Bool), e = upds e0 [(3, vu why), (4, vb v1)] ∧ drawers_ways.j1 Q why v1 w1) ?_ ?_
 refine W_regseq <| ps 2 [(5, vb (why == 1)), (4, vb (why == 1))] <| WO_nil <| ci h (fun h => ?_) fun h => ?_
 exact W_skip <| ⟨_, (why == 1), Agree.eq ⟨rfl, rfl, trivial⟩, h⟩
 exact W_reg <| ps 2 [(6, vb (why == 10)), (4, vb (why == 10))] <| WO_nil <| ⟨_, (why == 10), Agree.eq ⟨rfl, rfl, trivial⟩, h⟩
 clear h
 rintro _ w1 ⟨e0, v1, rfl, h⟩
 unfold drawers_ways.j1 at h
 refine ci h (fun h => ?_) fun h => ?_
 refine W_regseq <| ps 1 [(7, vg [vu 1, vu 2])] <| als 1 h ?_
 intro b1 w2 _ _ _ h
 exact ps 1 [(2, vl (some ⟨b1, 0, none⟩) 1 1)] <| WO_nil <| W_ret <| blockK_ret <| seqK_ret <| ret1 (v := vl (some ⟨b1, 0, none⟩) 1 1) (t := 2) rfl rfl ⟨_, _, _, rfl, h⟩
 refine W_regseq <| ps 2 [(10, vb (why == 2)), (9, vb (why == 2))] <| WO_nil <| ci h (fun h => ?_) fun h => ?_
 refine W_regseq <| ps 1 [(11, vg [vu 2, vu 3])] <| als 1 h ?_
 intro b2 w3 _ _ _ h
 exact ps 1 [(2, vl (some ⟨b2, 0, none⟩) 1 1)] <| WO_nil <| W_ret <| blockK_ret <| seqK_ret <| ret1 (v := vl (some ⟨b2, 0, none⟩) 1 1) (t := 2) rfl rfl ⟨_, _, _, rfl, h⟩
 refine W_regseq <| ps 2 [(14, vb (why == 3)), (13, vb (why == 3))] <| WO_nil <| ci h (fun h => ?_) fun h => ?_
 refine W_regseq <| ps 1 [(15, vg [vu 2, vu 4])] <| als 1 h ?_
 intro b3 w4 _ _ _ h
 exact ps 1 [(2, vl (some ⟨b3, 0, none⟩) 1 1)] <| WO_nil <| W_ret <| blockK_ret <| seqK_ret <| ret1 (v := vl (some ⟨b3, 0, none⟩) 1 1) (t := 2) rfl rfl ⟨_, _, _, rfl, h⟩
 refine W_regseq <| ps 2 [(18, vb (why == 4)), (17, vb (why == 4))] <| WO_nil <| ci h (fun h => ?_) fun h => ?_
 refine W_regseq <| ps 1 [(19, vg [vu 4, vu 3])] <| als 1 h ?_
 intro b4 w5 _ _ _ h
 exact ps 1 [(2, vl (some ⟨b4, 0, none⟩) 1 1)] <| WO_nil <| W_ret <| blockK_ret <| seqK_ret <| ret1 (v := vl (some ⟨b4, 0, none⟩) 1 1) (t := 2) rfl rfl ⟨_, _, _, rfl, h⟩
 refine W_regseq <| ps 2 [(22, vb (why == 5)), (21, vb (why == 5))] <| WO_nil <| ci h (fun h => ?_) fun h => ?_
 refine W_regseq <| ps 2 [(23, vg [vu 2, vu 6]), (24, vg [vu 6, vu 2])] <| als 2 h ?_
 intro b5 w6 _ _ _ h
 exact ps 1 [(2, vl (some ⟨b5, 0, none⟩) 2 2)] <| WO_nil <| W_ret <| blockK_ret <| seqK_ret <| ret1 (v := vl (some ⟨b5, 0, none⟩) 2 2) (t := 2) rfl rfl ⟨_, _, _, rfl, h⟩
 refine W_regseq <| ps 2 [(27, vb (why == 6)), (26, vb (why == 6))] <| WO_nil <| ci h (fun h => ?_) fun h => ?_
 refine W_regseq <| ps 1 [(28, vg [vu 2, vu 5])] <| als 1 h ?_
 intro b6 w7 _ _ _ h
 exact ps 1 [(2, vl (some ⟨b6, 0, none⟩) 1 1)] <| WO_nil <| W_ret <| blockK_ret <| seqK_ret <| ret1 (v := vl (some ⟨b6, 0, none⟩) 1 1) (t := 2) rfl rfl ⟨_, _, _, rfl, h⟩
 refine W_regseq <| ps 2 [(31, vb (why == 7)), (30, vb (why == 7))] <| WO_nil <| ci h (fun h => ?_) fun h => ?_
 refine W_regseq <| ps 1 [(32, vg [vu 5, vu 2])] <| als 1 h ?_
 intro b7 w8 _ _ _ h
 exact ps 1 [(2, vl (some ⟨b7, 0, none⟩) 1 1)] <| WO_nil <| W_ret <| blockK_ret <| seqK_ret <| ret1 (v := vl (some ⟨b7, 0, none⟩) 1 1) (t := 2) rfl rfl ⟨_, _, _, rfl, h⟩
 refine W_regseq <| ps 2 [(35, vb (why == 8)), (34, vb (why == 8))] <| WO_nil <| ci h (fun h => ?_) fun h => ?_
 refine W_regseq <| ps 1 [(36, vg [vu 2, vu 7])] <| als 1 h ?_
 intro b8 w9 _ _ _ h
 exact ps 1 [(2, vl (some ⟨b8, 0, none⟩) 1 1)] <| WO_nil <| W_ret <| blockK_ret <| seqK_ret <| ret1 (v := vl (some ⟨b8, 0, none⟩) 1 1) (t := 2) rfl rfl ⟨_, _, _, rfl, h⟩
 refine W_regseq <| ps 2 [(39, vb (why == 9)), (38, vb (why == 9))] <| WO_nil <| ci h (fun h => ?_) fun h => ?_
 refine W_regseq <| ps 1 [(40, vg [vu 7, vu 1])] <| als 1 h ?_
 intro b9 w10 _ _ _ h
 exact ps 1 [(2, vl (some ⟨b9, 0, none⟩) 1 1)] <| WO_nil <| W_ret <| blockK_ret <| seqK_ret <| ret1 (v := vl (some ⟨b9, 0, none⟩) 1 1) (t := 2) rfl rfl ⟨_, _, _, rfl, h⟩
 exact W_skip <| blockK_normal <| W_regseq <| ps 1 [(2, vl none 0 0)] <| WO_nil <| W_ret <| ret1 (v := vl none 0 0) (t := 2) rfl rfl ⟨_, _, _, rfl, h⟩
end Go.Proofs.YtcbijkakoepglaaGreat
namespace Go.Proofs.YtcbijkakoepglaaGreat
open Go Go.Wx
theorem eqI108 {d : Nat} {w : World} {a0 a1 b0 b1 : Int} : (Op.equalIn (d + 2) 108 (.agg (List.toArray [vu a0, vu a1])) (.agg (List.toArray [vu b0, vu b1]))).run Pg w = .ok ((a0 == b0) && ((a1 == b1) && true)) w := by
  have h0 : ∀ a b, (Op.equalIn (d + 1) 5 (vu a) (vu b)).run Pg w = .ok (a == b) w := fun a b => run_equalIn_int w d 5 .u8 .u8 _ _ (by kernel_rfl)
  have hp : ∀ x y, (part 5 (List.toArray [vu x, vu y]) 0).run Pg w = .ok (vu x) w := fun x y => by kernel_rfl
  have hq : ∀ x y, (part 5 (List.toArray [vu x, vu y]) 1).run Pg w = .ok (vu y) w := fun x y => by kernel_rfl
  rw [Op.equalIn]
  simp only [run_bind, run_underlying (show Pg.underlying 108 = some (.array 2 5) by kernel_rfl), (tyk_run (w := w) tk5).2]
  simp only [Std.Legacy.Range.forIn_eq_forIn_range', Std.Legacy.Range.size, List.range'_succ, List.range'_zero, List.forIn_cons, List.forIn_nil, run_bind, Nat.zero_mul, Nat.one_mul, Nat.zero_add, hp, hq, h0, run_pure]
  cases h1 : a0 == b0 <;> cases h2 : a1 == b1 <;> simp [run_bind, run_pure, h0, hp, hq, h1, h2]
end Go.Proofs.YtcbijkakoepglaaGreat
namespace Go.Proofs.YtcbijkakoepglaaGreat
open Go Go.Wx
set_option maxRecDepth 100000
def slices_Index_uint8.l1 (Q : Int → World → Prop) (s_a : Option Addr) (s_n : Nat) (v : A2_2_uint8) : Nat → Int → World → Prop
 | 0, _, _ => False
 | nl1 + 1, v1, w2 => (
 Ifb (decide (v1 < ((s_n : Nat) : Int)))
 (Dr w2 fun w3 =>
 Ix s_a s_n v1 fun p1 =>
 LdT A2_2_uint8.enc w3 (Addr.add p1 (v1.toNat * 2)) fun x1 =>
 Ifb ((v.x0 == x1.x0) && ((v.x1 == x1.x1) && true))
 (Q v1 w3)
 ((slices_Index_uint8.l1 Q s_a s_n v nl1) (IntKind.wrap .i64 (v1 + 1)) w3))
 (Q (-1) w2))
def slices_Index_uint8.R (Q : Int → World → Prop) (s_a : Option Addr) (s_n : Nat) (s_c : Nat) (v : A2_2_uint8) (w : World) : Prop := (
 Al w (.cells #[vu v.x0, vu v.x1] 108) fun b1 w1 =>
 ∃ k, slices_Index_uint8.l1 Q s_a s_n v k 0 w1)
theorem slices_Index_uint8.ok {Q : Int → World → Prop} {s_a : Option Addr} {s_n : Nat} {s_c : Nat} {v : A2_2_uint8} {w : World} (h : slices_Index_uint8.R Q s_a s_n s_c v w) : Cl Pg 125 #[vl s_a s_n s_c, vg (A2_2_uint8.enc v)] w (fun v w' => ∃ r0, v = vi r0 ∧ Q r0 w') := by
 refine calls_args (args := [vl s_a s_n s_c, vg (A2_2_uint8.enc v)]) Tryz.func125 ?_
 unfold slices_Index_uint8.R at h
 refine W_regseq <| alp h ?_
 intro b1 w1 _ _ hb_b1 h
 refine ps 1 [(4, vi 0)] <| WO_nil <| W_seq <| W_regseq <| ps 3 [(6, vl s_a s_n s_c), (7, vi (s_n : Nat)), (8, vi 0)] <| WO_nil <| W_block ?_
 obtain ⟨nl1, h⟩ := h
 refine W_loopI (fun k e w2 => ∃ (e0 : Env) (v1 : Int), e = upds e0 [(0, vl s_a s_n s_c), (3, vp ⟨b1, 0, none⟩), (7, vi (s_n : Nat)), (8, vi v1)] ∧ w2.heap[b1]? = some (.cells #[vu v.x0, vu v.x1] 108 (0, 0)) ∧ slices_Index_uint8.l1 Q s_a s_n v k v1 w2) nl1 ?_ ?_ ?_
 rintro _ _ ⟨_, _, _, _, h⟩
 exact h
 exact ⟨_, 0, Agree.eq ⟨rfl, rfl, rfl, rfl, trivial⟩, hb_b1, h⟩
 clear h nl1 hb_b1
 rintro nl1 _ w2 ⟨e0, v1, rfl, hb_b1, h⟩
 unfold slices_Index_uint8.l1 at h
 refine W_regseq <| ps 1 [(9, vb (decide (v1 < ((s_n : Nat) : Int))))] <| WO_nil <| W_seq <| ci h (fun h => ?_) fun h => ?_
 refine W_skip <| W_seq <| W_block <| W_regseq <| ps 2 [(10, vi v1), (5, vi v1)] <| WO_nil <| drs folM [[], [], [], [], [], [0, 4]] [.l 0, .p 1, .p 2, .p 3, .l 4, .p 5] h ?_
 intro w3 ew h
 replace hb_b1 := dr_keep ew hb_b1
 refine lbnC [vu v.x0, vu v.x1] tk108 hb_b1 <| psC 2 [(12, vl s_a s_n s_c), (13, vi v1)] <| ixC slk107 h fun p1 h => ?_
 obtain ⟨x1, hx1, h⟩ := h
 refine ldnC tk108 hx1 <| WC_pw rfl rfl rfl (v := vb ((v.x0 == x1.x0) && ((v.x1 == x1.x1) && true))) (ex_eqlst (by kernel_rfl) (fun w => eqI108 (d := 9998)) rfl rfl rfl) <| WC_nil <| ci h (fun h => ?_) fun h => ?_
 exact W_regseq <| ps 2 [(17, vi v1), (4, vi v1)] <| WO_nil <| W_ret <| blockK_ret <| seqK_ret <| seqK_ret <| blockK_ret <| seqK_ret <| ret1 (v := vi v1) (t := 4) rfl rfl ⟨_, rfl, h⟩
 exact W_skip <| blockK_normal <| W_reg <| ps 2 [(18, vi (IntKind.wrap .i64 (v1 + 1))), (8, vi (IntKind.wrap .i64 (v1 + 1)))] <| WO_nil <| ⟨_, IntKind.wrap .i64 (v1 + 1), Agree.eq ⟨rfl, rfl, rfl, rfl, trivial⟩, hb_b1, h⟩
 exact W_exit <| blockK_hit <| W_regseq <| ps 1 [(4, vi (-1))] <| WO_nil <| W_ret <| ret1 (v := vi (-1)) (t := 4) rfl rfl ⟨_, rfl, h⟩
end Go.Proofs.YtcbijkakoepglaaGreat
namespace Go.Proofs.YtcbijkakoepglaaGreat
open Go Go.Wx

/-! ### the plain side -/
def rightA (k i : Int) : Bool := if k = 2 ∨ k = 3 ∨ k = 7 then isId i else if k = 1 ∨ k = 4 ∨ k = 5 ∨ k = 6 then i == 0 else false
def waysL (why : Int) : List A2_2_uint8 :=
  if why = 1 ∨ why = 10 then [⟨1, 2⟩] else if why = 2 then [⟨2, 3⟩] else if why = 3 then [⟨2, 4⟩] else if why = 4 then [⟨4, 3⟩] else if why = 5 then [⟨2, 6⟩, ⟨6, 2⟩] else if why = 6 then [⟨2, 5⟩] else if why = 7 then [⟨5, 2⟩] else
    if why = 8 then [⟨2, 7⟩] else if why = 9 then [⟨7, 1⟩] else []
def wayOk (why k k2 : Int) : Bool := (waysL why).any fun x => (k == x.x0) && ((k2 == x.x1) && true)
def fineP (p : TPosting) : Bool := decide (0 ≤ p.Day ∧ p.Day ≤ 100000) && named p.Unit && decide (1 ≤ p.N ∧ p.N ≤ 1000000000) && decide (1 ≤ p.Lot ∧ p.Lot ≤ 2000) && rightA p.From_Kind p.From_Id && rightA p.To_Kind p.To_Id && wayOk p.Why p.From_Kind p.To_Kind
def lateP : Option Int → TPosting → Bool
  | some d, p => decide (p.Day < d)
  | none, _ => false
def auditOn : List (Tplace × Int) → Option Int → List TPosting → Int × List (Tplace × Int)
  | m, _, [] => (0, m)
  | m, q, p :: ps => if !fineP p then (1, m) else if lateP q p then (7, m) else
      if p.From_Kind ≠ 1 ∧ p.From_Kind ≠ 6 ∧ getM (subM m (pFrom p) p.N) (pFrom p) < 0 then (62, m) else auditOn (addM (subM m (pFrom p) p.N) (pTo p) p.N) (some p.Day) ps
def auditM (l : List TPosting) : Int × List TTrialLine :=
  if 20000 < l.length then (2, []) else if (auditOn [] none l).1 ≠ 0 then ((auditOn [] none l).1, []) else (0, linesM (auditOn [] none l).2)

theorem auditOn_len : ∀ (l : List TPosting) (m : List (Tplace × Int)) (q : Option Int), (auditOn m q l).2.length ≤ m.length + 2 * l.length
  | [], m, q => by simp [auditOn]
  | p :: l, m, q => by
    unfold auditOn
    split
    · simp
    split
    · simp
    split
    · simp
    have h := auditOn_len l (addM (subM m (pFrom p) p.N) (pTo p) p.N) (some p.Day)
    have h1 := putM_len (pTo p) (wr (getM (subM m (pFrom p) p.N) (pTo p) + p.N)) (subM m (pFrom p) p.N)
    have h2 := putM_len (pFrom p) (wr (getM m (pFrom p) - p.N)) m
    simp only [addM, subM, List.length_cons] at h h1 h2 ⊢
    omega

/-! ### the contracts -/
theorem right_c {w : World} {a : TAccount} {Q : Bool → World → Prop} (hQ : ∀ w', Ext w w' → Q (rightA a.Kind a.Id) w') : Cl Pg 67 #[vg [vu a.Kind, vi a.Id]] w (fun v w' => ∃ r, v = vb r ∧ Q r w') := by
  refine drawers_right.ok (al_f (er w) fun b1 w1 _ _ E _ _ => ?_)
  have ids : (a.Kind = 2 ∨ a.Kind = 3 ∨ a.Kind = 7) → drawers_right.j1 Q a true w1 := fun h => by
    unfold drawers_right.j1
    refine ifb_t (al_f E fun b2 w2 _ h2 E _ _ => id_c (rd_ints [a.Id] h2) (by simp [maxLen]) fun w3 E3 => ?_)
    have := hQ w3 (E.ext E3)
    unfold rightA at this
    rw [if_pos h] at this
    simpa using this
  have nul : ¬ (a.Kind = 2 ∨ a.Kind = 3 ∨ a.Kind = 7) → (a.Kind = 1 ∨ a.Kind = 4 ∨ a.Kind = 5 ∨ a.Kind = 6) → drawers_right.j2 Q a true w1 := fun h1 h2 => by
    unfold drawers_right.j2
    have := hQ w1 E
    unfold rightA at this
    rw [if_neg h1, if_pos h2] at this
    exact ifb_t this
  have rest : ¬ (a.Kind = 2 ∨ a.Kind = 3 ∨ a.Kind = 7) → drawers_right.j1 Q a false w1 := fun h => by
    unfold drawers_right.j1
    refine ifb_f (ifb ?_)
    split
    · rename_i e; rw [e]; exact nul h (.inl (by simpa using e))
    rename_i c1
    refine ifb ?_
    split
    · rename_i e; rw [e]; exact nul h (.inr (.inl (by simpa using e)))
    rename_i c4
    refine ifb ?_
    split
    · rename_i e; rw [e]; exact nul h (.inr (.inr (.inl (by simpa using e))))
    rename_i c5
    cases c6 : a.Kind == 6 with
    | true => exact nul h (.inr (.inr (.inr (by simpa using c6))))
    | false =>
      unfold drawers_right.j2
      have := hQ w1 E
      unfold rightA at this
      rw [if_neg h, if_neg (by simp at c1 c4 c5 c6; omega)] at this
      exact ifb_f this
  refine ifb ?_
  split
  · rename_i e; rw [e]; exact ids (.inl (by simpa using e))
  rename_i c2
  refine ifb ?_
  split
  · rename_i e; rw [e]; exact ids (.inr (.inl (by simpa using e)))
  rename_i c3
  cases c7 : a.Kind == 7 with
  | true => exact ids (.inr (.inr (by simpa using c7)))
  | false => exact rest (by simp at c2 c3 c7; omega)

theorem rd_blk {α : Type} {enc : α → List Value} {sz : Nat} (he : ∀ x, (enc x).length = sz) {w : World} {b : Nat} {c : Array Value} {T : TypeId} {fr : Nat × Nat} (xs : List α) (h : At w b (.cells c T fr)) (hc : c = (xs.flatMap enc).toArray) : Rd enc sz w (some ⟨b, 0, none⟩) xs.length xs := by
  subst hc
  refine ⟨rfl, fun h => (by cases h), fun a0 ha i x hx => ?_⟩
  cases ha
  rw [Addr_add_none]
  refine Cells.of_at h ?_
  rw [he, Nat.zero_add]
  exact flat_get he xs i x hx

theorem ways_c {w : World} {why : Int} {Q : Option Addr → Nat → Nat → World → Prop} (hQ : ∀ a n c w', Rd A2_2_uint8.enc 2 w' a n (waysL why) → n ≤ 2 → Ext w w' → Q a n c w') : Cl Pg 69 #[vu why] w (fun v w' => ∃ a n c, v = vl a n c ∧ Q a n c w') := by
  have he : ∀ x : A2_2_uint8, x.enc.length = 2 := fun _ => rfl
  refine drawers_ways.ok ?_
  have one : (why = 1 ∨ why = 10) → drawers_ways.j1 Q why true w := fun h => by
    unfold drawers_ways.j1
    refine ifb_t (al fun b w' _ hat E => hQ _ _ _ _ ?_ (by omega) E)
    have : waysL why = [⟨1, 2⟩] := by unfold waysL; rw [if_pos h]
    rw [this]
    exact rd_blk he [⟨1, 2⟩] hat rfl
  have rest : ¬ (why = 1 ∨ why = 10) → drawers_ways.j1 Q why false w := fun h => by
    unfold drawers_ways.j1
    have hw : waysL why = if why = 2 then [⟨2, 3⟩] else if why = 3 then [⟨2, 4⟩] else if why = 4 then [⟨4, 3⟩] else if why = 5 then [⟨2, 6⟩, ⟨6, 2⟩] else if why = 6 then [⟨2, 5⟩] else if why = 7 then [⟨5, 2⟩] else if why = 8 then [⟨2, 7⟩] else if why = 9 then [⟨7, 1⟩] else [] := by unfold waysL; rw [if_neg h]
    refine ifb_f (ifb ?_)
    split
    · rename_i e; have e : why = 2 := by simpa using e
      refine al fun b w' _ hat E => hQ _ _ _ _ ?_ (by omega) E
      rw [hw, if_pos e]; exact rd_blk he [⟨2, 3⟩] hat rfl
    rename_i c2; have c2 : ¬ why = 2 := by simpa using c2
    rw [if_neg c2] at hw
    refine ifb ?_
    split
    · rename_i e; have e : why = 3 := by simpa using e
      refine al fun b w' _ hat E => hQ _ _ _ _ ?_ (by omega) E
      rw [hw, if_pos e]; exact rd_blk he [⟨2, 4⟩] hat rfl
    rename_i c3; have c3 : ¬ why = 3 := by simpa using c3
    rw [if_neg c3] at hw
    refine ifb ?_
    split
    · rename_i e; have e : why = 4 := by simpa using e
      refine al fun b w' _ hat E => hQ _ _ _ _ ?_ (by omega) E
      rw [hw, if_pos e]; exact rd_blk he [⟨4, 3⟩] hat rfl
    rename_i c4; have c4 : ¬ why = 4 := by simpa using c4
    rw [if_neg c4] at hw
    refine ifb ?_
    split
    · rename_i e; have e : why = 5 := by simpa using e
      refine al fun b w' _ hat E => hQ _ _ _ _ ?_ (by omega) E
      rw [hw, if_pos e]; exact rd_blk he [⟨2, 6⟩, ⟨6, 2⟩] hat rfl
    rename_i c5; have c5 : ¬ why = 5 := by simpa using c5
    rw [if_neg c5] at hw
    refine ifb ?_
    split
    · rename_i e; have e : why = 6 := by simpa using e
      refine al fun b w' _ hat E => hQ _ _ _ _ ?_ (by omega) E
      rw [hw, if_pos e]; exact rd_blk he [⟨2, 5⟩] hat rfl
    rename_i c6; have c6 : ¬ why = 6 := by simpa using c6
    rw [if_neg c6] at hw
    refine ifb ?_
    split
    · rename_i e; have e : why = 7 := by simpa using e
      refine al fun b w' _ hat E => hQ _ _ _ _ ?_ (by omega) E
      rw [hw, if_pos e]; exact rd_blk he [⟨5, 2⟩] hat rfl
    rename_i c7; have c7 : ¬ why = 7 := by simpa using c7
    rw [if_neg c7] at hw
    refine ifb ?_
    split
    · rename_i e; have e : why = 8 := by simpa using e
      refine al fun b w' _ hat E => hQ _ _ _ _ ?_ (by omega) E
      rw [hw, if_pos e]; exact rd_blk he [⟨2, 7⟩] hat rfl
    rename_i c8; have c8 : ¬ why = 8 := by simpa using c8
    rw [if_neg c8] at hw
    refine ifb ?_
    split
    · rename_i e; have e : why = 9 := by simpa using e
      refine al fun b w' _ hat E => hQ _ _ _ _ ?_ (by omega) E
      rw [hw, if_pos e]; exact rd_blk he [⟨7, 1⟩] hat rfl
    rename_i c9; have c9 : ¬ why = 9 := by simpa using c9
    rw [if_neg c9] at hw
    refine hQ _ _ _ _ ?_ (by omega) (er w)
    rw [hw]; exact Rd.nil
  refine ifb ?_
  split
  · rename_i e; rw [e]; exact one (.inl (by simpa using e))
  rename_i c1
  cases c10 : why == 10 with
  | true => exact one (.inr (by simpa using c10))
  | false => exact rest (by simp at c1 c10; omega)

theorem contains_c {w : World} {a : Option Addr} {n c : Nat} {xs : List A2_2_uint8} (hr : Rd A2_2_uint8.enc 2 w a n xs) (hn : n ≤ 2) {v : A2_2_uint8} {Q : Bool → World → Prop} (hQ : ∀ w', Ext w w' → Q (xs.any fun x => (v.x0 == x.x0) && ((v.x1 == x.x1) && true)) w') :
    Cl Pg 68 #[vl a n c, vg [vu v.x0, vu v.x1]] w (fun u w' => ∃ r, u = vb r ∧ Q r w') := by
  refine slices_Contains_uint8.ok (al_f (er w) fun b1 w1 _ _ E _ _ => slices_Index_uint8.ok (al_f E fun b2 w2 _ _ E _ _ => ⟨n + 1, ?_⟩))
  have key : ∀ m i w', i + m = n → Ext w w' → (∀ w', Ext w w' → Q ((xs.drop i).any fun x => (v.x0 == x.x0) && ((v.x1 == x.x1) && true)) w') → slices_Index_uint8.l1 (fun r1 w2 => Q (decide (r1 ≥ (0 : Int))) w2) a n v (m + 1) (i : Nat) w' := by
    intro m
    induction m with
    | zero =>
      intro i w' hi E hQ
      unfold slices_Index_uint8.l1
      rw [List.drop_of_length_le (by have := hr.1; omega)] at hQ
      exact ifb_df (by omega) (by simpa using hQ w' E)
    | succ m ih =>
      intro i w' hi E hQ
      unfold slices_Index_uint8.l1
      refine ifb_dt (by omega) (dr_f E fun w3 E3 _ => (hr.ext E3).ix (by omega) (by omega) fun a0 x ha hx hc => ⟨x, hc, ifb ?_⟩)
      simp only [Int.toNat_natCast] at hx
      obtain ⟨hl, hx'⟩ := List.getElem?_eq_some_iff.1 hx
      rw [List.drop_eq_getElem_cons hl, hx'] at hQ
      simp only [List.any_cons] at hQ
      split
      · rename_i h
        have := hQ w3 E3
        rw [h] at this
        simpa using this
      · rename_i h
        rw [wrap_succ (n := n) (by omega) (by omega) (by simp only [maxLen]; omega)]
        exact ih (i + 1) w3 (by omega) E3 fun w' E' => by
          have := hQ w' E'
          rw [show ((v.x0 == x.x0) && ((v.x1 == x.x1) && true)) = false by simpa using h, Bool.false_or] at this
          exact this
  exact key n 0 w2 (by omega) E (by simpa using hQ)

theorem audit_c {w : World} {a : Option Addr} {n c : Nat} {ps : List TPosting} (hr : Rd TPosting.enc 9 w a n ps) {Q : Option Addr → Nat → Nat → Int → World → Prop}
    (hQ : ∀ a2 n2 c2 w', Own 49 4 TTrialLine.enc w' a2 n2 c2 (auditM ps).2 → (∀ k, obk a2 c2 = some k → w.heap.size ≤ k) → Ext w w' → Q a2 n2 c2 (auditM ps).1 w') : Cl Pg 19 #[vl a n c] w (fun v w' => ∃ a2 n2 c2 r, v = .tuple #[vl a2 n2 c2, vi r] ∧ Q a2 n2 c2 r w') := by
  have hl := hr.1
  refine drawers_Audit.ok (ifb ?_)
  split
  · rename_i hlong
    have hQ := hQ none 0 0 w
    unfold auditM at hQ
    rw [if_pos (by have := of_decide_eq_true hlong; omega)] at hQ
    exact hQ Own.nil (fun _ h => by cases h) (er w)
  rename_i hlong
  have hlong : n ≤ 20000 := by simp at hlong; omega
  refine al_f (er w) fun b1 w1 hb1 hat E _ _ => ⟨n + 1, ?_⟩
  have bad : ∀ {r : Int} {w'}, r ≠ 0 → (auditOn [] none ps).1 = r → Ext w w' → Q none 0 0 r w' := fun {r w'} h0 e E' => by
    have hQ := hQ none 0 0 w'
    unfold auditM at hQ
    rw [if_neg (by omega), if_pos (by rw [e]; exact h0)] at hQ
    rw [e] at hQ
    exact hQ Own.nil (fun _ h => by cases h) E'
  have key : ∀ m i w' M q, i + m = n → Ext w w' → MapIs encPlace w' b1 M → (q = if i = 0 then none else (ps[i - 1]?).map (·.Day)) → auditOn M q (ps.drop i) = auditOn [] none ps → drawers_Audit.l1 Q a n b1 (m + 1) (i : Nat) w' := by
    intro m
    induction m with
    | zero =>
      intro i w' M q hi E' hM hq hb
      unfold drawers_Audit.l1
      rw [List.drop_of_length_le (by omega)] at hb
      simp only [auditOn] at hb
      refine ifb_df (by omega) (lines_c hM ?_ fun a2 n2 c2 w2 ho hk E2 => ?_)
      · have := auditOn_len ps [] none
        rw [← hb] at this
        simp only [List.length_nil] at this
        omega
      · have hQ := hQ a2 n2 c2 w2
        unfold auditM at hQ
        rw [if_neg (by omega), ← hb, if_neg (by simp)] at hQ
        exact hQ ho (fun k h => Nat.le_trans E'.size (hk k h)) (Ext.trans E' E2)
    | succ m ih =>
      intro i w' M q hi E' hM hq hb
      unfold drawers_Audit.l1
      refine ifb_dt (by omega) ((hr.ext E').ix (by omega) (by omega) fun a0 x ha hx hc => ⟨x, hc, al_f E' fun b2 w3 hb2 hat2 E3 e3 _ => sb_f E3 hat2 hb2 fun w4 hat4 E4 f4 => dr_f E4 fun w5 E5 e5 => ?_⟩)
      simp only [Int.toNat_natCast] at hx
      obtain ⟨hxl, hx'⟩ := List.getElem?_eq_some_iff.1 hx
      rw [List.drop_eq_getElem_cons hxl, hx'] at hb
      simp only [auditOn] at hb
      have hM5 : MapIs encPlace w5 b1 M := ((hM.ext e3).frm f4 fun e => map_ne (hM.ext e3) hat2 e.symm).ext e5
      have hat5 := hat4.ext e5
      have nok : fineP x = false → ∀ w', Ext w w' → drawers_Audit.j1 Q a n b1 (i : Nat) (drawers_Audit.l1 Q a n b1 (m + 1)) x b2 true w' := fun hf w' E' => by
        rw [hf] at hb
        simp only [Bool.not_false, if_true] at hb
        unfold drawers_Audit.j1
        exact ifb_t (bad (by decide) (by rw [← hb]) E')
      have ok : fineP x = true → ∀ w6, Ext w5 w6 → drawers_Audit.j1 Q a n b1 (i : Nat) (drawers_Audit.l1 Q a n b1 (m + 1)) x b2 false w6 := fun hf w6 e6 => by
        rw [hf] at hb
        simp only [Bool.not_true, Bool.false_eq_true, if_false] at hb
        have E6 := E5.ext e6
        have hM6 := hM5.ext e6
        have hat6 := hat5.ext e6
        unfold drawers_Audit.j1
        refine ifb_f (dr_f E6 fun w7 E7 e7 => ?_)
        have hM7 := hM6.ext e7
        have hat7 := hat6.ext e7
        have j2 : ∀ v, v = lateP q x → drawers_Audit.j2 Q b1 (i : Nat) (drawers_Audit.l1 Q a n b1 (m + 1)) x b2 v w7 := by
          intro v hv
          subst hv
          unfold drawers_Audit.j2
          refine ifb ?_
          split
          · rename_i hl
            rw [if_pos hl] at hb
            exact bad (by decide) (by rw [← hb]) E7
          rename_i hl
          rw [if_neg hl] at hb
          refine al_f E7 fun b3 w8 hb3 hat8 E8 e8 _ => sb_f E8 hat8 hb3 fun w9 hat9 E9 f9 => dr_f E9 fun w10 E10 e10 => ?_
          have nb23 : ¬ b2 = b3 := fun e => by
            subst e
            have h1 := hat7.ext e8
            exact absurd rfl (h1.neT hat8 (by simp [tyO]))
          have hM10 : MapIs encPlace w10 b1 M := ((hM7.ext e8).frm f9 fun e => map_ne (hM7.ext e8) hat8 e.symm).ext e10
          have hat10 := ((hat7.ext e8).frm f9 nb23).ext e10
          have hat10b := hat9.ext e10
          refine ⟨_, lookup_run keysPlace hM10 (pFrom x), ?_⟩
          obtain ⟨x3, x4, w11, r11, F11, r11', w12, r12, F12, h12, F1012⟩ := mapAdd (K := fun w' => MapIs encPlace w' b1 (subM M (pFrom x) x.N) ∧ Frm (fun k => k = b1) w10 w') hM10 (pFrom x) (wr (getM M (pFrom x) - x.N)) fun w' h F => ⟨h, F⟩
          have n2 := map_ne hM10 hat10
          have n3 := map_ne hM10 hat10b
          have E12 : Ext w w12 := Frm.trans E10 F1012 fun k hk e => by omega
          refine ⟨x3, x4, w11, r11, F11.blk _ hat10.lt n2, F11.blk _ hat10b.lt n3, r11', w12, r12, F12.blk _ (Nat.lt_of_lt_of_le hat10.lt F11.size) n2, F12.blk _ (Nat.lt_of_lt_of_le hat10b.lt F11.size) n3, ?_⟩
          have j3n : ¬ (x.From_Kind ≠ 1 ∧ x.From_Kind ≠ 6 ∧ getM (subM M (pFrom x) x.N) (pFrom x) < 0) → drawers_Audit.j3 Q b1 (i : Nat) (drawers_Audit.l1 Q a n b1 (m + 1)) x false w12 := fun hc => by
            rw [if_neg hc] at hb
            unfold drawers_Audit.j3
            refine ifb_f (dr_f E12 fun w13 E13 e13 => ⟨_, lookup_run keysPlace (h12.ext e13) (pTo x), ?_⟩)
            obtain ⟨y3, y4, w14, s14, G14, s14', w15, s15, G15, h15, F1315⟩ := mapAdd (K := fun w' => MapIs encPlace w' b1 (addM (subM M (pFrom x) x.N) (pTo x) x.N) ∧ Frm (fun k => k = b1) w13 w') (h12.ext e13) (pTo x) (wr (getM (subM M (pFrom x) x.N) (pTo x) + x.N)) fun w' h F => ⟨h, F⟩
            refine ⟨y3, y4, w14, s14, s14', w15, s15, ?_⟩
            rw [wrap_succ (n := n) (by omega) (by omega) (by simp only [maxLen]; omega)]
            exact ih (i + 1) w15 _ (some x.Day) (by omega) (Frm.trans E13 F1315 fun k hk e => by omega) h15 (by rw [if_neg (by omega), Nat.add_sub_cancel, hx]; rfl) hb
          refine ifb ?_
          split
          case isFalse hk => exact j3n fun h => hk (by simpa using h.1)
          rename_i hk1
          refine ifb ?_
          split
          case isFalse hk => exact j3n fun h => hk (by simpa using h.2.1)
          rename_i hk6
          refine ⟨_, lookup_run keysPlace h12 (pFrom x), ?_⟩
          cases hneg : decide (getM (subM M (pFrom x) x.N) (pFrom x) < 0) with
          | false => exact j3n fun h => absurd h.2.2 (of_decide_eq_false hneg)
          | true =>
            rw [if_pos ⟨by simpa using hk1, by simpa using hk6, of_decide_eq_true hneg⟩] at hb
            unfold drawers_Audit.j3
            exact ifb_t (bad (by decide) (by rw [← hb]) E12)
        refine ifb ?_
        split
        · rename_i h3'
          have h3' : 0 < i := by have := of_decide_eq_true h3'; omega
          have hw : IntKind.wrap .i64 (((i : Nat) : Int) - 1) = ((i - 1 : Nat) : Int) := by rw [wrap_id (by omega) (by omega)]; omega
          rw [hw]
          refine (hr.ext E7).ix (by omega) (by omega) fun a1 y ha1' hy hcy => ⟨_, (by have := hcy.at 0 rfl; rwa [add_add, Nat.add_zero] at this), j2 _ ?_⟩
          simp only [Int.toNat_natCast] at hy
          rw [if_neg (by omega), hy] at hq
          subst hq
          rfl
        · rename_i h3'
          have h3' : i = 0 := by simp at h3'; omega
          rw [if_pos h3'] at hq
          subst hq
          exact j2 _ rfl
      refine ifb ?_
      split
      · rename_i h; exact nok (by unfold fineP; rw [decide_eq_false (fun h' => by have := of_decide_eq_true h; omega)]; simp) _ E5
      rename_i d1
      refine ifb ?_
      split
      · rename_i h; exact nok (by unfold fineP; rw [decide_eq_false (fun h' => by have := of_decide_eq_true h; omega)]; simp) _ E5
      rename_i d2
      have p1 : decide (0 ≤ x.Day ∧ x.Day ≤ 100000) = true := by simp at d1 d2 ⊢; omega
      refine named_c fun w6 e6 => ⟨e6.blk _ hat5.lt id, ?_⟩
      have E6 := E5.ext e6
      have hat6 := hat5.ext e6
      refine ifb ?_
      split
      · rename_i h; exact nok (by unfold fineP; rw [show named x.Unit = false by simpa using h]; simp) _ E6
      rename_i d3
      have p2 : named x.Unit = true := by simpa using d3
      refine ifb ?_
      split
      · rename_i h; exact nok (by unfold fineP; rw [show decide (1 ≤ x.N ∧ x.N ≤ 1000000000) = false from decide_eq_false (fun h' => by have := of_decide_eq_true h; omega)]; simp) _ E6
      rename_i d4
      refine ifb ?_
      split
      · rename_i h; exact nok (by unfold fineP; rw [show decide (1 ≤ x.N ∧ x.N ≤ 1000000000) = false from decide_eq_false (fun h' => by have := of_decide_eq_true h; omega)]; simp) _ E6
      rename_i d5
      have p3 : decide (1 ≤ x.N ∧ x.N ≤ 1000000000) = true := by simp at d4 d5 ⊢; omega
      refine ifb ?_
      split
      · rename_i h; exact nok (by unfold fineP; rw [show decide (1 ≤ x.Lot ∧ x.Lot ≤ 2000) = false from decide_eq_false (fun h' => by have := of_decide_eq_true h; omega)]; simp) _ E6
      rename_i d6
      refine ifb ?_
      split
      · rename_i h; exact nok (by unfold fineP; rw [show decide (1 ≤ x.Lot ∧ x.Lot ≤ 2000) = false from decide_eq_false (fun h' => by have := of_decide_eq_true h; omega)]; simp) _ E6
      rename_i d7
      have p4 : decide (1 ≤ x.Lot ∧ x.Lot ≤ 2000) = true := by simp at d6 d7 ⊢; omega
      refine right_c (a := ⟨x.From_Kind, x.From_Id⟩) fun w7 e7 => ⟨e7.blk _ hat6.lt id, ?_⟩
      have E7 := E6.ext e7
      have hat7 := hat6.ext e7
      refine ifb ?_
      split
      · rename_i h; exact nok (by unfold fineP; rw [show rightA x.From_Kind x.From_Id = false by simpa using h]; simp) _ E7
      rename_i d8
      have p5 : rightA x.From_Kind x.From_Id = true := by simpa using d8
      refine right_c (a := ⟨x.To_Kind, x.To_Id⟩) fun w8 e8 => ⟨e8.blk _ hat7.lt id, ?_⟩
      have E8 := E7.ext e8
      have hat8 := hat7.ext e8
      refine ifb ?_
      split
      · rename_i h; exact nok (by unfold fineP; rw [show rightA x.To_Kind x.To_Id = false by simpa using h]; simp) _ E8
      rename_i d9
      have p6 : rightA x.To_Kind x.To_Id = true := by simpa using d9
      refine ways_c fun a4 n4 c4 w9 r9 hn4 e9 => ⟨e9.blk _ hat8.lt id, contains_c (v := ⟨x.From_Kind, x.To_Kind⟩) r9 hn4 fun w10 e10 => ⟨e10.blk _ (hat8.ext e9).lt id, ?_⟩⟩
      show drawers_Audit.j1 Q a n b1 (i : Nat) (drawers_Audit.l1 Q a n b1 (m + 1)) x b2 (!wayOk x.Why x.From_Kind x.To_Kind) w10
      cases hway : wayOk x.Why x.From_Kind x.To_Kind with
      | false => exact nok (by unfold fineP; rw [hway]; simp) _ ((E8.ext e9).ext e10)
      | true => exact ok (by unfold fineP; rw [p1, p2, p3, p4, p5, p6, hway]; rfl) _ ((((e6.trans e7).trans e8).trans e9).trans e10)
  exact key n 0 w1 [] none (by omega) E (MapIs.new hat) (by simp) (by simp)
end Go.Proofs.YtcbijkakoepglaaGreat
namespace Go.Proofs.YtcbijkakoepglaaGreat
open Go Go.Wx
set_option maxRecDepth 100000
def law06_sample.l1 (Q : Option Addr → World → Prop) (r1 : Option Addr) (b2 : Nat) : Nat → Int → World → Prop
 | 0, _, _ => False
 | nl1 + 1, v1, w4 => (
 Ifb (decide (v1 < ((11 : Nat) : Int)))
 (Ix (some ⟨b2, 0, none⟩) 11 v1 fun p1 =>
 LdT TOp.enc w4 (Addr.add p1 (v1.toNat * 9)) fun x1 =>
 Al w4 (.cells #[vu 0, vi 0, vs (ByteArray.mk #[]), vs (ByteArray.mk #[]), vi 0, vi 0, vi 0, vl none 0 0, vl none 0 0] 77) fun b3 w5 =>
 Sb w5 b3 (.cells #[vu x1.Kind, vi x1.Day, vs x1.Unit, vs x1.To, vi x1.A, vi x1.B, vi x1.C, vl x1.Goods_a x1.Goods_n x1.Goods_c, vl x1.Lots_a x1.Lots_n x1.Lots_c] 77 (0, 0)) fun w6 =>
 Cl Pg 42 #[vP r1, vg (TOp.enc x1)] w6 (fun v w7 => ∃ r2, v = vg (TResult.enc r2) ∧ Ifb (r2.E != 0)
 (Q none w7)
 ((law06_sample.l1 Q r1 b2 nl1) (IntKind.wrap .i64 (v1 + 1)) w7)))
 (Q r1 w4))
def law06_sample.R (Q : Option Addr → World → Prop)  (w : World) : Prop := (
 Cl Pg 39 #[] w (fun v w1 => ∃ r1, v = vP r1 ∧ Ifb r1.isNone
 (Q none w1)
 (Al w1 (.cells #[vs (ByteArray.mk #[99, 114, 111, 119, 110]), vi 7, vs (ByteArray.mk #[114, 105, 110, 103]), vi 1] 58) fun b1 w2 =>
 Al w2 (.cells #[vu 0, vi 0, vs (ByteArray.mk #[99, 114, 111, 119, 110]), vs (ByteArray.mk #[]), vi 1, vi 0, vi 0, vl none 0 0, vl none 0 0, vu 0, vi 0, vs (ByteArray.mk #[112, 101, 110, 110, 121]), vs (ByteArray.mk #[]), vi 1, vi 0, vi 0, vl none 0 0, vl none 0 0, vu 0, vi 0, vs (ByteArray.mk #[109, 97, 114, 107]), vs (ByteArray.mk #[]), vi 1, vi 0, vi 0, vl none 0 0, vl none 0 0, vu 0, vi 0, vs (ByteArray.mk #[114, 105, 110, 103]), vs (ByteArray.mk #[]), vi 3, vi 0, vi 0, vl none 0 0, vl none 0 0, vu 1, vi 0, vs (ByteArray.mk #[99, 114, 111, 119, 110]), vs (ByteArray.mk #[]), vi 240, vi 0, vi 0, vl none 0 0, vl none 0 0, vu 1, vi 0, vs (ByteArray.mk #[112, 101, 110, 110, 121]), vs (ByteArray.mk #[]), vi 1, vi 0, vi 0, vl none 0 0, vl none 0 0, vu 1, vi 0, vs (ByteArray.mk #[109, 97, 114, 107]), vs (ByteArray.mk #[]), vi 160, vi 0, vi 0, vl none 0 0, vl none 0 0, vu 2, vi 0, vs (ByteArray.mk #[112, 101, 110, 110, 121]), vs (ByteArray.mk #[]), vi 1, vi 100, vi 0, vl none 0 0, vl none 0 0, vu 2, vi 0, vs (ByteArray.mk #[99, 114, 111, 119, 110]), vs (ByteArray.mk #[]), vi 1, vi 10, vi 0, vl none 0 0, vl none 0 0, vu 2, vi 0, vs (ByteArray.mk #[99, 114, 111, 119, 110]), vs (ByteArray.mk #[]), vi 50, vi 400, vi 0, vl none 0 0, vl none 0 0, vu 4, vi 5, vs (ByteArray.mk #[]), vs (ByteArray.mk #[]), vi 9, vi 2, vi 0, vl (some ⟨b1, 0, none⟩) 2 2, vl none 0 0] 77) fun b2 w3 =>
 ∃ k, law06_sample.l1 Q r1 b2 k 0 w3)))
theorem law06_sample.ok {Q : Option Addr → World → Prop}  {w : World} (h : law06_sample.R Q  w) : Cl Pg 64 #[] w (fun v w' => ∃ r0, v = vP r0 ∧ Q r0 w') := by
 refine calls_args (args := []) Tryz.func64 ?_
 unfold law06_sample.R at h
 refine W_regseq <| ps 1 [(0, vP none)] <| WO_nil <| W_regseq <| cl h ?_
 rintro _ w1 ⟨r1, rfl, h⟩
 refine ps 1 [(1, vP r1)] <| WO_nil <| W_seq <| W_regseq <| ps 1 [(5, vP r1)] <| WO_p rfl rfl (v := vb r1.isNone) (ex_eqlnil_ptr_l (by kernel_rfl) rfl rfl rfl) <| WO_nil <| ci h (fun h => ?_) fun h => ?_
 exact W_regseq <| ps 1 [(0, vP none)] <| WO_nil <| W_ret <| seqK_ret <| ret1 (v := vP none) (t := 0) rfl rfl ⟨_, rfl, h⟩
 refine W_skip <| W_seq <| W_regseq <| ps 12 [(7, vg [vu 0, vi 0, vs (ByteArray.mk #[99, 114, 111, 119, 110]), vs (ByteArray.mk #[]), vi 1, vi 0, vi 0, vl none 0 0, vl none 0 0]), (8, vg [vu 0, vi 0, vs (ByteArray.mk #[112, 101, 110, 110, 121]), vs (ByteArray.mk #[]), vi 1, vi 0, vi 0, vl none 0 0, vl none 0 0]), (9, vg [vu 0, vi 0, vs (ByteArray.mk #[109, 97, 114, 107]), vs (ByteArray.mk #[]), vi 1, vi 0, vi 0, vl none 0 0, vl none 0 0]), (10, vg [vu 0, vi 0, vs (ByteArray.mk #[114, 105, 110, 103]), vs (ByteArray.mk #[]), vi 3, vi 0, vi 0, vl none 0 0, vl none 0 0]), (11, vg [vu 1, vi 0, vs (ByteArray.mk #[99, 114, 111, 119, 110]), vs (ByteArray.mk #[]), vi 240, vi 0, vi 0, vl none 0 0, vl none 0 0]), (12, vg [vu 1, vi 0, vs (ByteArray.mk #[112, 101, 110, 110, 121]), vs (ByteArray.mk #[]), vi 1, vi 0, vi 0, vl none 0 0, vl none 0 0]), (13, vg [vu 1, vi 0, vs (ByteArray.mk #[109, 97, 114, 107]), vs (ByteArray.mk #[]), vi 160, vi 0, vi 0, vl none 0 0, vl none 0 0]), (14, vg [vu 2, vi 0, vs (ByteArray.mk #[112, 101, 110, 110, 121]), vs (ByteArray.mk #[]), vi 1, vi 100, vi 0, vl none 0 0, vl none 0 0]), (15, vg [vu 2, vi 0, vs (ByteArray.mk #[99, 114, 111, 119, 110]), vs (ByteArray.mk #[]), vi 1, vi 10, vi 0, vl none 0 0, vl none 0 0]), (16, vg [vu 2, vi 0, vs (ByteArray.mk #[99, 114, 111, 119, 110]), vs (ByteArray.mk #[]), vi 50, vi 400, vi 0, vl none 0 0, vl none 0 0]), (17, vg [vs (ByteArray.mk #[99, 114, 111, 119, 110]), vi 7]), (18, vg [vs (ByteArray.mk #[114, 105, 110, 103]), vi 1])] ?_
 refine als 2 h ?_
 intro b1 w2 _ _ _ h
 refine ps 1 [(20, vg [vu 4, vi 5, vs (ByteArray.mk #[]), vs (ByteArray.mk #[]), vi 9, vi 2, vi 0, vl (some ⟨b1, 0, none⟩) 2 2, vl none 0 0])] <| als 11 h ?_
 intro b2 w3 _ _ _ h
 refine ps 2 [(22, vi (11 : Nat)), (23, vi 0)] <| WO_nil <| W_block ?_
 obtain ⟨nl1, h⟩ := h
 refine W_loopI (fun k e w4 => ∃ (e0 : Env) (v1 : Int), e = upds e0 [(1, vP r1), (21, vl (some ⟨b2, 0, none⟩) 11 11), (22, vi (11 : Nat)), (23, vi v1)] ∧ law06_sample.l1 Q r1 b2 k v1 w4) nl1 ?_ ?_ ?_
 rintro _ _ ⟨_, _, _, h⟩
 exact h
 exact ⟨_, 0, Agree.eq ⟨rfl, rfl, rfl, rfl, trivial⟩, h⟩
 clear h nl1
 rintro nl1 _ w4 ⟨e0, v1, rfl, h⟩
 unfold law06_sample.l1 at h
 refine W_regseq <| ps 1 [(24, vb (decide (v1 < ((11 : Nat) : Int))))] <| WO_nil <| W_seq <| ci h (fun h => ?_) fun h => ?_
 refine W_skip <| W_seq <| W_block <| W_regseq <| ix slk30 h fun p1 h => ?_
 obtain ⟨x1, hx1, h⟩ := h
 refine ldn tk77 hx1 <| alp h ?_
 intro b3 w5 _ _ hb_b3 h
 refine sb tk77 hb_b3 h ?_
 intro w6 ew hb_ h
 replace hb_b3 := hb_
 refine WO_nil <| W_regseq <| ps 1 [(27, vP r1)] <| lbn [vu x1.Kind, vi x1.Day, vs x1.Unit, vs x1.To, vi x1.A, vi x1.B, vi x1.C, vl x1.Goods_a x1.Goods_n x1.Goods_c, vl x1.Lots_a x1.Lots_n x1.Lots_c] tk77 hb_b3 <| cl h ?_
 rintro _ w7 ⟨r2, rfl, h⟩
 refine ps 2 [(30, vi r2.E), (31, vb (r2.E != 0))] <| WO_nil <| ci h (fun h => ?_) fun h => ?_
 exact W_regseq <| ps 1 [(0, vP none)] <| WO_nil <| W_ret <| blockK_ret <| seqK_ret <| seqK_ret <| blockK_ret <| seqK_ret <| ret1 (v := vP none) (t := 0) rfl rfl ⟨_, rfl, h⟩
 exact W_skip <| blockK_normal <| W_reg <| ps 2 [(32, vi (IntKind.wrap .i64 (v1 + 1))), (23, vi (IntKind.wrap .i64 (v1 + 1)))] <| WO_nil <| ⟨_, IntKind.wrap .i64 (v1 + 1), Agree.eq ⟨rfl, rfl, rfl, rfl, trivial⟩, h⟩
 exact W_exit <| blockK_hit <| W_regseq <| ps 2 [(33, vP r1), (0, vP r1)] <| WO_nil <| W_ret <| ret1 (v := vP r1) (t := 0) rfl rfl ⟨_, rfl, h⟩
def law06_alive.j1 (Q : Bool → World → Prop) (r1 : Option Addr) (v1 : Bool) (w2 : World) : Prop := (
 Ifb v1
 (Q false w2)
 (Cl Pg 24 #[vP r1, vi 6, vi 1, vs (ByteArray.mk #[109, 97, 114, 107]), vi 5] w2 (fun v w3 => ∃ r2 r3 r4, v = .tuple #[vi r2, vi r3, vi r4] ∧ Cl Pg 29 #[vP r1, vg [vu 2, vi 9], vi 6] w3 (fun v w4 => ∃ r5, v = vi r5 ∧ Cl Pg 23 #[vP r1, vi 20] w4 (fun v w5 => ∃ r6 r7, v = .tuple #[vi r6, vi r7] ∧ Cl Pg 30 #[vP r1, vi 21, vi 9, vi 4] w5 (fun v w6 => ∃ r8_a r8_n r8_c r9, v = .tuple #[vl r8_a r8_n r8_c, vi r9] ∧ Cl Pg 65 #[vP r1, vi 21, vi 9, vi 4] w6 (fun v w7 => ∃ r10_a r10_n r10_c r11, v = .tuple #[vl r10_a r10_n r10_c, vi r11] ∧ Cl Pg 26 #[vP r1] w7 (fun v w8 => ∃ r12_a r12_n r12_c, v = vl r12_a r12_n r12_c ∧ Cl Pg 19 #[vl r12_a r12_n r12_c] w8 (fun v w9 => ∃ r13_a r13_n r13_c r14, v = .tuple #[vl r13_a r13_n r13_c, vi r14] ∧ Ifb (r4 == 0)
 (Ifb (r2 == 4)
 (Ifb (r3 == 6)
 (Ifb (r5 == 1680)
 (Ifb (r7 == 0)
 (Ifb (r6 == 2)
 (Ifb (r9 == 0)
 (Ifb (((r8_n : Nat) : Int) == 2)
 (Ix r8_a r8_n (0 : Int) fun p1 =>
 LdI .i64 w9 (Addr.add (Addr.add p1 ((0 : Int).toNat * 2)) 1) fun x1 =>
 Ifb (x1 == 2)
 (Ix r8_a r8_n (1 : Int) fun p2 =>
 LdI .i64 w9 (Addr.add (Addr.add p2 ((1 : Int).toNat * 2)) 1) fun x2 =>
 Ifb (x2 == 5)
 (Ifb (r11 == 0)
 (Ifb (((r10_n : Nat) : Int) == 1)
 (Ifb (r14 == 0)
 (Cl Pg 25 #[vP r1, vi 21] w9 (fun v w10 => ∃ r15_a r15_n r15_c, v = vl r15_a r15_n r15_c ∧ Cl Pg 21 #[vl r13_a r13_n r13_c, vl r15_a r15_n r15_c] w10 (fun v w11 => ∃ r16, v = vb r16 ∧ Ifb r16
 (Q (decide (((r13_n : Nat) : Int) > 0)) w11)
 (Q false w11))))
 (Q false w9))
 (Q false w9))
 (Q false w9))
 (Q false w9))
 (Q false w9))
 (Q false w9))
 (Q false w9))
 (Q false w9))
 (Q false w9))
 (Q false w9))
 (Q false w9))
 (Q false w9))
 (Q false w9))))))))))
def law06_alive.R (Q : Bool → World → Prop)  (w : World) : Prop := (
 Cl Pg 64 #[] w (fun v w1 => ∃ r1, v = vP r1 ∧ Ifb r1.isNone
 (law06_alive.j1 Q r1 true w1)
 (Cl Pg 28 #[vP r1, vi 9] w1 (fun v w12 => ∃ r17_a r17_n r17_c, v = vl r17_a r17_n r17_c ∧ Ifb (((r17_n : Nat) : Int) != 2)
 (law06_alive.j1 Q r1 true w12)
 (Cl Pg 28 #[vP r1, vi 9] w12 (fun v w13 => ∃ r18_a r18_n r18_c, v = vl r18_a r18_n r18_c ∧ Ix r18_a r18_n (0 : Int) fun p3 =>
 LdI .i64 w13 (Addr.add (Addr.add p3 ((0 : Int).toNat * 10)) 4) fun x3 =>
 Ifb (x3 != 15)
 (law06_alive.j1 Q r1 true w13)
 (Cl Pg 55 #[vP r1, vs (ByteArray.mk #[99, 114, 111, 119, 110]), vi 60, vi 3] w13 (fun v w14 => ∃ r19, v = vi r19 ∧ Ifb (r19 != 400)
 (law06_alive.j1 Q r1 true w14)
 (Cl Pg 27 #[vP r1, vs (ByteArray.mk #[109, 97, 114, 107]), vi 3] w14 (fun v w15 => ∃ r20, v = vi r20 ∧ law06_alive.j1 Q r1 (r20 != 160) w15))))))))))
theorem law06_alive.ok {Q : Bool → World → Prop}  {w : World} (h : law06_alive.R Q  w) : Cl Pg 18 #[] w (fun v w' => ∃ r0, v = vb r0 ∧ Q r0 w') := by
 refine calls_args (args := []) Tryz.func18 ?_
 unfold law06_alive.R at h
 refine W_regseq <| ps 1 [(0, vb false)] <| WO_nil <| W_regseq <| cl h ?_
 rintro _ w1 ⟨r1, rfl, h⟩
 refine ps 1 [(1, vP r1)] <| WO_nil <| W_seq <| W_join (fun e w2 => ∃ (e0 : Env) (v1 : Bool), e = upds e0 [(1, vP r1), (40, vb v1)] ∧ law06_alive.j1 Q r1 v1 w2) ?_ ?_
 refine W_reg <| ps 1 [(15, vP r1)] <| WO_p rfl rfl (v := vb r1.isNone) (ex_eqlnil_ptr_l (by kernel_rfl) rfl rfl rfl) <| ps 1 [(17, vb r1.isNone)] <| cs 17 h (fun h => ?_) fun h => ?_
 exact ps 23 [(18, undef), (19, undef), (20, undef), (21, undef), (22, vb true), (23, vb true), (24, undef), (25, undef), (26, undef), (27, undef), (28, undef), (29, undef), (30, vb true), (31, vb true), (32, undef), (33, undef), (34, undef), (35, vb true), (36, vb true), (37, undef), (38, undef), (39, undef), (40, vb true)] <| WO_nil <| ⟨_, true, Agree.eq ⟨rfl, rfl, trivial⟩, h⟩
 refine ps 1 [(18, vP r1)] <| cl h ?_
 rintro _ w12 ⟨r17_a, r17_n, r17_c, rfl, h⟩
 refine ps 4 [(20, vi (r17_n : Nat)), (21, vb (((r17_n : Nat) : Int) != 2)), (22, vb (((r17_n : Nat) : Int) != 2)), (23, vb (((r17_n : Nat) : Int) != 2))] <| cs 23 h (fun h => ?_) fun h => ?_
 exact ps 17 [(24, undef), (25, undef), (26, undef), (27, undef), (28, undef), (29, undef), (30, vb true), (31, vb true), (32, undef), (33, undef), (34, undef), (35, vb true), (36, vb true), (37, undef), (38, undef), (39, undef), (40, vb true)] <| WO_nil <| ⟨_, true, Agree.eq ⟨rfl, rfl, trivial⟩, h⟩
 refine ps 1 [(24, vP r1)] <| cl h ?_
 rintro _ w13 ⟨r18_a, r18_n, r18_c, rfl, h⟩
 refine ix slk46 h fun p3 h => ps 1 [(27, vp (Addr.add (Addr.add p3 ((0 : Int).toNat * 10)) 4))] ?_
 obtain ⟨x3, hx3, h⟩ := h
 refine ld1 tk3 hx3 <| ps 3 [(29, vb (x3 != 15)), (30, vb (x3 != 15)), (31, vb (x3 != 15))] <| cs 31 h (fun h => ?_) fun h => ?_
 exact ps 9 [(32, undef), (33, undef), (34, undef), (35, vb true), (36, vb true), (37, undef), (38, undef), (39, undef), (40, vb true)] <| WO_nil <| ⟨_, true, Agree.eq ⟨rfl, rfl, trivial⟩, h⟩
 refine ps 1 [(32, vP r1)] <| cl h ?_
 rintro _ w14 ⟨r19, rfl, h⟩
 refine ps 3 [(34, vb (r19 != 400)), (35, vb (r19 != 400)), (36, vb (r19 != 400))] <| cs 36 h (fun h => ?_) fun h => ?_
 exact ps 4 [(37, undef), (38, undef), (39, undef), (40, vb true)] <| WO_nil <| ⟨_, true, Agree.eq ⟨rfl, rfl, trivial⟩, h⟩
 refine ps 1 [(37, vP r1)] <| cl h ?_
 rintro _ w15 ⟨r20, rfl, h⟩
 exact ps 2 [(39, vb (r20 != 160)), (40, vb (r20 != 160))] <| WO_nil <| ⟨_, (r20 != 160), Agree.eq ⟨rfl, rfl, trivial⟩, h⟩
 clear h
 rintro _ w2 ⟨e0, v1, rfl, h⟩
 unfold law06_alive.j1 at h
 refine ci h (fun h => ?_) fun h => ?_
 exact W_regseq <| ps 1 [(0, vb false)] <| WO_nil <| W_ret <| seqK_ret <| ret1 (v := vb false) (t := 0) rfl rfl ⟨_, rfl, h⟩
 refine W_skip <| W_regseq <| ps 1 [(42, vP r1)] <| cl h ?_
 rintro _ w3 ⟨r2, r3, r4, rfl, h⟩
 refine ps 7 [(41, .tuple #[vi r2, vi r3, vi r4]), (44, vi r2), (45, vi r3), (46, vi r4), (2, vi r2), (3, vi r3), (4, vi r4)] <| WO_nil <| W_regseq <| ps 2 [(47, vP r1), (48, vg [vu 2, vi 9])] <| cl h ?_
 rintro _ w4 ⟨r5, rfl, h⟩
 refine ps 1 [(5, vi r5)] <| WO_nil <| W_regseq <| ps 1 [(51, vP r1)] <| cl h ?_
 rintro _ w5 ⟨r6, r7, rfl, h⟩
 refine ps 5 [(50, .tuple #[vi r6, vi r7]), (53, vi r6), (54, vi r7), (6, vi r6), (7, vi r7)] <| WO_nil <| W_regseq <| ps 1 [(56, vP r1)] <| cl h ?_
 rintro _ w6 ⟨r8_a, r8_n, r8_c, r9, rfl, h⟩
 refine ps 5 [(55, .tuple #[vl r8_a r8_n r8_c, vi r9]), (58, vl r8_a r8_n r8_c), (59, vi r9), (8, vl r8_a r8_n r8_c), (9, vi r9)] <| WO_nil <| W_regseq <| ps 1 [(61, vP r1)] <| cl h ?_
 rintro _ w7 ⟨r10_a, r10_n, r10_c, r11, rfl, h⟩
 refine ps 5 [(60, .tuple #[vl r10_a r10_n r10_c, vi r11]), (63, vl r10_a r10_n r10_c), (64, vi r11), (10, vl r10_a r10_n r10_c), (11, vi r11)] <| WO_nil <| W_regseq <| ps 1 [(66, vP r1)] <| cl h ?_
 rintro _ w8 ⟨r12_a, r12_n, r12_c, rfl, h⟩
 refine cl h ?_
 rintro _ w9 ⟨r13_a, r13_n, r13_c, r14, rfl, h⟩
 refine ps 5 [(65, .tuple #[vl r13_a r13_n r13_c, vi r14]), (69, vl r13_a r13_n r13_c), (70, vi r14), (12, vl r13_a r13_n r13_c), (13, vi r14)] <| WO_nil <| W_regseq <| ps 3 [(71, vi r4), (72, vb (r4 == 0)), (73, vb (r4 == 0))] <| cs 73 h (fun h => ?_) fun h => ?_
 refine ps 4 [(74, vi r2), (75, vb (r2 == 4)), (76, vb (r2 == 4)), (77, vb (r2 == 4))] <| cs 77 h (fun h => ?_) fun h => ?_
 refine ps 4 [(78, vi r3), (79, vb (r3 == 6)), (80, vb (r3 == 6)), (81, vb (r3 == 6))] <| cs 81 h (fun h => ?_) fun h => ?_
 refine ps 4 [(82, vi r5), (83, vb (r5 == 1680)), (84, vb (r5 == 1680)), (85, vb (r5 == 1680))] <| cs 85 h (fun h => ?_) fun h => ?_
 refine ps 4 [(86, vi r7), (87, vb (r7 == 0)), (88, vb (r7 == 0)), (89, vb (r7 == 0))] <| cs 89 h (fun h => ?_) fun h => ?_
 refine ps 4 [(90, vi r6), (91, vb (r6 == 2)), (92, vb (r6 == 2)), (93, vb (r6 == 2))] <| cs 93 h (fun h => ?_) fun h => ?_
 refine ps 4 [(94, vi r9), (95, vb (r9 == 0)), (96, vb (r9 == 0)), (97, vb (r9 == 0))] <| cs 97 h (fun h => ?_) fun h => ?_
 refine ps 5 [(98, vl r8_a r8_n r8_c), (99, vi (r8_n : Nat)), (100, vb (((r8_n : Nat) : Int) == 2)), (101, vb (((r8_n : Nat) : Int) == 2)), (102, vb (((r8_n : Nat) : Int) == 2))] <| cs 102 h (fun h => ?_) fun h => ?_
 refine ps 1 [(103, vl r8_a r8_n r8_c)] <| ix slk53 h fun p1 h => ps 1 [(105, vp (Addr.add (Addr.add p1 ((0 : Int).toNat * 2)) 1))] ?_
 obtain ⟨x1, hx1, h⟩ := h
 refine ld1 tk3 hx1 <| ps 3 [(107, vb (x1 == 2)), (108, vb (x1 == 2)), (109, vb (x1 == 2))] <| cs 109 h (fun h => ?_) fun h => ?_
 refine ps 1 [(110, vl r8_a r8_n r8_c)] <| ix slk53 h fun p2 h => ps 1 [(112, vp (Addr.add (Addr.add p2 ((1 : Int).toNat * 2)) 1))] ?_
 obtain ⟨x2, hx2, h⟩ := h
 refine ld1 tk3 hx2 <| ps 3 [(114, vb (x2 == 5)), (115, vb (x2 == 5)), (116, vb (x2 == 5))] <| cs 116 h (fun h => ?_) fun h => ?_
 refine ps 4 [(117, vi r11), (118, vb (r11 == 0)), (119, vb (r11 == 0)), (120, vb (r11 == 0))] <| cs 120 h (fun h => ?_) fun h => ?_
 refine ps 5 [(121, vl r10_a r10_n r10_c), (122, vi (r10_n : Nat)), (123, vb (((r10_n : Nat) : Int) == 1)), (124, vb (((r10_n : Nat) : Int) == 1)), (125, vb (((r10_n : Nat) : Int) == 1))] <| cs 125 h (fun h => ?_) fun h => ?_
 refine ps 4 [(126, vi r14), (127, vb (r14 == 0)), (128, vb (r14 == 0)), (129, vb (r14 == 0))] <| cs 129 h (fun h => ?_) fun h => ?_
 refine ps 2 [(130, vl r13_a r13_n r13_c), (131, vP r1)] <| cl h ?_
 rintro _ w10 ⟨r15_a, r15_n, r15_c, rfl, h⟩
 refine cl h ?_
 rintro _ w11 ⟨r16, rfl, h⟩
 refine ps 2 [(134, vb r16), (135, vb r16)] <| cs 135 h (fun h => ?_) fun h => ?_
 exact ps 5 [(136, vl r13_a r13_n r13_c), (137, vi (r13_n : Nat)), (138, vb (decide (((r13_n : Nat) : Int) > 0))), (139, vb (decide (((r13_n : Nat) : Int) > 0))), (0, vb (decide (((r13_n : Nat) : Int) > 0)))] <| WO_nil <| W_ret <| ret1 (v := vb (decide (((r13_n : Nat) : Int) > 0))) (t := 0) rfl rfl ⟨_, rfl, h⟩
 exact ps 5 [(136, undef), (137, undef), (138, undef), (139, vb false), (0, vb false)] <| WO_nil <| W_ret <| ret1 (v := vb false) (t := 0) rfl rfl ⟨_, rfl, h⟩
 exact ps 11 [(130, undef), (131, undef), (132, undef), (133, undef), (134, vb false), (135, vb false), (136, undef), (137, undef), (138, undef), (139, vb false), (0, vb false)] <| WO_nil <| W_ret <| ret1 (v := vb false) (t := 0) rfl rfl ⟨_, rfl, h⟩
 exact ps 15 [(126, undef), (127, undef), (128, vb false), (129, vb false), (130, undef), (131, undef), (132, undef), (133, undef), (134, vb false), (135, vb false), (136, undef), (137, undef), (138, undef), (139, vb false), (0, vb false)] <| WO_nil <| W_ret <| ret1 (v := vb false) (t := 0) rfl rfl ⟨_, rfl, h⟩
 exact ps 20 [(121, undef), (122, undef), (123, undef), (124, vb false), (125, vb false), (126, undef), (127, undef), (128, vb false), (129, vb false), (130, undef), (131, undef), (132, undef), (133, undef), (134, vb false), (135, vb false), (136, undef), (137, undef), (138, undef), (139, vb false), (0, vb false)] <| WO_nil <| W_ret <| ret1 (v := vb false) (t := 0) rfl rfl ⟨_, rfl, h⟩
 exact ps 24 [(117, undef), (118, undef), (119, vb false), (120, vb false), (121, undef), (122, undef), (123, undef), (124, vb false), (125, vb false), (126, undef), (127, undef), (128, vb false), (129, vb false), (130, undef), (131, undef), (132, undef), (133, undef), (134, vb false), (135, vb false), (136, undef), (137, undef), (138, undef), (139, vb false), (0, vb false)] <| WO_nil <| W_ret <| ret1 (v := vb false) (t := 0) rfl rfl ⟨_, rfl, h⟩
 exact ps 31 [(110, undef), (111, undef), (112, undef), (113, undef), (114, undef), (115, vb false), (116, vb false), (117, undef), (118, undef), (119, vb false), (120, vb false), (121, undef), (122, undef), (123, undef), (124, vb false), (125, vb false), (126, undef), (127, undef), (128, vb false), (129, vb false), (130, undef), (131, undef), (132, undef), (133, undef), (134, vb false), (135, vb false), (136, undef), (137, undef), (138, undef), (139, vb false), (0, vb false)] <| WO_nil <| W_ret <| ret1 (v := vb false) (t := 0) rfl rfl ⟨_, rfl, h⟩
 exact ps 38 [(103, undef), (104, undef), (105, undef), (106, undef), (107, undef), (108, vb false), (109, vb false), (110, undef), (111, undef), (112, undef), (113, undef), (114, undef), (115, vb false), (116, vb false), (117, undef), (118, undef), (119, vb false), (120, vb false), (121, undef), (122, undef), (123, undef), (124, vb false), (125, vb false), (126, undef), (127, undef), (128, vb false), (129, vb false), (130, undef), (131, undef), (132, undef), (133, undef), (134, vb false), (135, vb false), (136, undef), (137, undef), (138, undef), (139, vb false), (0, vb false)] <| WO_nil <| W_ret <| ret1 (v := vb false) (t := 0) rfl rfl ⟨_, rfl, h⟩
 exact ps 43 [(98, undef), (99, undef), (100, undef), (101, vb false), (102, vb false), (103, undef), (104, undef), (105, undef), (106, undef), (107, undef), (108, vb false), (109, vb false), (110, undef), (111, undef), (112, undef), (113, undef), (114, undef), (115, vb false), (116, vb false), (117, undef), (118, undef), (119, vb false), (120, vb false), (121, undef), (122, undef), (123, undef), (124, vb false), (125, vb false), (126, undef), (127, undef), (128, vb false), (129, vb false), (130, undef), (131, undef), (132, undef), (133, undef), (134, vb false), (135, vb false), (136, undef), (137, undef), (138, undef), (139, vb false), (0, vb false)] <| WO_nil <| W_ret <| ret1 (v := vb false) (t := 0) rfl rfl ⟨_, rfl, h⟩
 exact ps 47 [(94, undef), (95, undef), (96, vb false), (97, vb false), (98, undef), (99, undef), (100, undef), (101, vb false), (102, vb false), (103, undef), (104, undef), (105, undef), (106, undef), (107, undef), (108, vb false), (109, vb false), (110, undef), (111, undef), (112, undef), (113, undef), (114, undef), (115, vb false), (116, vb false), (117, undef), (118, undef), (119, vb false), (120, vb false), (121, undef), (122, undef), (123, undef), (124, vb false), (125, vb false), (126, undef), (127, undef), (128, vb false), (129, vb false), (130, undef), (131, undef), (132, undef), (133, undef), (134, vb false), (135, vb false), (136, undef), (137, undef), (138, undef), (139, vb false), (0, vb false)] <| WO_nil <| W_ret <| ret1 (v := vb false) (t := 0) rfl rfl ⟨_, rfl, h⟩
 exact ps 51 [(90, undef), (91, undef), (92, vb false), (93, vb false), (94, undef), (95, undef), (96, vb false), (97, vb false), (98, undef), (99, undef), (100, undef), (101, vb false), (102, vb false), (103, undef), (104, undef), (105, undef), (106, undef), (107, undef), (108, vb false), (109, vb false), (110, undef), (111, undef), (112, undef), (113, undef), (114, undef), (115, vb false), (116, vb false), (117, undef), (118, undef), (119, vb false), (120, vb false), (121, undef), (122, undef), (123, undef), (124, vb false), (125, vb false), (126, undef), (127, undef), (128, vb false), (129, vb false), (130, undef), (131, undef), (132, undef), (133, undef), (134, vb false), (135, vb false), (136, undef), (137, undef), (138, undef), (139, vb false), (0, vb false)] <| WO_nil <| W_ret <| ret1 (v := vb false) (t := 0) rfl rfl ⟨_, rfl, h⟩
 exact ps 55 [(86, undef), (87, undef), (88, vb false), (89, vb false), (90, undef), (91, undef), (92, vb false), (93, vb false), (94, undef), (95, undef), (96, vb false), (97, vb false), (98, undef), (99, undef), (100, undef), (101, vb false), (102, vb false), (103, undef), (104, undef), (105, undef), (106, undef), (107, undef), (108, vb false), (109, vb false), (110, undef), (111, undef), (112, undef), (113, undef), (114, undef), (115, vb false), (116, vb false), (117, undef), (118, undef), (119, vb false), (120, vb false), (121, undef), (122, undef), (123, undef), (124, vb false), (125, vb false), (126, undef), (127, undef), (128, vb false), (129, vb false), (130, undef), (131, undef), (132, undef), (133, undef), (134, vb false), (135, vb false), (136, undef), (137, undef), (138, undef), (139, vb false), (0, vb false)] <| WO_nil <| W_ret <| ret1 (v := vb false) (t := 0) rfl rfl ⟨_, rfl, h⟩
 exact ps 59 [(82, undef), (83, undef), (84, vb false), (85, vb false), (86, undef), (87, undef), (88, vb false), (89, vb false), (90, undef), (91, undef), (92, vb false), (93, vb false), (94, undef), (95, undef), (96, vb false), (97, vb false), (98, undef), (99, undef), (100, undef), (101, vb false), (102, vb false), (103, undef), (104, undef), (105, undef), (106, undef), (107, undef), (108, vb false), (109, vb false), (110, undef), (111, undef), (112, undef), (113, undef), (114, undef), (115, vb false), (116, vb false), (117, undef), (118, undef), (119, vb false), (120, vb false), (121, undef), (122, undef), (123, undef), (124, vb false), (125, vb false), (126, undef), (127, undef), (128, vb false), (129, vb false), (130, undef), (131, undef), (132, undef), (133, undef), (134, vb false), (135, vb false), (136, undef), (137, undef), (138, undef), (139, vb false), (0, vb false)] <| WO_nil <| W_ret <| ret1 (v := vb false) (t := 0) rfl rfl ⟨_, rfl, h⟩
 exact ps 63 [(78, undef), (79, undef), (80, vb false), (81, vb false), (82, undef), (83, undef), (84, vb false), (85, vb false), (86, undef), (87, undef), (88, vb false), (89, vb false), (90, undef), (91, undef), (92, vb false), (93, vb false), (94, undef), (95, undef), (96, vb false), (97, vb false), (98, undef), (99, undef), (100, undef), (101, vb false), (102, vb false), (103, undef), (104, undef), (105, undef), (106, undef), (107, undef), (108, vb false), (109, vb false), (110, undef), (111, undef), (112, undef), (113, undef), (114, undef), (115, vb false), (116, vb false), (117, undef), (118, undef), (119, vb false), (120, vb false), (121, undef), (122, undef), (123, undef), (124, vb false), (125, vb false), (126, undef), (127, undef), (128, vb false), (129, vb false), (130, undef), (131, undef), (132, undef), (133, undef), (134, vb false), (135, vb false), (136, undef), (137, undef), (138, undef), (139, vb false), (0, vb false)] <| WO_nil <| W_ret <| ret1 (v := vb false) (t := 0) rfl rfl ⟨_, rfl, h⟩
 exact ps 67 [(74, undef), (75, undef), (76, vb false), (77, vb false), (78, undef), (79, undef), (80, vb false), (81, vb false), (82, undef), (83, undef), (84, vb false), (85, vb false), (86, undef), (87, undef), (88, vb false), (89, vb false), (90, undef), (91, undef), (92, vb false), (93, vb false), (94, undef), (95, undef), (96, vb false), (97, vb false), (98, undef), (99, undef), (100, undef), (101, vb false), (102, vb false), (103, undef), (104, undef), (105, undef), (106, undef), (107, undef), (108, vb false), (109, vb false), (110, undef), (111, undef), (112, undef), (113, undef), (114, undef), (115, vb false), (116, vb false), (117, undef), (118, undef), (119, vb false), (120, vb false), (121, undef), (122, undef), (123, undef), (124, vb false), (125, vb false), (126, undef), (127, undef), (128, vb false), (129, vb false), (130, undef), (131, undef), (132, undef), (133, undef), (134, vb false), (135, vb false), (136, undef), (137, undef), (138, undef), (139, vb false), (0, vb false)] <| WO_nil <| W_ret <| ret1 (v := vb false) (t := 0) rfl rfl ⟨_, rfl, h⟩
end Go.Proofs.YtcbijkakoepglaaGreat
namespace Go.Proofs.YtcbijkakoepglaaGreat
open Go Go.Wx

def nCrown : ByteArray := ByteArray.mk #[99, 114, 111, 119, 110]
def nRing : ByteArray := ByteArray.mk #[114, 105, 110, 103]
def nPenny : ByteArray := ByteArray.mk #[112, 101, 110, 110, 121]
def nMark : ByteArray := ByteArray.mk #[109, 97, 114, 107]
def nNo : ByteArray := ByteArray.mk #[]
def sampleT (g : Nat) : List TOp := [⟨0, 0, nCrown, nNo, 1, 0, 0, none, 0, 0, none, 0, 0⟩, ⟨0, 0, nPenny, nNo, 1, 0, 0, none, 0, 0, none, 0, 0⟩, ⟨0, 0, nMark, nNo, 1, 0, 0, none, 0, 0, none, 0, 0⟩, ⟨0, 0, nRing, nNo, 3, 0, 0, none, 0, 0, none, 0, 0⟩, ⟨1, 0, nCrown, nNo, 240, 0, 0, none, 0, 0, none, 0, 0⟩, ⟨1, 0, nPenny, nNo, 1, 0, 0, none, 0, 0, none, 0, 0⟩, ⟨1, 0, nMark, nNo, 160, 0, 0, none, 0, 0, none, 0, 0⟩,
  ⟨2, 0, nPenny, nNo, 1, 100, 0, none, 0, 0, none, 0, 0⟩, ⟨2, 0, nCrown, nNo, 1, 10, 0, none, 0, 0, none, 0, 0⟩, ⟨2, 0, nCrown, nNo, 50, 400, 0, none, 0, 0, none, 0, 0⟩, ⟨4, 5, nNo, nNo, 9, 2, 0, some ⟨g, 0, none⟩, 2, 2, none, 0, 0⟩]
def sampleG : List TAmount := [⟨nCrown, 7⟩, ⟨nRing, 1⟩]
def opOf (o : TOp) : MOp := ⟨o.Kind, o.Day, o.Unit, o.To, o.A, o.B, o.C, if o.Goods_n = 2 then sampleG else [], []⟩
def sampleOps : List MOp := (sampleT 0).map opOf
theorem sampleOps_eq (g : Nat) : (sampleT g).map opOf = sampleOps := rfl
def okRuns : MState → List MOp → Bool
  | _, [] => true
  | M, o :: os => ((M.run o).1.e == 0) && okRuns (M.run o).2 os
theorem sample_ok : okRuns M0 sampleOps = true := by kernel_rfl
def Ma : MState := M0.runs sampleOps
theorem good_Ma : GoodK 11 Ma := good_runs sampleOps good_M0

theorem sample_c {w : World} {Q : Option Addr → World → Prop} (hQ : ∀ b w' R st, Led w' R b st Ma → w.heap.size ≤ b → (∀ k, R k → w.heap.size ≤ k) → Ext w w' → Q (some ⟨b, 0, none⟩) w') : Cl Pg 64 #[] w (fun v w' => ∃ r, v = vP r ∧ Q r w') := by
  refine law06_sample.ok (new_c fun b w1 R st hL hb hR E => ifb_f (al_f E fun b1 w2 hb1 hat1 E e2 _ => al_f E fun b2 w3 hb2 hat2 E e3 _ => ⟨12, ?_⟩))
  have hg : Rd TAmount.enc 2 w3 (some ⟨b1, 0, none⟩) 2 sampleG := rd_blk (enc := TAmount.enc) (fun _ => rfl) sampleG (hat1.ext e3) rfl
  have ho : Rd TOp.enc 9 w3 (some ⟨b2, 0, none⟩) 11 (sampleT b1) := rd_blk (enc := TOp.enc) (fun _ => rfl) (sampleT b1) hat2 rfl
  have hop : ∀ o ∈ sampleT b1, OpIs w3 o (opOf o) := by
    have hnone : ∀ (k d : Int) (u t : ByteArray) (a b c : Int), OpIs w3 ⟨k, d, u, t, a, b, c, none, 0, 0, none, 0, 0⟩ (opOf ⟨k, d, u, t, a, b, c, none, 0, 0, none, 0, 0⟩) := fun k d u t a b c => ⟨rfl, rfl, rfl, rfl, rfl, rfl, rfl, Rd.nil, Rd.nil, Nat.zero_le _, Nat.zero_le _⟩
    intro o ho
    unfold sampleT at ho
    simp only [List.mem_cons, List.not_mem_nil, or_false] at ho
    rcases ho with rfl | rfl | rfl | rfl | rfl | rfl | rfl | rfl | rfl | rfl | rfl <;> first | exact hnone _ _ _ _ _ _ _ | exact ⟨rfl, rfl, rfl, rfl, rfl, rfl, rfl, hg, Rd.nil, by simp, by simp⟩
  have hL3 := (hL.ext e2).ext e3
  have nb1 : b1 ≠ b := by have := (hL.ext e2).blk; exact fun e => by subst e; exact absurd rfl (hat1.neT this (by simp [tyO]))
  have nb2 : b2 ≠ b := by have := hL3.blk; exact fun e => by subst e; exact absurd rfl (hat2.neT this (by simp [tyO]))
  have key : ∀ m i w' R st M, i + m = 11 → Frm (fun k => k = b) w3 w' → Led w' R b st M → GoodK i M → (∀ k, R k → w.heap.size ≤ k) → okRuns M (sampleOps.drop i) = true → (∀ w' R st, Led w' R b st (M.runs (sampleOps.drop i)) → (∀ k, R k → w.heap.size ≤ k) → Ext w w' → Q (some ⟨b, 0, none⟩) w') → law06_sample.l1 Q (some ⟨b, 0, none⟩) b2 (m + 1) (i : Nat) w' := by
    intro m
    induction m with
    | zero =>
      intro i w' R st M hi F hL hG hR hok hQ
      obtain rfl : i = 11 := by omega
      unfold law06_sample.l1
      refine ifb_df (by omega) (hQ w' R st hL hR (Frm.trans E F fun k hk e => by omega))
    | succ m ih =>
      intro i w' R st M hi F hL hG hR hok hQ
      unfold law06_sample.l1
      have hor := ho.frm F (fun a0 ha _ => by cases ha; exact nb2)
      refine ifb_dt (by omega) (hor.ix (by omega) (by omega) fun a0 x ha hx hc => ⟨x, hc, al_f (er w') fun bb w4 hbb hat4 E4 _ _ => sb_f E4 hat4 hbb fun w5 hat5 E5 f5 => ?_⟩)
      simp only [Int.toNat_natCast] at hx
      have hmo : sampleOps[i]? = some (opOf x) := by rw [← sampleOps_eq b1, List.getElem?_map, hx]; rfl
      obtain ⟨hlt, hmo'⟩ := List.getElem?_eq_some_iff.1 hmo
      rw [List.drop_eq_getElem_cons hlt, hmo'] at hQ hok
      simp only [MState.runs] at hQ
      simp only [okRuns, Bool.and_eq_true] at hok
      have hopx : OpIs w5 x (opOf x) := (hop x (List.mem_of_getElem? hx)).frm (F.ext E5) (fun a0 ha hn e => by
        have hxm := List.mem_of_getElem? hx
        unfold sampleT at hxm
        simp only [List.mem_cons, List.not_mem_nil, or_false] at hxm
        rcases hxm with rfl | rfl | rfl | rfl | rfl | rfl | rfl | rfl | rfl | rfl | rfl <;> first | (simp at ha; done) | (cases ha; exact nb1 e)) (fun a0 ha hn e => by
        have hxm := List.mem_of_getElem? hx
        unfold sampleT at hxm
        simp only [List.mem_cons, List.not_mem_nil, or_false] at hxm
        rcases hxm with rfl | rfl | rfl | rfl | rfl | rfl | rfl | rfl | rfl | rfl | rfl <;> cases ha)
      refine run_c (hL.ext E5) (hG.good (by omega)) hopx fun r w6 R6 st6 hL6 hR6 F6 hr => ?_
      rw [hr.he]
      rw [wrap_succ (n := 11) (by omega) (by omega) (by simp [maxLen])]
      refine ifb ?_
      rw [if_neg (by have := hok.1; simp at this; simp [this])]
      refine ih (i + 1) w6 R6 st6 _ (by omega) ((F.ext E5).trans F6 fun _ _ h => h) hL6 (good_run hG _) (fun k hk => (hR6 k hk).elim (hR k) fun h => ?_) hok.2 hQ
      have := E.size; have := F.size; have := E5.size; omega
  exact key 11 0 w3 R st M0 (by omega) (Frm.refl _ _) hL3 good_M0 hR sample_ok fun w' R st hL hR E => hQ b w' R st hL hb hR E

/-! ### what the calls of 'alive' come to -/
def Mb : MState := (Ma.run ⟨7, 6, nNo, nMark, 1, 5, 0, [], []⟩).2
def Mc : MState := (Mb.run ⟨3, 20, nNo, nNo, 0, 0, 0, [], []⟩).2
def Md : MState := (Mc.run ⟨8, 21, nNo, nNo, 9, 4, 0, [], []⟩).2
def Me : MState := (Md.run ⟨5, 21, nNo, nNo, 9, 4, 0, [], []⟩).2
theorem good_Mb : GoodK 12 Mb := good_run good_Ma _
theorem good_Mc : GoodK 13 Mc := good_run good_Mb _
theorem good_Md : GoodK 14 Md := good_run good_Mc _
theorem good_Me : GoodK 15 Me := good_run good_Md _
theorem al1 : (Ma.lotsOf 9).length = 2 ∧ ((Ma.lotsOf 9)[0]?.map fun x => x.Due) = some 15 := by constructor <;> kernel_rfl
theorem al2 : Ma.term nCrown 60 3 = 400 ∧ Ma.value nMark 3 = 160 := by constructor <;> kernel_rfl
theorem al3 : (Ma.convert 6 1 nMark 5).1 = 0 ∧ (Ma.convert 6 1 nMark 5).2.2.1 = 4 ∧ (Ma.convert 6 1 nMark 5).2.2.2 = 6 ∧ (Ma.convert 6 1 nMark 5).2.1 = Mb := by refine ⟨?_, ?_, ?_, ?_⟩ <;> kernel_rfl
theorem al4 : Mb.worth ⟨2, 9⟩ 6 = 1680 := by kernel_rfl
theorem al5 : (Mb.adv 20).1 = 0 ∧ (Mb.due 20).length = 2 ∧ (Mb.adv 20).2 = Mc := by refine ⟨?_, ?_, ?_⟩ <;> kernel_rfl
theorem al6 : (Mc.refund 21 9 4).1 = 0 ∧ ((Mc.refund 21 9 4).2.2.map fun x => x.N) = [2, 5] ∧ (Mc.refund 21 9 4).2.1 = Md := by refine ⟨?_, ?_, ?_⟩ <;> kernel_rfl
theorem al7 : (Md.pay 21 9 4).1 = 0 ∧ (Md.pay 21 9 4).2.2.1.length = 1 ∧ (Md.pay 21 9 4).2.1 = Me := by refine ⟨?_, ?_, ?_⟩ <;> kernel_rfl
theorem al8a : (auditM Me.postings).2.length = 9 := by kernel_rfl
theorem al8 : (auditM Me.postings).1 = 0 ∧ 0 < (auditM Me.postings).2.length ∧ (auditM Me.postings).2 = Me.trial 21 := ⟨by kernel_rfl, by rw [al8a]; decide, by kernel_rfl⟩

theorem alive_c {w : World} {Q : Bool → World → Prop} (hQ : ∀ w', Ext w w' → Q true w') : Cl Pg 18 #[] w (fun v w' => ∃ r, v = vb r ∧ Q r w') := by
  refine law06_alive.ok (sample_c fun b w1 R st hL hb hR E1 => ifb_f ?_)
  have g0 := good_Ma.good (by omega)
  refine lots_c hL.rd g0.small.fits fun a2 n2 c2 w2 ho2 hk2 E2 => ?_
  have e2 : n2 = 2 := by rw [ho2.1]; exact al1.1
  subst e2
  refine ifb_f ?_
  have hL := hL.ext E2
  refine lots_c hL.rd g0.small.fits fun a3 n3 c3 w3 ho3 hk3 E3 => ?_
  have e3 : n3 = 2 := by rw [ho3.1]; exact al1.1
  subst e3
  have hL := hL.ext E3
  refine (ho3.rd encLot).ix (by omega) (by omega) fun p3 x hp3 hx hc => ⟨_, hc.at 4 rfl, ?_⟩
  have hdue : x.Due = 15 := by
    have := al1.2
    rw [show (Ma.lotsOf 9)[0]? = some x from hx] at this
    exact Option.some.inj this
  rw [hdue]
  refine ifb_f ?_
  refine lterm_c hL.rd g0.small.fits fun w4 E4 => ?_
  rw [show Ma.term (ByteArray.mk #[99, 114, 111, 119, 110]) 60 3 = 400 from al2.1]
  refine ifb_f ?_
  have hL := hL.ext E4
  refine lvalue_c hL.rd g0.small.fits fun w5 E5 => ?_
  rw [show Ma.value (ByteArray.mk #[109, 97, 114, 107]) 3 = 160 from al2.2]
  have hL := hL.ext E5
  have E5 := (((E1.ext E2).ext E3).ext E4).ext E5
  unfold law06_alive.j1
  refine ifb_f ?_
  refine convert_c hL g0 fun w6 R6 st6 hL6 hR6 F6 => ?_
  rw [show (Ma.convert 6 1 (ByteArray.mk #[109, 97, 114, 107]) 5).1 = 0 from al3.1, show (Ma.convert 6 1 (ByteArray.mk #[109, 97, 114, 107]) 5).2.2.1 = 4 from al3.2.1, show (Ma.convert 6 1 (ByteArray.mk #[109, 97, 114, 107]) 5).2.2.2 = 6 from al3.2.2.1]
  rw [show (Ma.convert 6 1 (ByteArray.mk #[109, 97, 114, 107]) 5).2.1 = Mb from al3.2.2.2] at hL6
  have E6 : Ext w w6 := Frm.trans E5 F6 fun k hk e => by omega
  have g1 := good_Mb.good (by omega)
  refine worth_c (a := ⟨2, 9⟩) hL6.rd g1.small.fits (by have := g1.postings; omega) fun w7 E7 => ?_
  rw [al4]
  have hL7 := hL6.ext E7
  refine adv_c hL7 g1 fun w8 R8 st8 hL8 hR8 F8 => ?_
  rw [al5.2.2] at hL8
  rw [al5.1, if_pos rfl, al5.2.1]
  have E8 : Ext w w8 := Frm.trans (E6.ext E7) F8 fun k hk e => by omega
  have g2 := good_Mc.good (by omega)
  refine refund_c hL8 g2 fun a9 n9 c9 w9 R9 st9 hL9 hR9 F9 ho9 hk9 => ?_
  rw [al6.2.2] at hL9
  rw [al6.1]
  have E9 : Ext w w9 := Frm.trans E8 F9 fun k hk e => by omega
  have g3 := good_Md.good (by omega)
  have n9' : n9 = 2 := by
    rw [ho9.1]
    have := congrArg List.length al6.2.1
    simpa using this
  subst n9'
  refine pay_c hL9 g3 fun a10 n10 c10 w10 R10 st10 hL10 hR10 F10 ho10 hk10 => ?_
  rw [al7.2.2] at hL10
  rw [al7.1]
  have E10 : Ext w w10 := Frm.trans E9 F10 fun k hk e => by omega
  have n10' : n10 = 1 := by rw [ho10.1]; exact al7.2.1
  subst n10'
  have g4 := good_Me.good (by omega)
  have hb9 : ∀ k, obk a9 c9 = some k → ¬ k = b := fun k hk e => by have := hk9 k hk; have := hL8.blk.lt; omega
  have ho10' := ho9.frm F10 hb9
  refine postings_c hL10.rd g4.small.fits fun a11 n11 c11 w11 ho11 hk11 E11 => ?_
  have hL11 := hL10.ext E11
  refine audit_c (ho11.rd encPosting) fun a12 n12 c12 w12 ho12 hk12 E12 => ?_
  rw [al8.1]
  have hL12 := hL11.ext E12
  have E12' := (E10.ext E11).ext E12
  have r9 := ((ho10'.ext E11).ext E12).rd encAmount
  refine ifb_t (ifb_t (ifb_t (ifb_t (ifb_t (ifb_t (ifb_t (ifb_t (r9.ix (by omega) (by omega) fun p1 x1 hp1 hx1 hc1 => ⟨_, hc1.at 1 rfl, ?_⟩))))))))
  have hx1' : x1.N = 2 := by
    have := congrArg (fun l => l[0]?) al6.2.1
    simp only [List.getElem?_map] at this
    rw [show (Mc.refund 21 9 4).2.2[0]? = some x1 from hx1] at this
    exact Option.some.inj this
  rw [hx1']
  refine ifb_t (r9.ix (by omega) (by omega) fun p2 x2 hp2 hx2 hc2 => ⟨_, hc2.at 1 rfl, ?_⟩)
  have hx2' : x2.N = 5 := by
    have := congrArg (fun l => l[1]?) al6.2.1
    simp only [List.getElem?_map] at this
    rw [show (Mc.refund 21 9 4).2.2[1]? = some x2 from hx2] at this
    exact Option.some.inj this
  rw [hx2']
  refine ifb_t (ifb_t (ifb_t (ifb_t ?_)))
  refine trial_c hL12.rd (by have := g4.postings; omega) fun a13 n13 c13 w13 ho13 hk13 E13 => ?_
  have h12 := ((ho12.ext E13).rd encLine)
  refine sameLines_c h12 (ho13.rd encLine) (by have h1 := h12.1; rw [al8.2.2] at h1; have h2 := trial_len Me 21; have := g4.postings; simp only [maxLen]; omega) fun w14 E14 => ?_
  rw [decide_eq_true al8.2.2]
  refine ifb_t ?_
  have := hQ w14 ((E12'.ext E13).ext E14)
  rw [show decide (((n12 : Nat) : Int) > 0) = true from decide_eq_true (by have := ho12.1; have := al8.2.1; omega)]
  exact this
end Go.Proofs.YtcbijkakoepglaaGreat
namespace Go.Proofs.YtcbijkakoepglaaGreat
open Go Go.Wx
/-- true, and all that was there is as it was. -/
def Yes (w : World) (v : Value) (w' : World) : Prop := v = vb true ∧ Ext w w'
theorem Cl.yes {n : Nat} {args : Array Value} {w : World} (h : Cl Pg n args w (fun v w' => ∃ r, v = vb r ∧ (r = true ∧ Ext w w'))) : Cl Pg n args w (Yes w) := h.mono fun _ _ ⟨_, h1, h2, h3⟩ => ⟨by rw [h1, h2], h3⟩
end Go.Proofs.YtcbijkakoepglaaGreat
