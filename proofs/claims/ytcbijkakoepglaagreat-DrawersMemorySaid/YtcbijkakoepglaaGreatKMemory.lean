/- The law DrawersMemory holds. Conditions: none. -/
import Derived.Test.YtcbijkakoepglaaGreatKB6
import Derived.Test.YtcbijkakoepglaaGreatRows
import Derived.JoinedOf
set_option linter.all false
namespace Go.Proofs.YtcbijkakoepglaaGreat
open Go Go.Wx
set_option maxRecDepth 100000
def law06_DrawersMemory.l4 (Q : Bool → World → Prop) (goods_a : Option Addr) (goods_n : Nat) (goods_c : Nat) (day : Int) (r1 : Option Addr) (a1_a : Option Addr) (a1_n : Nat) (a1_c : Nat) (r7_a : Option Addr) (r7_n : Nat) (a2_a : Option Addr) (a2_n : Nat) (a2_c : Nat) (a3_a : Option Addr) (a3_n : Nat) (a3_c : Nat) (a4_a : Option Addr) (a4_n : Nat) (a4_c : Nat) : Nat → Int → World → Prop
       | 0, _, _ => False
       | nl4 + 1, v4, w21 => (
       Ifb (decide (v4 < ((r7_n : Nat) : Int)))
      (Ix r7_a r7_n v4 fun p4 =>
      St w21 (Addr.add (Addr.add p4 (v4.toNat * 4)) 3) ([vi 0]) fun w22 =>
      (law06_DrawersMemory.l4 Q goods_a goods_n goods_c day r1 a1_a a1_n a1_c r7_a r7_n a2_a a2_n a2_c a3_a a3_n a3_c a4_a a4_n a4_c nl4) (IntKind.wrap .i64 (v4 + (1 : Int))) w22)
      (Cl Pg 18 #[] w21 (fun v w23 => ∃ (r8 : Bool), v = vb r8 ∧ Ifb r8
      (Cl Pg 36 #[vl a1_a a1_n a1_c, vl goods_a goods_n goods_c] w23 (fun v w24 => ∃ (r9 : Bool), v = vb r9 ∧ Ifb r9
      (Cl Pg 26 #[vP r1] w24 (fun v w25 => ∃ (r10_a : Option Addr), ∃ (r10_n : Nat), ∃ (r10_c : Nat), v = vl r10_a r10_n r10_c ∧ Cl Pg 37 #[vl a2_a a2_n a2_c, vl r10_a r10_n r10_c] w25 (fun v w26 => ∃ (r11 : Bool), v = vb r11 ∧ Ifb r11
      (Cl Pg 28 #[vP r1, vi 7] w26 (fun v w27 => ∃ (r12_a : Option Addr), ∃ (r12_n : Nat), ∃ (r12_c : Nat), v = vl r12_a r12_n r12_c ∧ Cl Pg 38 #[vl a3_a a3_n a3_c, vl r12_a r12_n r12_c] w27 (fun v w28 => ∃ (r13 : Bool), v = vb r13 ∧ Ifb r13
      (Cl Pg 25 #[vP r1, vi day] w28 (fun v w29 => ∃ (r14_a : Option Addr), ∃ (r14_n : Nat), ∃ (r14_c : Nat), v = vl r14_a r14_n r14_c ∧ Cl Pg 21 #[vl a4_a a4_n a4_c, vl r14_a r14_n r14_c] w29 (fun v w30 => ∃ (r15 : Bool), v = vb r15 ∧ Q r15 w30)))
      (Q false w28))))
      (Q false w26))))
      (Q false w24)))
      (Q false w23))))
def law06_DrawersMemory.l3 (Q : Bool → World → Prop) (goods_a : Option Addr) (goods_n : Nat) (goods_c : Nat) (day : Int) (r1 : Option Addr) (a1_a : Option Addr) (a1_n : Nat) (a1_c : Nat) (r6_a : Option Addr) (r6_n : Nat) (r7_a : Option Addr) (r7_n : Nat) (r7_c : Nat) (a2_a : Option Addr) (a2_n : Nat) (a2_c : Nat) (a3_a : Option Addr) (a3_n : Nat) (a3_c : Nat) : Nat → Int → World → Prop
       | 0, _, _ => False
       | nl3 + 1, v3, w17 => (
       Ifb (decide (v3 < ((r6_n : Nat) : Int)))
      (Ix r6_a r6_n v3 fun p3 =>
      St w17 (Addr.add (Addr.add p3 (v3.toNat * 10)) 7) ([vi (-5)]) fun w18 =>
      (law06_DrawersMemory.l3 Q goods_a goods_n goods_c day r1 a1_a a1_n a1_c r6_a r6_n r7_a r7_n r7_c a2_a a2_n a2_c a3_a a3_n a3_c nl3) (IntKind.wrap .i64 (v3 + (1 : Int))) w18)
      (Al w17 (.cells #[] 49) fun b4 w19 =>
      Ap Pg w19 #[24, 24] 24 (vl (some ⟨b4, 0, none⟩) 0 0) (vl r7_a r7_n r7_c) fun a4_a a4_n a4_c w20 =>
      ∃ k, law06_DrawersMemory.l4 Q goods_a goods_n goods_c day r1 a1_a a1_n a1_c r7_a r7_n a2_a a2_n a2_c a3_a a3_n a3_c a4_a a4_n a4_c k 0 w20))
def law06_DrawersMemory.l2 (Q : Bool → World → Prop) (goods_a : Option Addr) (goods_n : Nat) (goods_c : Nat) (day : Int) (r1 : Option Addr) (a1_a : Option Addr) (a1_n : Nat) (a1_c : Nat) (r5_a : Option Addr) (r5_n : Nat) (r6_a : Option Addr) (r6_n : Nat) (r6_c : Nat) (r7_a : Option Addr) (r7_n : Nat) (r7_c : Nat) (a2_a : Option Addr) (a2_n : Nat) (a2_c : Nat) : Nat → Int → World → Prop
       | 0, _, _ => False
       | nl2 + 1, v2, w13 => (
       Ifb (decide (v2 < ((r5_n : Nat) : Int)))
      (Ix r5_a r5_n v2 fun p2 =>
      St w13 (Addr.add p2 (v2.toNat * 9)) ([vi 0, vs (ByteArray.mk #[]), vi 0, vu 0, vi 0, vu 0, vi 0, vu 0, vi 0]) fun w14 =>
      (law06_DrawersMemory.l2 Q goods_a goods_n goods_c day r1 a1_a a1_n a1_c r5_a r5_n r6_a r6_n r6_c r7_a r7_n r7_c a2_a a2_n a2_c nl2) (IntKind.wrap .i64 (v2 + (1 : Int))) w14)
      (Al w13 (.cells #[] 45) fun b3 w15 =>
      Ap Pg w15 #[46, 46] 46 (vl (some ⟨b3, 0, none⟩) 0 0) (vl r6_a r6_n r6_c) fun a3_a a3_n a3_c w16 =>
      ∃ k, law06_DrawersMemory.l3 Q goods_a goods_n goods_c day r1 a1_a a1_n a1_c r6_a r6_n r7_a r7_n r7_c a2_a a2_n a2_c a3_a a3_n a3_c k 0 w16))
def law06_DrawersMemory.l1 (Q : Bool → World → Prop) (goods_a : Option Addr) (goods_n : Nat) (goods_c : Nat) (day : Int) (r1 : Option Addr) (a1_a : Option Addr) (a1_n : Nat) (a1_c : Nat) (r3_a : Option Addr) (r3_n : Nat) : Nat → Int → World → Prop
       | 0, _, _ => False
       | nl1 + 1, v1, w6 => (
       Ifb (decide (v1 < ((r3_n : Nat) : Int)))
      (Ix r3_a r3_n v1 fun p1 =>
      St w6 (Addr.add p1 (v1.toNat * 1)) ([vi (-1)]) fun w7 =>
      (law06_DrawersMemory.l1 Q goods_a goods_n goods_c day r1 a1_a a1_n a1_c r3_a r3_n nl1) (IntKind.wrap .i64 (v1 + (1 : Int))) w7)
      (Cl Pg 26 #[vP r1] w6 (fun v w8 => ∃ (r5_a : Option Addr), ∃ (r5_n : Nat), ∃ (r5_c : Nat), v = vl r5_a r5_n r5_c ∧ Cl Pg 28 #[vP r1, vi 7] w8 (fun v w9 => ∃ (r6_a : Option Addr), ∃ (r6_n : Nat), ∃ (r6_c : Nat), v = vl r6_a r6_n r6_c ∧ Cl Pg 25 #[vP r1, vi day] w9 (fun v w10 => ∃ (r7_a : Option Addr), ∃ (r7_n : Nat), ∃ (r7_c : Nat), v = vl r7_a r7_n r7_c ∧ Al w10 (.cells #[] 42) fun b2 w11 =>
      Ap Pg w11 #[22, 22] 22 (vl (some ⟨b2, 0, none⟩) 0 0) (vl r5_a r5_n r5_c) fun a2_a a2_n a2_c w12 =>
      ∃ k, law06_DrawersMemory.l2 Q goods_a goods_n goods_c day r1 a1_a a1_n a1_c r5_a r5_n r6_a r6_n r6_c r7_a r7_n r7_c a2_a a2_n a2_c k 0 w12)))))
def law06_DrawersMemory.R (Q : Bool → World → Prop) (script_a : Option Addr) (script_n : Nat) (script_c : Nat) (goods_a : Option Addr) (goods_n : Nat) (goods_c : Nat) (day : Int) (w : World) : Prop := (
  Cl Pg 22 #[vl script_a script_n script_c] w (fun v w1 => ∃ (r1 : Option Addr), v = vP r1 ∧ Ifb (r1.isNone || (decide (((goods_n : Nat) : Int) > (10 : Int))))
      (Cl Pg 18 #[] w1 (fun v w2 => ∃ (r2 : Bool), v = vb r2 ∧ Q (r2 && ((decide (((script_n : Nat) : Int) > (60 : Int))) || (decide (((goods_n : Nat) : Int) > (10 : Int))))) w2))
      (Al w1 (.cells #[] 58) fun b1 w3 =>
      Ap Pg w3 #[53, 53] 53 (vl (some ⟨b1, 0, none⟩) 0 0) (vl goods_a goods_n goods_c) fun a1_a a1_n a1_c w4 =>
      Cl Pg 35 #[vP r1, vi day, vi 7, vi 3, vl goods_a goods_n goods_c] w4 (fun v w5 => ∃ (r3_a : Option Addr), ∃ (r3_n : Nat), ∃ (r3_c : Nat), ∃ (r4 : Int), v = .tuple #[vl r3_a r3_n r3_c, vi r4] ∧ ∃ k, law06_DrawersMemory.l1 Q goods_a goods_n goods_c day r1 a1_a a1_n a1_c r3_a r3_n k 0 w5))))
theorem law06_DrawersMemory.ok {Q : Bool → World → Prop} {script_a : Option Addr} {script_n : Nat} {script_c : Nat} {goods_a : Option Addr} {goods_n : Nat} {goods_c : Nat} {day : Int} {w : World} (h : law06_DrawersMemory.R Q script_a script_n script_c goods_a goods_n goods_c day w) : Cl Pg 8 #[vl script_a script_n script_c, vl goods_a goods_n goods_c, vi day] w (fun v w' => ∃ (r0 : Bool), v = vb r0 ∧ Q r0 w') := by
 refine calls_args (args := [vl script_a script_n script_c, vl goods_a goods_n goods_c, vi day]) Tryz.func8 ?_
 unfold law06_DrawersMemory.R at h
 refine W_regseq ?_
 refine ps 1 [(6, vb false)] ?_
 refine WO_nil ?_
 refine W_regseq ?_
 refine ps 1 [(21, vl script_a script_n script_c)] ?_
 refine cl h ?_
 rintro _ w1 ⟨r1, rfl, h⟩
 refine ps 1 [(7, vP r1)] ?_
 refine WO_nil ?_
 refine W_seq ?_
 refine W_regseq ?_
 refine ps 1 [(23, vP r1)] ?_
 refine WO_p rfl rfl (v := vb r1.isNone) (ex_eqlnil_ptr_l (by kernel_rfl) rfl rfl rfl) ?_
 refine ps 1 [(25, vb r1.isNone)] ?_
 refine WO_conv (fun e w_ => ∃ (e0 : Env), e = upds e0 [(0, vl script_a script_n script_c), (1, vl goods_a goods_n goods_c), (2, vi day), (7, vP r1), (29, vb (r1.isNone || (decide (((goods_n : Nat) : Int) > (10 : Int)))))] ∧ w1 = w_) ?_ ?_
 ·clear h
  refine WO_case 25 (b := r1.isNone) rfl (fun hb0 => ?_) (fun hb0 => ?_)
  ·refine ps 4 [(26, undef), (27, undef), (28, undef), (29, vb true)] ?_
   exact WO_nil ⟨_, Agree.eq ⟨rfl, rfl, rfl, rfl, (by first | rfl | (simp only [hb0, Bool.true_and, Bool.false_and, Bool.true_or, Bool.false_or, Bool.and_true, Bool.and_false, Bool.or_true, Bool.or_false]; done) | (simp only [hb0]; rfl) | (simp [hb0]; done)), trivial⟩, rfl⟩
  ·refine ps 4 [(26, vl goods_a goods_n goods_c), (27, vi (goods_n : Nat)), (28, vb (decide (((goods_n : Nat) : Int) > (10 : Int)))), (29, vb (decide (((goods_n : Nat) : Int) > (10 : Int))))] ?_
   exact WO_nil ⟨_, Agree.eq ⟨rfl, rfl, rfl, rfl, (by first | rfl | (simp only [hb0, Bool.true_and, Bool.false_and, Bool.true_or, Bool.false_or, Bool.and_true, Bool.and_false, Bool.or_true, Bool.or_false]; done) | (simp only [hb0]; rfl) | (simp [hb0]; done)), trivial⟩, rfl⟩
 ·rintro _ _ ⟨e0, rfl, rfl⟩
  refine ci h (fun h => ?_) fun h => ?_
  ·refine W_regseq ?_
   refine cl h ?_
   rintro _ w2 ⟨r2, rfl, h⟩
   refine ps 1 [(31, vb r2)] ?_
   refine WO_conv (fun e w_ => ∃ (e0 : Env), e = upds e0 [(6, vb (r2 && ((decide (((script_n : Nat) : Int) > (60 : Int))) || (decide (((goods_n : Nat) : Int) > (10 : Int))))))] ∧ w2 = w_) ?_ ?_
   ·clear h
    refine WO_case 31 (b := r2) rfl (fun hb0 => ?_) (fun hb0 => ?_)
    ·refine ps 4 [(32, vl script_a script_n script_c), (33, vi (script_n : Nat)), (34, vb (decide (((script_n : Nat) : Int) > (60 : Int)))), (35, vb (decide (((script_n : Nat) : Int) > (60 : Int))))] ?_
     refine WO_case 35 (b := decide (((script_n : Nat) : Int) > (60 : Int))) rfl (fun hb1 => ?_) (fun hb1 => ?_)
     ·refine ps 6 [(36, undef), (37, undef), (38, undef), (39, vb true), (40, vb true), (6, vb true)] ?_
      exact WO_nil ⟨_, Agree.eq ⟨(by first | rfl | (simp only [hb0, hb1, Bool.true_and, Bool.false_and, Bool.true_or, Bool.false_or, Bool.and_true, Bool.and_false, Bool.or_true, Bool.or_false]; done) | (simp only [hb0, hb1]; rfl) | (simp [hb0, hb1]; done)), trivial⟩, rfl⟩
     ·refine ps 6 [(36, vl goods_a goods_n goods_c), (37, vi (goods_n : Nat)), (38, vb (decide (((goods_n : Nat) : Int) > (10 : Int)))), (39, vb (decide (((goods_n : Nat) : Int) > (10 : Int)))), (40, vb (decide (((goods_n : Nat) : Int) > (10 : Int)))), (6, vb (decide (((goods_n : Nat) : Int) > (10 : Int))))] ?_
      exact WO_nil ⟨_, Agree.eq ⟨(by first | rfl | (simp only [hb0, hb1, Bool.true_and, Bool.false_and, Bool.true_or, Bool.false_or, Bool.and_true, Bool.and_false, Bool.or_true, Bool.or_false]; done) | (simp only [hb0, hb1]; rfl) | (simp [hb0, hb1]; done)), trivial⟩, rfl⟩
    ·refine ps 10 [(32, undef), (33, undef), (34, undef), (35, undef), (36, undef), (37, undef), (38, undef), (39, undef), (40, vb false), (6, vb false)] ?_
     exact WO_nil ⟨_, Agree.eq ⟨(by first | rfl | (simp only [hb0, Bool.true_and, Bool.false_and, Bool.true_or, Bool.false_or, Bool.and_true, Bool.and_false, Bool.or_true, Bool.or_false]; done) | (simp only [hb0]; rfl) | (simp [hb0]; done)), trivial⟩, rfl⟩
   ·rintro _ _ ⟨e0, rfl, rfl⟩
    refine W_ret ?_
    refine seqK_ret ?_
    exact ret1 (v := vb (r2 && ((decide (((script_n : Nat) : Int) > (60 : Int))) || (decide (((goods_n : Nat) : Int) > (10 : Int)))))) (t := 6) rfl rfl ⟨_, rfl, h⟩
  ·refine W_skip ?_
   refine W_regseq ?_
   refine als 0 h ?_
   intro b1 w3 eb ew hb_b1 h
   clear eb ew hb_b1
   refine ps 1 [(42, vl goods_a goods_n goods_c)] ?_
   refine ap h ?_
   rintro a1_a a1_n a1_c w4 h
   refine ps 1 [(8, vl a1_a a1_n a1_c)] ?_
   refine WO_nil ?_
   refine W_regseq ?_
   refine ps 3 [(45, vP r1), (46, vi day), (47, vl goods_a goods_n goods_c)] ?_
   refine cl h ?_
   rintro _ w5 ⟨r3_a, r3_n, r3_c, r4, rfl, h⟩
   refine ps 5 [(44, .tuple #[vl r3_a r3_n r3_c, vi r4]), (49, vl r3_a r3_n r3_c), (50, vi r4), (9, vl r3_a r3_n r3_c), (10, vi r4)] ?_
   refine WO_nil ?_
   refine W_seq ?_
   refine W_regseq ?_
   refine ps 3 [(51, vl r3_a r3_n r3_c), (52, vi (r3_n : Nat)), (53, vi 0)] ?_
   refine WO_nil ?_
   refine W_block ?_
   obtain ⟨nl1, h⟩ := h
   refine W_loopI (fun k e w6 => ∃ (e0 : Env) (v1 : Int), e = upds e0 [(1, vl goods_a goods_n goods_c), (2, vi day), (7, vP r1), (8, vl a1_a a1_n a1_c), (9, vl r3_a r3_n r3_c), (52, vi (r3_n : Nat)), (53, vi v1)] ∧ law06_DrawersMemory.l1 Q goods_a goods_n goods_c day r1 a1_a a1_n a1_c r3_a r3_n k v1 w6) nl1 ?_ ?_ ?_
   ·rintro _ _ ⟨_, _, _, h⟩
    exact h
   ·exact ⟨_, 0, Agree.eq ⟨rfl, rfl, rfl, rfl, rfl, rfl, rfl, trivial⟩, h⟩
   ·clear h nl1
    rintro nl1 _ w6 ⟨e0, v1, rfl, h⟩
    unfold law06_DrawersMemory.l1 at h
    refine W_regseq ?_
    refine ps 1 [(54, vb (decide (v1 < ((r3_n : Nat) : Int))))] ?_
    refine WO_nil ?_
    refine W_seq ?_
    refine ci h (fun h => ?_) fun h => ?_
    ·refine W_skip ?_
     refine W_seq ?_
     refine W_block ?_
     refine W_regseq ?_
     refine ps 2 [(55, vi v1), (11, vi v1)] ?_
     refine WO_nil ?_
     refine W_reg ?_
     refine ps 2 [(56, vl r3_a r3_n r3_c), (57, vi v1)] ?_
     refine ix slk63 h fun p1 h => ?_
     refine st tk3 h ?_
     rintro w7 h
     refine WO_nil ?_
     refine blockK_normal ?_
     refine W_reg ?_
     refine ps 2 [(59, vi (IntKind.wrap .i64 (v1 + (1 : Int)))), (53, vi (IntKind.wrap .i64 (v1 + (1 : Int))))] ?_
     refine WO_nil ?_
     exact ⟨_, IntKind.wrap .i64 (v1 + (1 : Int)), Agree.eq ⟨rfl, rfl, rfl, rfl, rfl, rfl, rfl, trivial⟩, h⟩
    ·refine W_exit ?_
     refine blockK_hit ?_
     refine W_regseq ?_
     refine ps 1 [(60, vP r1)] ?_
     refine cl h ?_
     rintro _ w8 ⟨r5_a, r5_n, r5_c, rfl, h⟩
     refine ps 1 [(62, vP r1)] ?_
     refine cl h ?_
     rintro _ w9 ⟨r6_a, r6_n, r6_c, rfl, h⟩
     refine ps 2 [(64, vP r1), (65, vi day)] ?_
     refine cl h ?_
     rintro _ w10 ⟨r7_a, r7_n, r7_c, rfl, h⟩
     refine ps 3 [(12, vl r5_a r5_n r5_c), (13, vl r6_a r6_n r6_c), (14, vl r7_a r7_n r7_c)] ?_
     refine WO_nil ?_
     refine W_regseq ?_
     refine als 0 h ?_
     intro b2 w11 eb ew hb_b2 h
     clear eb ew hb_b2
     refine ps 1 [(68, vl r5_a r5_n r5_c)] ?_
     refine ap h ?_
     rintro a2_a a2_n a2_c w12 h
     refine ps 1 [(15, vl a2_a a2_n a2_c)] ?_
     refine WO_nil ?_
     refine W_seq ?_
     refine W_regseq ?_
     refine ps 3 [(70, vl r5_a r5_n r5_c), (71, vi (r5_n : Nat)), (72, vi 0)] ?_
     refine WO_nil ?_
     refine W_block ?_
     obtain ⟨nl2, h⟩ := h
     refine W_loopI (fun k e w13 => ∃ (e0 : Env) (v2 : Int), e = upds e0 [(1, vl goods_a goods_n goods_c), (2, vi day), (7, vP r1), (8, vl a1_a a1_n a1_c), (12, vl r5_a r5_n r5_c), (13, vl r6_a r6_n r6_c), (14, vl r7_a r7_n r7_c), (15, vl a2_a a2_n a2_c), (71, vi (r5_n : Nat)), (72, vi v2)] ∧ law06_DrawersMemory.l2 Q goods_a goods_n goods_c day r1 a1_a a1_n a1_c r5_a r5_n r6_a r6_n r6_c r7_a r7_n r7_c a2_a a2_n a2_c k v2 w13) nl2 ?_ ?_ ?_
     ·rintro _ _ ⟨_, _, _, h⟩
      exact h
     ·exact ⟨_, 0, Agree.eq ⟨rfl, rfl, rfl, rfl, rfl, rfl, rfl, rfl, rfl, rfl, trivial⟩, h⟩
     ·clear h nl2
      rintro nl2 _ w13 ⟨e0, v2, rfl, h⟩
      unfold law06_DrawersMemory.l2 at h
      refine W_regseq ?_
      refine ps 1 [(73, vb (decide (v2 < ((r5_n : Nat) : Int))))] ?_
      refine WO_nil ?_
      refine W_seq ?_
      refine ci h (fun h => ?_) fun h => ?_
      ·refine W_skip ?_
       refine W_seq ?_
       refine W_block ?_
       refine W_regseq ?_
       refine ps 2 [(74, vi v2), (16, vi v2)] ?_
       refine WO_nil ?_
       refine W_reg ?_
       refine ps 3 [(75, vl r5_a r5_n r5_c), (76, vi v2), (77, vg [vi 0, vs (ByteArray.mk #[]), vi 0, vu 0, vi 0, vu 0, vi 0, vu 0, vi 0])] ?_
       refine ix slk22 h fun p2 h => ?_
       refine st tk42 h ?_
       rintro w14 h
       refine WO_nil ?_
       refine blockK_normal ?_
       refine W_reg ?_
       refine ps 2 [(79, vi (IntKind.wrap .i64 (v2 + (1 : Int)))), (72, vi (IntKind.wrap .i64 (v2 + (1 : Int))))] ?_
       refine WO_nil ?_
       exact ⟨_, IntKind.wrap .i64 (v2 + (1 : Int)), Agree.eq ⟨rfl, rfl, rfl, rfl, rfl, rfl, rfl, rfl, rfl, rfl, trivial⟩, h⟩
      ·refine W_exit ?_
       refine blockK_hit ?_
       refine W_regseq ?_
       refine als 0 h ?_
       intro b3 w15 eb ew hb_b3 h
       clear eb ew hb_b3
       refine ps 1 [(81, vl r6_a r6_n r6_c)] ?_
       refine ap h ?_
       rintro a3_a a3_n a3_c w16 h
       refine ps 1 [(17, vl a3_a a3_n a3_c)] ?_
       refine WO_nil ?_
       refine W_seq ?_
       refine W_regseq ?_
       refine ps 3 [(83, vl r6_a r6_n r6_c), (84, vi (r6_n : Nat)), (85, vi 0)] ?_
       refine WO_nil ?_
       refine W_block ?_
       obtain ⟨nl3, h⟩ := h
       refine W_loopI (fun k e w17 => ∃ (e0 : Env) (v3 : Int), e = upds e0 [(1, vl goods_a goods_n goods_c), (2, vi day), (7, vP r1), (8, vl a1_a a1_n a1_c), (13, vl r6_a r6_n r6_c), (14, vl r7_a r7_n r7_c), (15, vl a2_a a2_n a2_c), (17, vl a3_a a3_n a3_c), (84, vi (r6_n : Nat)), (85, vi v3)] ∧ law06_DrawersMemory.l3 Q goods_a goods_n goods_c day r1 a1_a a1_n a1_c r6_a r6_n r7_a r7_n r7_c a2_a a2_n a2_c a3_a a3_n a3_c k v3 w17) nl3 ?_ ?_ ?_
       ·rintro _ _ ⟨_, _, _, h⟩
        exact h
       ·exact ⟨_, 0, Agree.eq ⟨rfl, rfl, rfl, rfl, rfl, rfl, rfl, rfl, rfl, rfl, trivial⟩, h⟩
       ·clear h nl3
        rintro nl3 _ w17 ⟨e0, v3, rfl, h⟩
        unfold law06_DrawersMemory.l3 at h
        refine W_regseq ?_
        refine ps 1 [(86, vb (decide (v3 < ((r6_n : Nat) : Int))))] ?_
        refine WO_nil ?_
        refine W_seq ?_
        refine ci h (fun h => ?_) fun h => ?_
        ·refine W_skip ?_
         refine W_seq ?_
         refine W_block ?_
         refine W_regseq ?_
         refine ps 2 [(87, vi v3), (18, vi v3)] ?_
         refine WO_nil ?_
         refine W_reg ?_
         refine ps 2 [(88, vl r6_a r6_n r6_c), (89, vi v3)] ?_
         refine ix slk46 h fun p3 h => ?_
         refine ps 1 [(91, vp (Addr.add (Addr.add p3 (v3.toNat * 10)) 7))] ?_
         refine st tk3 h ?_
         rintro w18 h
         refine WO_nil ?_
         refine blockK_normal ?_
         refine W_reg ?_
         refine ps 2 [(92, vi (IntKind.wrap .i64 (v3 + (1 : Int)))), (85, vi (IntKind.wrap .i64 (v3 + (1 : Int))))] ?_
         refine WO_nil ?_
         exact ⟨_, IntKind.wrap .i64 (v3 + (1 : Int)), Agree.eq ⟨rfl, rfl, rfl, rfl, rfl, rfl, rfl, rfl, rfl, rfl, trivial⟩, h⟩
        ·refine W_exit ?_
         refine blockK_hit ?_
         refine W_regseq ?_
         refine als 0 h ?_
         intro b4 w19 eb ew hb_b4 h
         clear eb ew hb_b4
         refine ps 1 [(94, vl r7_a r7_n r7_c)] ?_
         refine ap h ?_
         rintro a4_a a4_n a4_c w20 h
         refine ps 1 [(19, vl a4_a a4_n a4_c)] ?_
         refine WO_nil ?_
         refine W_seq ?_
         refine W_regseq ?_
         refine ps 3 [(96, vl r7_a r7_n r7_c), (97, vi (r7_n : Nat)), (98, vi 0)] ?_
         refine WO_nil ?_
         refine W_block ?_
         obtain ⟨nl4, h⟩ := h
         refine W_loopI (fun k e w21 => ∃ (e0 : Env) (v4 : Int), e = upds e0 [(1, vl goods_a goods_n goods_c), (2, vi day), (7, vP r1), (8, vl a1_a a1_n a1_c), (14, vl r7_a r7_n r7_c), (15, vl a2_a a2_n a2_c), (17, vl a3_a a3_n a3_c), (19, vl a4_a a4_n a4_c), (97, vi (r7_n : Nat)), (98, vi v4)] ∧ law06_DrawersMemory.l4 Q goods_a goods_n goods_c day r1 a1_a a1_n a1_c r7_a r7_n a2_a a2_n a2_c a3_a a3_n a3_c a4_a a4_n a4_c k v4 w21) nl4 ?_ ?_ ?_
         ·rintro _ _ ⟨_, _, _, h⟩
          exact h
         ·exact ⟨_, 0, Agree.eq ⟨rfl, rfl, rfl, rfl, rfl, rfl, rfl, rfl, rfl, rfl, trivial⟩, h⟩
         ·clear h nl4
          rintro nl4 _ w21 ⟨e0, v4, rfl, h⟩
          unfold law06_DrawersMemory.l4 at h
          refine W_regseq ?_
          refine ps 1 [(99, vb (decide (v4 < ((r7_n : Nat) : Int))))] ?_
          refine WO_nil ?_
          refine W_seq ?_
          refine ci h (fun h => ?_) fun h => ?_
          ·refine W_skip ?_
           refine W_seq ?_
           refine W_block ?_
           refine W_regseq ?_
           refine ps 2 [(100, vi v4), (20, vi v4)] ?_
           refine WO_nil ?_
           refine W_reg ?_
           refine ps 2 [(101, vl r7_a r7_n r7_c), (102, vi v4)] ?_
           refine ix slk24 h fun p4 h => ?_
           refine ps 1 [(104, vp (Addr.add (Addr.add p4 (v4.toNat * 4)) 3))] ?_
           refine st tk3 h ?_
           rintro w22 h
           refine WO_nil ?_
           refine blockK_normal ?_
           refine W_reg ?_
           refine ps 2 [(105, vi (IntKind.wrap .i64 (v4 + (1 : Int)))), (98, vi (IntKind.wrap .i64 (v4 + (1 : Int))))] ?_
           refine WO_nil ?_
           exact ⟨_, IntKind.wrap .i64 (v4 + (1 : Int)), Agree.eq ⟨rfl, rfl, rfl, rfl, rfl, rfl, rfl, rfl, rfl, rfl, trivial⟩, h⟩
          ·refine W_exit ?_
           refine blockK_hit ?_
           refine W_regseq ?_
           refine cl h ?_
           rintro _ w23 ⟨r8, rfl, h⟩
           refine ps 1 [(107, vb r8)] ?_
           refine cs 107 h (fun h => ?_) fun h => ?_
           ·refine ps 2 [(108, vl a1_a a1_n a1_c), (109, vl goods_a goods_n goods_c)] ?_
            refine cl h ?_
            rintro _ w24 ⟨r9, rfl, h⟩
            refine ps 2 [(111, vb r9), (112, vb r9)] ?_
            refine cs 112 h (fun h => ?_) fun h => ?_
            ·refine ps 2 [(113, vl a2_a a2_n a2_c), (114, vP r1)] ?_
             refine cl h ?_
             rintro _ w25 ⟨r10_a, r10_n, r10_c, rfl, h⟩
             refine cl h ?_
             rintro _ w26 ⟨r11, rfl, h⟩
             refine ps 2 [(117, vb r11), (118, vb r11)] ?_
             refine cs 118 h (fun h => ?_) fun h => ?_
             ·refine ps 2 [(119, vl a3_a a3_n a3_c), (120, vP r1)] ?_
              refine cl h ?_
              rintro _ w27 ⟨r12_a, r12_n, r12_c, rfl, h⟩
              refine cl h ?_
              rintro _ w28 ⟨r13, rfl, h⟩
              refine ps 2 [(123, vb r13), (124, vb r13)] ?_
              refine cs 124 h (fun h => ?_) fun h => ?_
              ·refine ps 3 [(125, vl a4_a a4_n a4_c), (126, vP r1), (127, vi day)] ?_
               refine cl h ?_
               rintro _ w29 ⟨r14_a, r14_n, r14_c, rfl, h⟩
               refine cl h ?_
               rintro _ w30 ⟨r15, rfl, h⟩
               refine ps 2 [(130, vb r15), (6, vb r15)] ?_
               refine WO_nil ?_
               refine W_ret ?_
               exact ret1 (v := vb r15) (t := 6) rfl rfl ⟨_, rfl, h⟩
              ·refine ps 7 [(125, undef), (126, undef), (127, undef), (128, undef), (129, undef), (130, vb false), (6, vb false)] ?_
               refine WO_nil ?_
               refine W_ret ?_
               exact ret1 (v := vb false) (t := 6) rfl rfl ⟨_, rfl, h⟩
             ·refine ps 13 [(119, undef), (120, undef), (121, undef), (122, undef), (123, vb false), (124, vb false), (125, undef), (126, undef), (127, undef), (128, undef), (129, undef), (130, vb false), (6, vb false)] ?_
              refine WO_nil ?_
              refine W_ret ?_
              exact ret1 (v := vb false) (t := 6) rfl rfl ⟨_, rfl, h⟩
            ·refine ps 19 [(113, undef), (114, undef), (115, undef), (116, undef), (117, vb false), (118, vb false), (119, undef), (120, undef), (121, undef), (122, undef), (123, vb false), (124, vb false), (125, undef), (126, undef), (127, undef), (128, undef), (129, undef), (130, vb false), (6, vb false)] ?_
             refine WO_nil ?_
             refine W_ret ?_
             exact ret1 (v := vb false) (t := 6) rfl rfl ⟨_, rfl, h⟩
           ·refine ps 24 [(108, undef), (109, undef), (110, undef), (111, vb false), (112, vb false), (113, undef), (114, undef), (115, undef), (116, undef), (117, vb false), (118, vb false), (119, undef), (120, undef), (121, undef), (122, undef), (123, vb false), (124, vb false), (125, undef), (126, undef), (127, undef), (128, undef), (129, undef), (130, vb false), (6, vb false)] ?_
            refine WO_nil ?_
            refine W_ret ?_
            exact ret1 (v := vb false) (t := 6) rfl rfl ⟨_, rfl, h⟩
end Go.Proofs.YtcbijkakoepglaaGreat
namespace Go.Proofs.YtcbijkakoepglaaGreat
open Go Go.Wx
/-- a ledger's region without blocks of whole numbers. -/
theorem Led.noInts {w : World} {R : Nat → Prop} {b : Nat} {st : Tstate} {M : MState} (h : Led w R b st M) : Led w (fun k => R k ∧ ∃ cur T, At w k (.cells cur T (0, 0)) ∧ T ≠ 3) b st M := by
  obtain ⟨h1, h2, h3⟩ := h
  refine ⟨h1, ⟨h2.day, ?_, h2.terms, h2.lots, h2.postings, fun k hk => ⟨h2.rUnits k hk, ?_⟩, fun k hk => ⟨h2.rTerms k hk, ?_⟩, fun k hk => ⟨h2.rLots k hk, ?_⟩, fun k hk => ⟨h2.rPostings k hk, ?_⟩, fun k hk => h2.rLt k hk.1⟩, fun hb => h3 hb.1⟩
  · obtain ⟨ts, k1, k2, k3, k4⟩ := h2.units
    refine ⟨ts, k1, k2, fun i t u ht hu => ?_, k4⟩
    obtain ⟨q1, q2, q3, q4⟩ := k3 i t u ht hu
    refine ⟨q1, q2, q3, fun k hk => ⟨q4 k hk, ?_⟩⟩
    obtain ⟨cur, hc⟩ := q3.at k hk
    exact ⟨cur, 175, hc, by decide⟩
  · obtain ⟨ts, k1, _⟩ := h2.units
    obtain ⟨cur, hc⟩ := k1.at k hk
    exact ⟨cur, 150, hc, by decide⟩
  · obtain ⟨cur, hc⟩ := h2.terms.at k hk
    exact ⟨cur, 152, hc, by decide⟩
  · obtain ⟨cur, hc⟩ := h2.lots.at k hk
    exact ⟨cur, 45, hc, by decide⟩
  · obtain ⟨cur, hc⟩ := h2.postings.at k hk
    exact ⟨cur, 42, hc, by decide⟩
theorem Addr_add0 (a : Addr) (k : Nat) : Addr.add (Addr.add a k) 0 = Addr.add a k := by rw [add_add, Nat.add_zero]
theorem own_lt {α : Type} {T sz : Nat} {enc : α → List Value} {w : World} {a : Option Addr} {n c : Nat} {xs : List α} (h : Own T sz enc w a n c xs) : ∀ k, obk a c = some k → k < w.heap.size := fun k hk => by
  obtain ⟨cur, hc⟩ := h.at k hk
  exact hc.lt
/-- a loop that stores into each element. -/
theorem stores {α : Type} {T sz : Nat} {enc : α → List Value} (he : ∀ x, (enc x).length = sz) {a : Option Addr} {n c : Nat} {j : Nat} {vs : List Value} {upd : α → α} (hj : j + vs.length ≤ sz) (hn : n ≤ maxLen)
    (hv : ∀ x r, r < sz → (enc (upd x))[r]? = if j ≤ r ∧ r < j + vs.length then vs[r - j]? else (enc x)[r]?) {w0 : World} {xs0 : List α} (h0 : Own T sz enc w0 a n c xs0) {L : Nat → Int → World → Prop}
    (hs : ∀ m (i : Nat) w', i < n → (∀ p, a = some p → St w' (Addr.add (Addr.add p (i * sz)) j) vs fun w'' => L m (IntKind.wrap .i64 ((i : Nat) + 1)) w'') → Ix a n (i : Nat) (fun p => St w' (Addr.add (Addr.add p ((i : Int).toNat * sz)) j) vs fun w'' => L m (IntKind.wrap .i64 ((i : Nat) + 1)) w'') → L (m + 1) (i : Nat) w')
    (hz : ∀ w' xs, Own T sz enc w' a n c xs → Frm (fun k => obk a c = some k) w0 w' → L 1 (n : Nat) w') : L (n + 1) ((0 : Nat) : Int) w0 := by
  have key : ∀ m (i : Nat) w' xs, i + m = n → Own T sz enc w' a n c xs → Frm (fun k => obk a c = some k) w0 w' → L (m + 1) (i : Nat) w' := by
    intro m
    induction m with
    | zero =>
      intro i w' xs hi ho F
      obtain rfl : i = n := by omega
      exact hz w' xs ho F
    | succ m ih =>
      intro i w' xs hi ho F
      have hlt : i < n := by omega
      have hx : xs[i]? = some (xs[i]'(by rw [← ho.1]; exact hlt)) := List.getElem?_eq_getElem _
      have st : ∀ p, a = some p → St w' (Addr.add (Addr.add p (i * sz)) j) vs fun w'' => L (m + 1) (IntKind.wrap .i64 ((i : Nat) + 1)) w'' := fun p hp =>
        st_own he ho (upd (xs[i]'(by rw [← ho.1]; exact hlt))) hx hj (hv _) hp fun w'' ho' F' => by
          rw [wrap_succ (n := n) (by omega) (by omega) hn]
          exact ih (i + 1) w'' _ (by omega) ho' (F.trans' F')
      refine hs (m + 1) i w' hlt st ((ho.rd he).ix (by omega) (by omega) fun p x hp _ _ => ?_)
      rw [Int.toNat_natCast]
      exact st p hp
  exact key n 0 w0 xs0 (by omega) h0 (Frm.refl _ _)
theorem lawMemory_c {w : World} {a ga : Option Addr} {n c gn gc : Nat} {ms : List MOp} {gs : List TAmount} (ho : OpsIs w a n ms) (hg : Rd TAmount.enc 2 w ga gn gs) {day : Int} : Cl Pg 8 #[vl a n c, vl ga gn gc, vi day] w (Yes w) := by
  refine Cl.yes (law06_DrawersMemory.ok (Q := fun b w' => b = true ∧ Ext w w') ?_)
  by_cases hlong : n ≤ 60
  case neg =>
    refine played_long (by omega) (ifb_t (alive_c fun w3 E3 => ⟨?_, E3⟩))
    rw [decide_eq_true (show ((n : Nat) : Int) > 60 by omega)]; rfl
  have hl1 := ho.len
  refine played_c ho hlong fun b w2 R st hL hb hR E2 => ?_
  by_cases hg10 : gn ≤ 10
  case neg =>
    rw [decide_eq_true (show ((gn : Nat) : Int) > 10 by omega), Bool.or_true]
    refine ifb_t (alive_c fun w3 E3 => ⟨?_, E2.ext E3⟩)
    rw [Bool.or_true]; rfl
  rw [decide_eq_false (show ¬ ((gn : Nat) : Int) > 10 by omega)]
  have hGK : GoodK n (M0.runs ms) := by have := good_runs ms good_M0; rw [Nat.zero_add, ← hl1] at this; exact this
  have hG := hGK.good (by omega)
  generalize M0.runs ms = M at *
  have lb := hL.blk.lt
  refine ifb_f (al_f E2 fun b1 w3 hb1 hat1 E3 e3 g3 => ap_own (T := 58) (sz := 2) (enc := TAmount.enc) ap53 encAmount (fun x => oneAll rfl) Own.nil' (hg.ext E3) (by omega) (by simp only [maxLen]; omega) fun a1 c1 w4 ho1 F4 hb4 => ?_)
  have e4 : Ext w3 w4 := F4.mono fun k _ h => by simp [obk] at h
  have E4 := E3.ext e4
  have hL4 := (hL.ext e3).ext e4
  have hk1 : ∀ k, obk a1 c1 = some k → w3.heap.size ≤ k := fun k hk => (hb4 k hk).resolve_left (by simp [obk])
  refine deposit_c hL4 hG (hg.ext E4) (by simp only [maxLen]; omega) fun r3a r3n r3c w5 R5 st5 hL5 hR5 F5 hids hk3 => ⟨r3n + 1, ?_⟩
  have hG5 : Good (M.deposit day 7 3 gs).2.1 := by
    have h1 := good_run hGK ⟨4, day, ByteArray.empty, ByteArray.empty, 7, 3, 0, gs, []⟩
    have e : (M.run ⟨4, day, ByteArray.empty, ByteArray.empty, 7, 3, 0, gs, []⟩).2 = (M.deposit day 7 3 gs).2.1 := by
      unfold MState.run
      rw [if_neg (show ¬ (4 : Int) = 0 by decide), if_neg (show ¬ (4 : Int) = 1 by decide), if_neg (show ¬ (4 : Int) = 2 by decide), if_neg (show ¬ (4 : Int) = 3 by decide), if_pos rfl]
    rw [e] at h1
    exact h1.good (by omega)
  generalize (M.deposit day 7 3 gs).2.1 = M5 at *
  generalize (M.deposit day 7 3 gs).2.2 = ids at *
  have hF5 := hG5.small.fits
  have hS5 : M5.postings.length ≤ 40000 := by have := hG5.postings; omega
  have s4 := e3.size
  have s34 := e4.size
  have s5 := F5.size
  have E5 : Ext w w5 := Frm.trans E4 F5 fun k hk e => by have e : k = b := e; omega
  have l1 := own_lt ho1
  have ho1 := ho1.frm F5 fun k hk e => by have := hk1 k hk; have e : k = b := e; omega
  have hL5 := hL5.noInts
  have lb5 := hL5.blk.lt
  have n3b : obk r3a r3c ≠ some b := hids.neT hL5.blk (by simp [tyO])
  have lids := own_lt hids
  have r3n10 : r3n ≤ maxLen := by
    rcases hids.2 with ⟨_, h⟩ | ⟨_, _, _, _, h, h', _⟩
    · simp only [maxLen]; omega
    · omega
  refine stores (T := 3) (sz := 1) (enc := encI) (j := 0) (vs := [vi (-1)]) (upd := fun _ => -1) (fun _ => rfl) (by simp) r3n10 (fun x r hr => ?_) hids (L := law06_DrawersMemory.l1 (fun b w' => b = true ∧ Ext w w') ga gn gc day (some ⟨b, 0, none⟩) a1 (0 + gn) c1 r3a r3n) (fun m i w' hi hst hix => ?_) fun w6 xs6 hids6 F6 => ?_
  · obtain rfl : r = 0 := by omega
    rfl
  · unfold law06_DrawersMemory.l1
    refine ifb_dt (by omega) ?_
    have := hix
    simp only [Addr_add0] at this
    exact this
  unfold law06_DrawersMemory.l1
  have E6 : Ext w w6 := Frm.trans E5 F6 fun k hk e => by have := hk3 k e; omega
  have s6 := F6.size
  have hL6 := hL5.frm F6 (fun k hk e => by
    obtain ⟨_, cur, T, hat, hT⟩ := hk
    exact hids.neT hat (fun h => hT (by simpa [tyO] using h)) e) n3b
  have ho1 := ho1.frm F6 fun k hk e => by have := hk3 k e; have := l1 k hk; omega
  have hRlt := hL6.free.rLt
  have lb6 := hL6.blk.lt
  have hgo : True := trivial
  refine ifb_df (by omega) (postings_c hL6.rd hF5 fun r5a r5n r5c w8 ho5 hk5 e8 => lots_c (hL6.ext e8).rd hF5 fun r6a r6n r6c w9 ho6 hk6 e9 => trial_c ((hL6.ext e8).ext e9).rd hS5 fun r7a r7n r7c w10 ho7 hk7 e10 => al_f (((E6.ext e8).ext e9).ext e10) fun b2 w11 hb2 hat11 E11 e11 g11 => ?_)
  have s8 := e8.size
  have s9 := e9.size
  have s10 := e10.size
  have s11 := e11.size
  have l5 := own_lt ho5
  have l6 := own_lt ho6
  have l7 := own_lt ho7
  have ll5 : r5n ≤ 20000 := by rw [ho5.1]; exact hG5.postings
  have ll6 : r6n ≤ 2000 := by rw [ho6.1]; exact Nat.le_trans (List.length_filter_le _ _) hG5.lots
  have ll7 : r7n ≤ 40000 := by rw [ho7.1]; have := trial_len M5 day; have := hG5.postings; omega
  have ho5 := ((ho5.ext e9).ext e10).ext e11
  have ho6 := (ho6.ext e10).ext e11
  have ho7 := ho7.ext e11
  have e611 : Ext w6 w11 := ((e8.trans e9).trans e10).trans e11
  have hL11 := hL6.ext e611
  have ho1 := ho1.ext e611
  refine ap_own (T := 42) (sz := 9) (enc := TPosting.enc) ap22 encPosting (fun x => oneAll rfl) Own.nil' (ho5.rd encPosting) (by omega) (by simp only [maxLen]; omega) fun a2 c2 w12 ho2 F12 hb12 => ⟨r5n + 1, ?_⟩
  have e12 : Ext w11 w12 := F12.mono fun k _ h => by simp [obk] at h
  have hk2 : ∀ k, obk a2 c2 = some k → w11.heap.size ≤ k := fun k hk => (hb12 k hk).resolve_left (by simp [obk])
  have s12 := e12.size
  have l2 := own_lt ho2
  have E12 := E11.ext e12
  have hL12 := hL11.ext e12
  have ho5 := ho5.ext e12
  have ho6 := ho6.ext e12
  have ho7 := ho7.ext e12
  have ho1 := ho1.ext e12
  refine stores (T := 42) (sz := 9) (enc := TPosting.enc) (j := 0) (vs := [vi 0, vs (ByteArray.mk #[]), vi 0, vu 0, vi 0, vu 0, vi 0, vu 0, vi 0]) (upd := fun _ => ⟨0, ByteArray.mk #[], 0, 0, 0, 0, 0, 0, 0⟩) encPosting (by simp) (by simp only [maxLen]; omega) (fun x r hr => ?_) ho5 (L := law06_DrawersMemory.l2 (fun b w' => b = true ∧ Ext w w') ga gn gc day (some ⟨b, 0, none⟩) a1 (0 + gn) c1 r5a r5n r6a r6n r6c r7a r7n r7c a2 (0 + r5n) c2) (fun m i w' hi hst hix => ?_) fun w13 xs13 ho5' F13 => ?_
  · match r, hr with
    | 0, _ => rfl
    | 1, _ => rfl
    | 2, _ => rfl
    | 3, _ => rfl
    | 4, _ => rfl
    | 5, _ => rfl
    | 6, _ => rfl
    | 7, _ => rfl
    | 8, _ => rfl
  · unfold law06_DrawersMemory.l2
    refine ifb_dt (by omega) ?_
    have := hix
    simp only [Addr_add0] at this
    exact this
  unfold law06_DrawersMemory.l2
  have E13 : Ext w w13 := Frm.trans E12 F13 fun k hk e => by have := hk5 k e; have := E6.size; omega
  have s13 := F13.size
  have hL13 := hL12.frm F13 (fun k hk e => by have := hRlt k hk; have := hk5 k e; omega) (fun e => by have := hk5 _ e; omega)
  have ho1 := ho1.frm F13 fun k hk e => by have := hk5 k e; have := l1 k hk; omega
  have ho2 := ho2.frm F13 fun k hk e => by have := l5 k e; have := hk2 k hk; omega
  have ho6 := ho6.frm F13 fun k hk e => by have := l5 k e; have := hk6 k hk; omega
  have ho7 := ho7.frm F13 fun k hk e => by have := l5 k e; have := hk7 k hk; omega
  refine ifb_df (by omega) (al_f E13 fun b3 w15 hb3 hat15 E15 e15 g15 => ap_own (T := 45) (sz := 10) (enc := TLot.enc) ap46 encLot (fun x => oneAll rfl) Own.nil' ((ho6.ext e15).rd encLot) (by omega) (by simp only [maxLen]; omega) fun a3 c3 w16 ho3 F16 hb16 => ⟨r6n + 1, ?_⟩)
  have e16 : Ext w15 w16 := F16.mono fun k _ h => by simp [obk] at h
  have hk3' : ∀ k, obk a3 c3 = some k → w15.heap.size ≤ k := fun k hk => (hb16 k hk).resolve_left (by simp [obk])
  have e1316 := e15.trans e16
  have s16 := e1316.size
  have s15 := e15.size
  have l3 := own_lt ho3
  have E16 := E13.ext e1316
  have hL16 := hL13.ext e1316
  have ho1 := ho1.ext e1316
  have ho2 := ho2.ext e1316
  have ho6 := ho6.ext e1316
  have ho7 := ho7.ext e1316
  refine stores (T := 45) (sz := 10) (enc := TLot.enc) (j := 7) (vs := [vi (-5)]) (upd := fun x => { x with Left := -5 }) encLot (by simp) (by simp only [maxLen]; omega) (fun x r hr => ?_) ho6 (L := law06_DrawersMemory.l3 (fun b w' => b = true ∧ Ext w w') ga gn gc day (some ⟨b, 0, none⟩) a1 (0 + gn) c1 r6a r6n r7a r7n r7c a2 (0 + r5n) c2 a3 (0 + r6n) c3) (fun m i w' hi hst hix => ?_) fun w17 xs17 ho6' F17 => ?_
  · match r, hr with
    | 0, _ => rfl
    | 1, _ => rfl
    | 2, _ => rfl
    | 3, _ => rfl
    | 4, _ => rfl
    | 5, _ => rfl
    | 6, _ => rfl
    | 7, _ => rfl
    | 8, _ => rfl
    | 9, _ => rfl
  · unfold law06_DrawersMemory.l3
    exact ifb_dt (by omega) hix
  unfold law06_DrawersMemory.l3
  have E17 : Ext w w17 := Frm.trans E16 F17 fun k hk e => by have := hk6 k e; have := E6.size; omega
  have s17 := F17.size
  have hL17 := hL16.frm F17 (fun k hk e => by have := hRlt k hk; have := hk6 k e; omega) (fun e => by have := hk6 _ e; omega)
  have ho1 := ho1.frm F17 fun k hk e => by have := hk6 k e; have := l1 k hk; omega
  have ho2 := ho2.frm F17 fun k hk e => by have := l6 k e; have := hk2 k hk; omega
  have ho3 := ho3.frm F17 fun k hk e => by have := l6 k e; have := hk3' k hk; omega
  have ho7 := ho7.frm F17 fun k hk e => by have := l6 k e; have := hk7 k hk; omega
  refine ifb_df (by omega) (al_f E17 fun b4 w19 hb4' hat19 E19 e19 g19 => ap_own (T := 49) (sz := 4) (enc := TTrialLine.enc) ap24 encLine (fun x => oneAll rfl) Own.nil' ((ho7.ext e19).rd encLine) (by omega) (by simp only [maxLen]; omega) fun a4 c4 w20 ho4 F20 hb20 => ⟨r7n + 1, ?_⟩)
  have e20 : Ext w19 w20 := F20.mono fun k _ h => by simp [obk] at h
  have hk4 : ∀ k, obk a4 c4 = some k → w19.heap.size ≤ k := fun k hk => (hb20 k hk).resolve_left (by simp [obk])
  have e1720 := e19.trans e20
  have s19 := e19.size
  have E20 := E17.ext e1720
  have hL20 := hL17.ext e1720
  have ho1 := ho1.ext e1720
  have ho2 := ho2.ext e1720
  have ho3 := ho3.ext e1720
  have ho7 := ho7.ext e1720
  refine stores (T := 49) (sz := 4) (enc := TTrialLine.enc) (j := 3) (vs := [vi 0]) (upd := fun x => { x with N := 0 }) encLine (by simp) (by simp only [maxLen]; omega) (fun x r hr => ?_) ho7 (L := law06_DrawersMemory.l4 (fun b w' => b = true ∧ Ext w w') ga gn gc day (some ⟨b, 0, none⟩) a1 (0 + gn) c1 r7a r7n a2 (0 + r5n) c2 a3 (0 + r6n) c3 a4 (0 + r7n) c4) (fun m i w' hi hst hix => ?_) fun w21 xs21 ho7' F21 => ?_
  · match r, hr with
    | 0, _ => rfl
    | 1, _ => rfl
    | 2, _ => rfl
    | 3, _ => rfl
  · unfold law06_DrawersMemory.l4
    exact ifb_dt (by omega) hix
  unfold law06_DrawersMemory.l4
  have E21 : Ext w w21 := Frm.trans E20 F21 fun k hk e => by have := hk7 k e; have := E6.size; omega
  have hL21 := hL20.frm F21 (fun k hk e => by have := hRlt k hk; have := hk7 k e; omega) (fun e => by have := hk7 _ e; omega)
  have ho1 := ho1.frm F21 fun k hk e => by have := hk7 k e; have := l1 k hk; omega
  have ho2 := ho2.frm F21 fun k hk e => by have := l7 k e; have := hk2 k hk; omega
  have ho3 := ho3.frm F21 fun k hk e => by have := l7 k e; have := hk3' k hk; omega
  have ho4 := ho4.frm F21 fun k hk e => by have := l7 k e; have := hk4 k hk; omega
  refine ifb_df (by omega) (alive_c fun w23 e23 => ifb_t (sameAmounts_c ((ho1.ext e23).rd encAmount) (hg.ext (E21.ext e23)) (by simp only [maxLen]; omega) fun w24 e24 => ?_))
  rw [decide_eq_true (List.nil_append gs)]
  have e2124 := e23.trans e24
  refine ifb_t (postings_c (hL21.ext e2124).rd hF5 fun a10 n10 c10 w25 ho10 hk10 e25 => samePostings_c (((ho2.ext e2124).ext e25).rd encPosting) (ho10.rd encPosting) (by simp only [maxLen]; omega) fun w26 e26 => ?_)
  rw [decide_eq_true (List.nil_append M5.postings)]
  have e2126 := (e2124.trans e25).trans e26
  refine ifb_t (lots_c (hL21.ext e2126).rd hF5 fun a12 n12 c12 w27 ho12 hk12 e27 => sameLots_c (((ho3.ext e2126).ext e27).rd encLot) (ho12.rd encLot) (by simp only [maxLen]; omega) fun w28 e28 => ?_)
  rw [decide_eq_true (List.nil_append (M5.lotsOf 7))]
  have e2128 := (e2126.trans e27).trans e28
  refine ifb_t (trial_c (hL21.ext e2128).rd hS5 fun a14 n14 c14 w29 ho14 hk14 e29 => sameLines_c (((ho4.ext e2128).ext e29).rd encLine) (ho14.rd encLine) (by simp only [maxLen]; omega) fun w30 e30 => ⟨?_, E21.ext ((e2128.trans e29).trans e30)⟩)
  rw [decide_eq_true (List.nil_append (M5.trial day))]
end Go.Proofs.YtcbijkakoepglaaGreat
namespace Go.Proofs.YtcbijkakoepglaaGreat
open Go Go.Wx Go.ChangeShapes Go.WideShapes Go.ChangeAt Go.RowKit
theorem open_goods {H : Type} {enc : TypeId × Value → H} {w : World} {base : Nat} {spare : Nat → Bool} {held : Bool} {fuel : Nat} {a : Option Addr} {n c : Nat} {x : DataW H × List MemPlace} (h : DataW.trod enc Pg w base spare held fuel 53 [.slice a n c] = some x) (hw : ∀ m ∈ x.1.weights Pg 53, m ≤ reachBytes) : ∃ gs, Rd TAmount.enc 2 w a n gs := by
  obtain ⟨gs, hg, _, _, _⟩ := open_rows (α := TAmount) (encA := TAmount.enc) (sz := 2) (Ex := fun _ _ => True) Tryz.underlying53 fk58 (by kernel_rfl) (B := 24) (by kernel_rfl) el58 h hw
  exact ⟨gs, hg⟩
end Go.Proofs.YtcbijkakoepglaaGreat
namespace Go.Proofs.YtcbijkakoepglaaGreat
open Go Go.Wx Go.ChangeShapes Go.WideShapes Go.ChangeAt Go.RowKit
open Go.ChangeMaps (open_string shut_string)
set_option maxRecDepth 100000 in
theorem liftedDrawersMemory (os : Os) (started : os.Started) (H : Type) (enc : TypeId × Value → H) :
    ReturnsInHanded {} Tryz.checked os 8 .any (Rows.drawersMemorySpec.pre6 enc Tryz.prog Tryz.f8 Rows.drawersMemoryRow.domain false) (Rows.drawersMemorySpec.post enc Tryz.prog Tryz.f8 false true false false) := by
  refine returnsInHanded_of_change_sized (C := Tryz.checked) own started (by kernel_rfl) Tryz.func8
    (ChangeSpec.witness6 (enc := enc) (C := Tryz.checked) false ⟨#[], #[.slice none 0 0, .slice none 0 0, .int .i64 0], []⟩ 8 (by kernel_rfl) (by kernel_rfl) (by kernel_rfl) (by kernel_rfl)) ?_
  intro W base args ds gs before hval0 hW hcnd hsz0 _
  have hsz : (DataW.weightsEach Tryz.prog (Tryz.f8.params.toList ++ Rows.drawersMemorySpec.plain.varTypes Tryz.prog) (ds ++ gs)).all (· ≤ reachBytes) = true := hsz0
  have hval : ∀ (j : Nat) t v, Tryz.f8.params[j]? = some t → args[j]? = some v → Value.okWide Tryz.prog W .any base t v := hval0
  have hW' := hW
  obtain ⟨p, q, hA0, hV, rfl, hfz, hnd⟩ := hW
  have hA : DataW.TrodAll enc Tryz.prog W 0 (fun _ => true) true Tryz.f8.params.toList args.toList ds p := hA0
  have hA' := hA
  rw [Tryz.params8] at hA hval hsz
  obtain ⟨v0, vs0, d0, ds0, p0, q0, hargs, rfl, rfl, t0, r0⟩ := trodAll_cons hA
  obtain ⟨v1, vs1, d1, ds1, p1, q1, rfl, rfl, rfl, t1, r1⟩ := trodAll_cons r0
  obtain ⟨v2, vs2, d2, ds2, p2, q2, rfl, rfl, rfl, t2, r2⟩ := trodAll_cons r1
  obtain ⟨rfl, rfl, rfl⟩ := trodAll_nil r2
  obtain rfl : args = #[v0, v1, v2] := by cases args; simp_all
  obtain ⟨rfl, rfl⟩ := trodVars_none hV
  obtain ⟨a0, n0, c0, rfl⟩ := okWide_slice Tryz.underlying30 (hval 0 30 v0 rfl rfl)
  have u0 := (weights_of hsz (j := 0) (t := 30) (d := d0) rfl rfl)
  obtain ⟨fu0, hf0⟩ := t0
  obtain ⟨ms0, h0⟩ := open_script hf0 u0
  obtain ⟨a1, n1, c1, rfl⟩ := okWide_slice Tryz.underlying53 (hval 1 53 v1 rfl rfl)
  have u1 := (weights_of hsz (j := 1) (t := 53) (d := d1) rfl rfl)
  obtain ⟨fu1, hf1⟩ := t1
  obtain ⟨gs1, h1⟩ := open_goods hf1 u1
  obtain ⟨x2, rfl, -, -, w2⟩ := open_int Tryz.underlying3 (hval 2 3 v2 rfl rfl) t2
  refine Calls.mono (lawMemory_c h0 h1) fun e W' hy => ?_
  obtain ⟨v, he, hv, bel⟩ := hy
  subst he
  subst hv
  exact ⟨_, rfl, _, _, _, [], _, [], hW', trodAll_mk1 (shut_bool Tryz.underlying4 _), Below.trodAll laidOut bel.below (by kernel_rfl) hA', rfl, bel.below.frame _, fun h => by cases h⟩
theorem named8 : Tryz.checked.prog.funcNamed Rows.drawersMemoryRow.func = some 8 := by kernel_rfl
set_option maxRecDepth 100000 in
set_option maxHeartbeats 20000000 in
theorem facts8 : joinedFacts Tryz.checked.prog 8 Tryz.f8 Rows.drawersMemorySpec Rows.drawersMemoryRow = true := by
  show joinedFacts Tryz.prog 8 Tryz.f8 Rows.drawersMemorySpec Rows.drawersMemoryRow = true
  unfold joinedFacts
  simp only [Bool.and_eq_true]
  repeat' apply And.intro
  all_goals as_aux_lemma => kernel_rfl
theorem inst8 : Tryz.f8.isInstance Tryz.checked.prog Rows.drawersMemoryRow.origin Rows.drawersMemoryRow.targs := of_decide_eq_true (by kernel_rfl)
theorem wrap8 : Tryz.f8.isWrapper Tryz.checked.prog Rows.drawersMemoryRow.wrapper Rows.drawersMemoryRow.mainSum := by unfold Func.isWrapper; first | (rw [if_pos (by decide +kernel)]; kernel_rfl) | (rw [if_neg (by decide +kernel)]; exact ⟨rfl, rfl⟩)
theorem drawersMemory_holds : Rows.DrawersMemorySaid :=
  OpenClaim.holds_of_wide 8 Tryz.f8 rfl rfl rfl rfl rfl rfl rfl ⟨rfl, rfl, rfl, rfl, rfl⟩ rfl rfl rfl rfl rfl named8 Tryz.func8 facts8 inst8 wrap8
    (fun os started H enc _ => liftedDrawersMemory os started H enc)
end Go.Proofs.YtcbijkakoepglaaGreat
