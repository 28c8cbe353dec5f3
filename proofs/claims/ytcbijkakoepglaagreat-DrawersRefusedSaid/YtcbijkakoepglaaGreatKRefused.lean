/- The law DrawersRefused holds. Conditions: none. -/
import Derived.Test.YtcbijkakoepglaaGreatKB6
import Derived.Test.YtcbijkakoepglaaGreatRows
import Derived.JoinedOf
set_option linter.all false
namespace Go.Proofs.YtcbijkakoepglaaGreat
open Go Go.Wx
set_option maxRecDepth 100000
def law06_DrawersRefused.j2 (Q : Bool → World → Prop) (v2 : Int) (kl1 : Int → World → Prop) (v3 : Bool) (w16 : World) : Prop := (
       Ifb v3
      (Q false w16)
      (kl1 (IntKind.wrap .i64 (v2 + (1 : Int))) w16))
def law06_DrawersRefused.l2 (Q : Bool → World → Prop) (r2 : Option Addr) (r3 : Option Addr) : Nat → Int → World → Prop
       | 0, _, _ => False
       | nl2 + 1, v4, w20 => (
       Ifb (decide (v4 < (8 : Int)))
      (Cl Pg 28 #[vP r2, vi v4] w20 (fun v w21 => ∃ (r12_a : Option Addr), ∃ (r12_n : Nat), ∃ (r12_c : Nat), v = vl r12_a r12_n r12_c ∧ Cl Pg 28 #[vP r3, vi v4] w21 (fun v w22 => ∃ (r13_a : Option Addr), ∃ (r13_n : Nat), ∃ (r13_c : Nat), v = vl r13_a r13_n r13_c ∧ Cl Pg 38 #[vl r12_a r12_n r12_c, vl r13_a r13_n r13_c] w22 (fun v w23 => ∃ (r14 : Bool), v = vb r14 ∧ Ifb (!r14)
      (Q false w23)
      ((law06_DrawersRefused.l2 Q r2 r3 nl2) (IntKind.wrap .i64 (v4 + (1 : Int))) w23)))))
      (Cl Pg 18 #[] w20 (fun v w24 => ∃ (r15 : Bool), v = vb r15 ∧ Ifb r15
      (Cl Pg 44 #[vP r2] w24 (fun v w25 => ∃ (r16 : Int), v = vi r16 ∧ Cl Pg 44 #[vP r3] w25 (fun v w26 => ∃ (r17 : Int), v = vi r17 ∧ Ifb (r16 == r17)
      (Cl Pg 26 #[vP r2] w26 (fun v w27 => ∃ (r18_a : Option Addr), ∃ (r18_n : Nat), ∃ (r18_c : Nat), v = vl r18_a r18_n r18_c ∧ Cl Pg 26 #[vP r3] w27 (fun v w28 => ∃ (r19_a : Option Addr), ∃ (r19_n : Nat), ∃ (r19_c : Nat), v = vl r19_a r19_n r19_c ∧ Cl Pg 37 #[vl r18_a r18_n r18_c, vl r19_a r19_n r19_c] w28 (fun v w29 => ∃ (r20 : Bool), v = vb r20 ∧ Q r20 w29))))
      (Q false w26))))
      (Q false w24))))
def law06_DrawersRefused.l1 (Q : Bool → World → Prop) (script_a : Option Addr) (script_n : Nat) (r2 : Option Addr) (r3 : Option Addr) : Nat → Int → World → Prop
       | 0, _, _ => False
       | nl1 + 1, v2, w5 => (
       Ifb (decide (v2 < ((script_n : Nat) : Int)))
      (Ix script_a script_n v2 fun p1 =>
      LdT TOp.enc w5 (Addr.add p1 (v2.toNat * 9)) fun x1 =>
      Al w5 (.cells #[vu 0, vi 0, vs (ByteArray.mk #[]), vs (ByteArray.mk #[]), vi 0, vi 0, vi 0, vl none 0 0, vl none 0 0] 77) fun b1 w6 =>
      Sb w6 b1 (.cells #[vu x1.Kind, vi x1.Day, vs x1.Unit, vs x1.To, vi x1.A, vi x1.B, vi x1.C, vl x1.Goods_a x1.Goods_n x1.Goods_c, vl x1.Lots_a x1.Lots_n x1.Lots_c] 77 (0, 0)) fun w7 =>
      Cl Pg 26 #[vP r2] w7 (fun v w8 => ∃ (r4_a : Option Addr), ∃ (r4_n : Nat), ∃ (r4_c : Nat), v = vl r4_a r4_n r4_c ∧ Kp b1 w7 w8 ∧ Cl Pg 44 #[vP r2] w8 (fun v w9 => ∃ (r5 : Int), v = vi r5 ∧ Kp b1 w8 w9 ∧ Cl Pg 42 #[vP r2, vg (TOp.enc x1)] w9 (fun v w10 => ∃ (r6 : TResult), v = vg (TResult.enc r6) ∧ Kp b1 w9 w10 ∧ Al w10 (.cells #[vi 0, vi 0, vi 0, vl none 0 0, vl none 0 0, vl none 0 0] 80) fun b2 w11 =>
      Sb w11 b2 (.cells #[vi r6.E, vi r6.N, vi r6.M, vl r6.Ints_a r6.Ints_n r6.Ints_c, vl r6.Amounts_a r6.Amounts_n r6.Amounts_c, vl r6.Lots_a r6.Lots_n r6.Lots_c] 80 (0, 0)) fun w12 =>
      Ifb (r6.E == (0 : Int))
      (Dr w12 fun w13 =>
      Cl Pg 42 #[vP r3, vg (TOp.enc x1)] w13 (fun v w14 => ∃ (r7 : TResult), v = vg (TResult.enc r7) ∧ Kp b2 w13 w14 ∧ Cl Pg 41 #[vg (TResult.enc r6), vg (TResult.enc r7)] w14 (fun v w15 => ∃ (r8 : Bool), v = vb r8 ∧ Ifb (!r8)
      (Q false w15)
      ((law06_DrawersRefused.l1 Q script_a script_n r2 r3 nl1) (IntKind.wrap .i64 (v2 + (1 : Int))) w15))))
      (Cl Pg 44 #[vP r2] w12 (fun v w17 => ∃ (r9 : Int), v = vi r9 ∧ Kp b2 w12 w17 ∧ Ifb (r9 != r5)
      (law06_DrawersRefused.j2 Q v2 (law06_DrawersRefused.l1 Q script_a script_n r2 r3 nl1) true w17)
      (Cl Pg 26 #[vP r2] w17 (fun v w18 => ∃ (r10_a : Option Addr), ∃ (r10_n : Nat), ∃ (r10_c : Nat), v = vl r10_a r10_n r10_c ∧ Kp b2 w17 w18 ∧ Cl Pg 37 #[vl r4_a r4_n r4_c, vl r10_a r10_n r10_c] w18 (fun v w19 => ∃ (r11 : Bool), v = vb r11 ∧ Kp b2 w18 w19 ∧ Ifb (!r11)
      (law06_DrawersRefused.j2 Q v2 (law06_DrawersRefused.l1 Q script_a script_n r2 r3 nl1) true w19)
      (Ifb (r6.N != (0 : Int))
      (law06_DrawersRefused.j2 Q v2 (law06_DrawersRefused.l1 Q script_a script_n r2 r3 nl1) true w19)
      (Ifb (r6.M != (0 : Int))
      (law06_DrawersRefused.j2 Q v2 (law06_DrawersRefused.l1 Q script_a script_n r2 r3 nl1) true w19)
      (law06_DrawersRefused.j2 Q v2 (law06_DrawersRefused.l1 Q script_a script_n r2 r3 nl1) ((IntKind.wrap .i64 ((IntKind.wrap .i64 (((r6.Ints_n : Nat) : Int) + ((r6.Amounts_n : Nat) : Int))) + ((r6.Lots_n : Nat) : Int))) != (0 : Int)) w19))))))))))))
      (∃ k, law06_DrawersRefused.l2 Q r2 r3 k 0 w5))
def law06_DrawersRefused.j1 (Q : Bool → World → Prop) (script_a : Option Addr) (script_n : Nat) (r2 : Option Addr) (r3 : Option Addr) (v1 : Bool) (w4 : World) : Prop := (
       Ifb v1
      (Q false w4)
      (∃ k, law06_DrawersRefused.l1 Q script_a script_n r2 r3 k 0 w4))
def law06_DrawersRefused.R (Q : Bool → World → Prop) (script_a : Option Addr) (script_n : Nat) (script_c : Nat) (w : World) : Prop := (
  Ifb (decide (((script_n : Nat) : Int) > (60 : Int)))
      (Cl Pg 18 #[] w (fun v w1 => ∃ (r1 : Bool), v = vb r1 ∧ Q r1 w1))
      (Cl Pg 39 #[] w (fun v w2 => ∃ (r2 : Option Addr), v = vP r2 ∧ Cl Pg 39 #[] w2 (fun v w3 => ∃ (r3 : Option Addr), v = vP r3 ∧ Ifb r2.isNone
      (law06_DrawersRefused.j1 Q script_a script_n r2 r3 true w3)
      (law06_DrawersRefused.j1 Q script_a script_n r2 r3 r3.isNone w3)))))
theorem law06_DrawersRefused.ok {Q : Bool → World → Prop} {script_a : Option Addr} {script_n : Nat} {script_c : Nat} {w : World} (h : law06_DrawersRefused.R Q script_a script_n script_c w) : Cl Pg 11 #[vl script_a script_n script_c] w (fun v w' => ∃ (r0 : Bool), v = vb r0 ∧ Q r0 w') := by
 refine calls_args (args := [vl script_a script_n script_c]) Tryz.func11 ?_
 unfold law06_DrawersRefused.R at h
 refine W_regseq ?_
 refine ps 1 [(2, vb false)] ?_
 refine WO_nil ?_
 refine W_seq ?_
 refine W_regseq ?_
 refine ps 3 [(11, vl script_a script_n script_c), (12, vi (script_n : Nat)), (13, vb (decide (((script_n : Nat) : Int) > (60 : Int))))] ?_
 refine WO_nil ?_
 refine ci h (fun h => ?_) fun h => ?_
 ·refine W_regseq ?_
  refine cl h ?_
  rintro _ w1 ⟨r1, rfl, h⟩
  refine ps 1 [(2, vb r1)] ?_
  refine WO_nil ?_
  refine W_ret ?_
  refine seqK_ret ?_
  exact ret1 (v := vb r1) (t := 2) rfl rfl ⟨_, rfl, h⟩
 ·refine W_skip ?_
  refine W_regseq ?_
  refine cl h ?_
  rintro _ w2 ⟨r2, rfl, h⟩
  refine cl h ?_
  rintro _ w3 ⟨r3, rfl, h⟩
  refine ps 2 [(3, vP r2), (4, vP r3)] ?_
  refine WO_nil ?_
  refine W_seq ?_
  refine W_join (fun e w4 => ∃ (e0 : Env) (v1 : Bool), e = upds e0 [(0, vl script_a script_n script_c), (3, vP r2), (4, vP r3), (22, vb v1)] ∧ law06_DrawersRefused.j1 Q script_a script_n r2 r3 v1 w4) ?_ ?_
  ·refine W_reg ?_
   refine ps 1 [(17, vP r2)] ?_
   refine WO_p rfl rfl (v := vb r2.isNone) (ex_eqlnil_ptr_l (by kernel_rfl) rfl rfl rfl) ?_
   refine ps 1 [(19, vb r2.isNone)] ?_
   refine cs 19 h (fun h => ?_) fun h => ?_
   ·refine ps 3 [(20, undef), (21, undef), (22, vb true)] ?_
    refine WO_nil ?_
    exact ⟨_, true, Agree.eq ⟨rfl, rfl, rfl, rfl, trivial⟩, h⟩
   ·refine ps 1 [(20, vP r3)] ?_
    refine WO_p rfl rfl (v := vb r3.isNone) (ex_eqlnil_ptr_l (by kernel_rfl) rfl rfl rfl) ?_
    refine ps 1 [(22, vb r3.isNone)] ?_
    refine WO_nil ?_
    exact ⟨_, r3.isNone, Agree.eq ⟨rfl, rfl, rfl, rfl, trivial⟩, h⟩
  ·clear h
   rintro _ w4 ⟨e0, v1, rfl, h⟩
   unfold law06_DrawersRefused.j1 at h
   refine ci h (fun h => ?_) fun h => ?_
   ·refine W_regseq ?_
    refine ps 1 [(2, vb false)] ?_
    refine WO_nil ?_
    refine W_ret ?_
    refine seqK_ret ?_
    exact ret1 (v := vb false) (t := 2) rfl rfl ⟨_, rfl, h⟩
   ·refine W_skip ?_
    refine W_seq ?_
    refine W_regseq ?_
    refine ps 3 [(23, vl script_a script_n script_c), (24, vi (script_n : Nat)), (25, vi 0)] ?_
    refine WO_nil ?_
    refine W_block ?_
    obtain ⟨nl1, h⟩ := h
    refine W_loopI (fun k e w5 => ∃ (e0 : Env) (v2 : Int), e = upds e0 [(3, vP r2), (4, vP r3), (23, vl script_a script_n script_c), (24, vi (script_n : Nat)), (25, vi v2)] ∧ law06_DrawersRefused.l1 Q script_a script_n r2 r3 k v2 w5) nl1 ?_ ?_ ?_
    ·rintro _ _ ⟨_, _, _, h⟩
     exact h
    ·exact ⟨_, 0, Agree.eq ⟨rfl, rfl, rfl, rfl, rfl, trivial⟩, h⟩
    ·clear h nl1
     rintro nl1 _ w5 ⟨e0, v2, rfl, h⟩
     unfold law06_DrawersRefused.l1 at h
     refine W_regseq ?_
     refine ps 1 [(26, vb (decide (v2 < ((script_n : Nat) : Int))))] ?_
     refine WO_nil ?_
     refine W_seq ?_
     refine ci h (fun h => ?_) fun h => ?_
     ·refine W_skip ?_
      refine W_seq ?_
      refine W_block ?_
      refine W_regseq ?_
      refine ix slk30 h fun p1 h => ?_
      obtain ⟨x1, hx1, h⟩ := h
      refine ldn tk77 hx1 ?_
      refine alp h ?_
      intro b1 w6 eb ew hb_b1 h
      clear eb ew
      refine sb tk77 hb_b1 h ?_
      intro w7 ew hb_ h
      replace hb_b1 := hb_
      clear ew
      refine WO_nil ?_
      refine W_regseq ?_
      refine ps 1 [(29, vP r2)] ?_
      refine cl h ?_
      rintro _ w8 ⟨r4_a, r4_n, r4_c, rfl, hk0, h⟩
      replace hb_b1 := kp_at hk0 hb_b1
      refine ps 1 [(31, vP r2)] ?_
      refine cl h ?_
      rintro _ w9 ⟨r5, rfl, hk0, h⟩
      replace hb_b1 := kp_at hk0 hb_b1
      refine ps 2 [(7, vl r4_a r4_n r4_c), (8, vi r5)] ?_
      refine WO_nil ?_
      refine W_regseq ?_
      refine ps 1 [(33, vP r2)] ?_
      refine lbn [vu x1.Kind, vi x1.Day, vs x1.Unit, vs x1.To, vi x1.A, vi x1.B, vi x1.C, vl x1.Goods_a x1.Goods_n x1.Goods_c, vl x1.Lots_a x1.Lots_n x1.Lots_c] tk77 hb_b1 ?_
      refine cl h ?_
      rintro _ w10 ⟨r6, rfl, hk0, h⟩
      replace hb_b1 := kp_at hk0 hb_b1
      refine alp h ?_
      intro b2 w11 eb ew hb_b2 h
      have old_hb_b1 := hb_b1
      replace hb_b1 := al_keep ew hb_b1
      have ne_b1_b2 : b1 ≠ b2 := blk_ne old_hb_b1 eb
      clear old_hb_b1
      clear eb ew
      refine sb tk80 hb_b2 h ?_
      intro w12 ew hb_ h
      replace hb_b1 := sb_keep ew ne_b1_b2 hb_b1
      replace hb_b2 := hb_
      clear ew
      refine WO_nil ?_
      refine W_seq ?_
      refine W_regseq ?_
      refine ps 1 [(36, vp ⟨b2, 0, none⟩)] ?_
      refine lb1 tk25 hb_b2 ?_
      refine ps 1 [(38, vb (r6.E == (0 : Int)))] ?_
      refine WO_nil ?_
      refine ci h (fun h => ?_) fun h => ?_
      ·refine W_seq ?_
       refine drs folM [[], [], [], [2], [0, 2], [0, 2]] [.l 0, .p 1, .l 2, .e 3, .e 4, .p 5] h ?_
       intro w13 ew h
       replace hb_b1 := dr_keep ew hb_b1
       replace hb_b2 := dr_keep ew hb_b2
       clear ew
       refine lbnC [vi r6.E, vi r6.N, vi r6.M, vl r6.Ints_a r6.Ints_n r6.Ints_c, vl r6.Amounts_a r6.Amounts_n r6.Amounts_c, vl r6.Lots_a r6.Lots_n r6.Lots_c] tk80 hb_b2 ?_
       refine psC 1 [(40, vP r3)] ?_
       refine lbnC [vu x1.Kind, vi x1.Day, vs x1.Unit, vs x1.To, vi x1.A, vi x1.B, vi x1.C, vl x1.Goods_a x1.Goods_n x1.Goods_c, vl x1.Lots_a x1.Lots_n x1.Lots_c] tk77 hb_b1 ?_
       refine clC h ?_
       rintro _ w14 ⟨r7, rfl, hk0, h⟩
       replace hb_b2 := kp_at hk0 hb_b2
       refine ⟨AllOk.cons (Pend_ok (ex_load rfl rfl (run_loadVarN tk80 (vs := [vi r6.E, vi r6.N, vi r6.M, vl r6.Ints_a r6.Ints_n r6.Ints_c, vl r6.Amounts_a r6.Amounts_n r6.Amounts_c, vl r6.Lots_a r6.Lots_n r6.Lots_c]) rfl (cells_blk hb_b2 rfl)))) <| AllOk.nil, ?_⟩
       refine clC h ?_
       rintro _ w15 ⟨r8, rfl, h⟩
       refine ⟨AllOk.nil, ?_⟩
       refine psC 1 [(44, vb (!r8))] ?_
       refine WC_nil ?_
       refine ci h (fun h => ?_) fun h => ?_
       ·refine W_regseq ?_
        refine ps 1 [(2, vb false)] ?_
        refine WO_nil ?_
        refine W_ret ?_
        refine seqK_ret ?_
        refine seqK_ret ?_
        refine blockK_ret ?_
        refine seqK_ret ?_
        refine seqK_ret ?_
        refine blockK_ret ?_
        refine seqK_ret ?_
        exact ret1 (v := vb false) (t := 2) rfl rfl ⟨_, rfl, h⟩
       ·refine W_skip ?_
        refine W_exit ?_
        refine blockK_hit ?_
        refine W_reg ?_
        refine ps 2 [(80, vi (IntKind.wrap .i64 (v2 + (1 : Int)))), (25, vi (IntKind.wrap .i64 (v2 + (1 : Int))))] ?_
        refine WO_nil ?_
        exact ⟨_, IntKind.wrap .i64 (v2 + (1 : Int)), Agree.eq ⟨rfl, rfl, rfl, rfl, rfl, trivial⟩, h⟩
      ·refine W_skip ?_
       refine W_join (fun e w16 => ∃ (e0 : Env) (v3 : Bool), e = upds e0 [(3, vP r2), (4, vP r3), (23, vl script_a script_n script_c), (24, vi (script_n : Nat)), (25, vi v2), (79, vb v3)] ∧ law06_DrawersRefused.j2 Q v2 (law06_DrawersRefused.l1 Q script_a script_n r2 r3 nl1) v3 w16) ?_ ?_
       ·refine W_reg ?_
        refine ps 1 [(45, vP r2)] ?_
        refine cl h ?_
        rintro _ w17 ⟨r9, rfl, hk0, h⟩
        replace hb_b2 := kp_at hk0 hb_b2
        refine ps 3 [(47, vi r5), (48, vb (r9 != r5)), (49, vb (r9 != r5))] ?_
        refine cs 49 h (fun h => ?_) fun h => ?_
        ·refine ps 30 [(50, undef), (51, undef), (52, undef), (53, undef), (54, undef), (55, vb true), (56, vb true), (57, undef), (58, undef), (59, undef), (60, vb true), (61, vb true), (62, undef), (63, undef), (64, undef), (65, vb true), (66, vb true), (67, undef), (68, undef), (69, undef), (70, undef), (71, undef), (72, undef), (73, undef), (74, undef), (75, undef), (76, undef), (77, undef), (78, undef), (79, vb true)] ?_
         refine WO_nil ?_
         exact ⟨_, true, Agree.eq ⟨rfl, rfl, rfl, rfl, rfl, rfl, trivial⟩, h⟩
        ·refine ps 2 [(50, vl r4_a r4_n r4_c), (51, vP r2)] ?_
         refine cl h ?_
         rintro _ w18 ⟨r10_a, r10_n, r10_c, rfl, hk0, h⟩
         replace hb_b2 := kp_at hk0 hb_b2
         refine cl h ?_
         rintro _ w19 ⟨r11, rfl, hk0, h⟩
         replace hb_b2 := kp_at hk0 hb_b2
         refine ps 3 [(54, vb (!r11)), (55, vb (!r11)), (56, vb (!r11))] ?_
         refine cs 56 h (fun h => ?_) fun h => ?_
         ·refine ps 23 [(57, undef), (58, undef), (59, undef), (60, vb true), (61, vb true), (62, undef), (63, undef), (64, undef), (65, vb true), (66, vb true), (67, undef), (68, undef), (69, undef), (70, undef), (71, undef), (72, undef), (73, undef), (74, undef), (75, undef), (76, undef), (77, undef), (78, undef), (79, vb true)] ?_
          refine WO_nil ?_
          exact ⟨_, true, Agree.eq ⟨rfl, rfl, rfl, rfl, rfl, rfl, trivial⟩, h⟩
         ·refine ps 1 [(57, vp ⟨b2, 1, none⟩)] ?_
          refine lb1 tk3 hb_b2 ?_
          refine ps 3 [(59, vb (r6.N != (0 : Int))), (60, vb (r6.N != (0 : Int))), (61, vb (r6.N != (0 : Int)))] ?_
          refine cs 61 h (fun h => ?_) fun h => ?_
          ·refine ps 18 [(62, undef), (63, undef), (64, undef), (65, vb true), (66, vb true), (67, undef), (68, undef), (69, undef), (70, undef), (71, undef), (72, undef), (73, undef), (74, undef), (75, undef), (76, undef), (77, undef), (78, undef), (79, vb true)] ?_
           refine WO_nil ?_
           exact ⟨_, true, Agree.eq ⟨rfl, rfl, rfl, rfl, rfl, rfl, trivial⟩, h⟩
          ·refine ps 1 [(62, vp ⟨b2, 2, none⟩)] ?_
           refine lb1 tk3 hb_b2 ?_
           refine ps 3 [(64, vb (r6.M != (0 : Int))), (65, vb (r6.M != (0 : Int))), (66, vb (r6.M != (0 : Int)))] ?_
           refine cs 66 h (fun h => ?_) fun h => ?_
           ·refine ps 13 [(67, undef), (68, undef), (69, undef), (70, undef), (71, undef), (72, undef), (73, undef), (74, undef), (75, undef), (76, undef), (77, undef), (78, undef), (79, vb true)] ?_
            refine WO_nil ?_
            exact ⟨_, true, Agree.eq ⟨rfl, rfl, rfl, rfl, rfl, rfl, trivial⟩, h⟩
           ·refine ps 1 [(67, vp ⟨b2, 3, none⟩)] ?_
            refine lb1 tk63 hb_b2 ?_
            refine ps 2 [(69, vi (r6.Ints_n : Nat)), (70, vp ⟨b2, 4, none⟩)] ?_
            refine lb1 tk53 hb_b2 ?_
            refine ps 3 [(72, vi (r6.Amounts_n : Nat)), (73, vi (IntKind.wrap .i64 (((r6.Ints_n : Nat) : Int) + ((r6.Amounts_n : Nat) : Int)))), (74, vp ⟨b2, 5, none⟩)] ?_
            refine lb1 tk46 hb_b2 ?_
            refine ps 4 [(76, vi (r6.Lots_n : Nat)), (77, vi (IntKind.wrap .i64 ((IntKind.wrap .i64 (((r6.Ints_n : Nat) : Int) + ((r6.Amounts_n : Nat) : Int))) + ((r6.Lots_n : Nat) : Int)))), (78, vb ((IntKind.wrap .i64 ((IntKind.wrap .i64 (((r6.Ints_n : Nat) : Int) + ((r6.Amounts_n : Nat) : Int))) + ((r6.Lots_n : Nat) : Int))) != (0 : Int))), (79, vb ((IntKind.wrap .i64 ((IntKind.wrap .i64 (((r6.Ints_n : Nat) : Int) + ((r6.Amounts_n : Nat) : Int))) + ((r6.Lots_n : Nat) : Int))) != (0 : Int)))] ?_
            refine WO_nil ?_
            exact ⟨_, ((IntKind.wrap .i64 ((IntKind.wrap .i64 (((r6.Ints_n : Nat) : Int) + ((r6.Amounts_n : Nat) : Int))) + ((r6.Lots_n : Nat) : Int))) != (0 : Int)), Agree.eq ⟨rfl, rfl, rfl, rfl, rfl, rfl, trivial⟩, h⟩
       ·clear h hb_b1 hb_b2 ne_b1_b2
        rintro _ w16 ⟨e0, v3, rfl, h⟩
        unfold law06_DrawersRefused.j2 at h
        refine ci h (fun h => ?_) fun h => ?_
        ·refine W_regseq ?_
         refine ps 1 [(2, vb false)] ?_
         refine WO_nil ?_
         refine W_ret ?_
         refine blockK_ret ?_
         refine seqK_ret ?_
         refine seqK_ret ?_
         refine blockK_ret ?_
         refine seqK_ret ?_
         exact ret1 (v := vb false) (t := 2) rfl rfl ⟨_, rfl, h⟩
        ·refine W_skip ?_
         refine blockK_normal ?_
         refine W_reg ?_
         refine ps 2 [(80, vi (IntKind.wrap .i64 (v2 + (1 : Int)))), (25, vi (IntKind.wrap .i64 (v2 + (1 : Int))))] ?_
         refine WO_nil ?_
         exact ⟨_, IntKind.wrap .i64 (v2 + (1 : Int)), Agree.eq ⟨rfl, rfl, rfl, rfl, rfl, trivial⟩, h⟩
     ·refine W_exit ?_
      refine blockK_hit ?_
      refine W_seq ?_
      refine W_regseq ?_
      refine ps 1 [(81, vi 0)] ?_
      refine WO_nil ?_
      refine W_block ?_
      obtain ⟨nl2, h⟩ := h
      refine W_loopI (fun k e w20 => ∃ (e0 : Env) (v4 : Int), e = upds e0 [(3, vP r2), (4, vP r3), (81, vi v4)] ∧ law06_DrawersRefused.l2 Q r2 r3 k v4 w20) nl2 ?_ ?_ ?_
      ·rintro _ _ ⟨_, _, _, h⟩
       exact h
      ·exact ⟨_, 0, Agree.eq ⟨rfl, rfl, rfl, trivial⟩, h⟩
      ·clear h nl2
       rintro nl2 _ w20 ⟨e0, v4, rfl, h⟩
       unfold law06_DrawersRefused.l2 at h
       refine W_regseq ?_
       refine ps 1 [(82, vb (decide (v4 < (8 : Int))))] ?_
       refine WO_nil ?_
       refine W_seq ?_
       refine ci h (fun h => ?_) fun h => ?_
       ·refine W_skip ?_
        refine W_seq ?_
        refine W_block ?_
        refine W_regseq ?_
        refine ps 2 [(83, vi v4), (10, vi v4)] ?_
        refine WO_nil ?_
        refine W_regseq ?_
        refine ps 2 [(84, vP r2), (85, vi v4)] ?_
        refine cl h ?_
        rintro _ w21 ⟨r12_a, r12_n, r12_c, rfl, h⟩
        refine ps 2 [(87, vP r3), (88, vi v4)] ?_
        refine cl h ?_
        rintro _ w22 ⟨r13_a, r13_n, r13_c, rfl, h⟩
        refine cl h ?_
        rintro _ w23 ⟨r14, rfl, h⟩
        refine ps 1 [(91, vb (!r14))] ?_
        refine WO_nil ?_
        refine ci h (fun h => ?_) fun h => ?_
        ·refine W_regseq ?_
         refine ps 1 [(2, vb false)] ?_
         refine WO_nil ?_
         refine W_ret ?_
         refine blockK_ret ?_
         refine seqK_ret ?_
         refine seqK_ret ?_
         refine blockK_ret ?_
         refine seqK_ret ?_
         exact ret1 (v := vb false) (t := 2) rfl rfl ⟨_, rfl, h⟩
        ·refine W_skip ?_
         refine blockK_normal ?_
         refine W_reg ?_
         refine ps 2 [(92, vi (IntKind.wrap .i64 (v4 + (1 : Int)))), (81, vi (IntKind.wrap .i64 (v4 + (1 : Int))))] ?_
         refine WO_nil ?_
         exact ⟨_, IntKind.wrap .i64 (v4 + (1 : Int)), Agree.eq ⟨rfl, rfl, rfl, trivial⟩, h⟩
       ·refine W_exit ?_
        refine blockK_hit ?_
        refine W_regseq ?_
        refine cl h ?_
        rintro _ w24 ⟨r15, rfl, h⟩
        refine ps 1 [(94, vb r15)] ?_
        refine cs 94 h (fun h => ?_) fun h => ?_
        ·refine ps 1 [(95, vP r2)] ?_
         refine cl h ?_
         rintro _ w25 ⟨r16, rfl, h⟩
         refine ps 1 [(97, vP r3)] ?_
         refine cl h ?_
         rintro _ w26 ⟨r17, rfl, h⟩
         refine ps 3 [(99, vb (r16 == r17)), (100, vb (r16 == r17)), (101, vb (r16 == r17))] ?_
         refine cs 101 h (fun h => ?_) fun h => ?_
         ·refine ps 1 [(102, vP r2)] ?_
          refine cl h ?_
          rintro _ w27 ⟨r18_a, r18_n, r18_c, rfl, h⟩
          refine ps 1 [(104, vP r3)] ?_
          refine cl h ?_
          rintro _ w28 ⟨r19_a, r19_n, r19_c, rfl, h⟩
          refine cl h ?_
          rintro _ w29 ⟨r20, rfl, h⟩
          refine ps 2 [(107, vb r20), (2, vb r20)] ?_
          refine WO_nil ?_
          refine W_ret ?_
          exact ret1 (v := vb r20) (t := 2) rfl rfl ⟨_, rfl, h⟩
         ·refine ps 7 [(102, undef), (103, undef), (104, undef), (105, undef), (106, undef), (107, vb false), (2, vb false)] ?_
          refine WO_nil ?_
          refine W_ret ?_
          exact ret1 (v := vb false) (t := 2) rfl rfl ⟨_, rfl, h⟩
        ·refine ps 14 [(95, undef), (96, undef), (97, undef), (98, undef), (99, undef), (100, vb false), (101, vb false), (102, undef), (103, undef), (104, undef), (105, undef), (106, undef), (107, vb false), (2, vb false)] ?_
         refine WO_nil ?_
         refine W_ret ?_
         exact ret1 (v := vb false) (t := 2) rfl rfl ⟨_, rfl, h⟩
end Go.Proofs.YtcbijkakoepglaaGreat
namespace Go.Proofs.YtcbijkakoepglaaGreat
open Go Go.Wx

theorem oper_err {M : MState} {day : Int} {g : MState → Int × MState} (h : (M.oper day g).1 ≠ 0) : (M.oper day g).2 = M := by
  unfold MState.oper at h ⊢
  split
  · rfl
  rename_i h1; rw [if_neg h1] at h
  split
  · rfl
  rename_i h2; rw [if_neg h2] at h
  split
  · rfl
  rename_i h3; rw [if_neg h3] at h
  split
  · rfl
  rename_i h4; rw [if_neg h4] at h
  exact absurd rfl h
theorem operO_err {α : Type} {M : MState} {z : α} {day : Int} {g : MState → Int × MState × α} (h : (M.operO z day g).1 ≠ 0) : (M.operO z day g).2 = (M, z) := by
  unfold MState.operO at h ⊢
  split
  · rfl
  rename_i h1; rw [if_neg h1] at h
  split
  · rfl
  rename_i h2; rw [if_neg h2] at h
  split
  · rfl
  rename_i h3; rw [if_neg h3] at h
  split
  · rfl
  rename_i h4; rw [if_neg h4] at h
  exact absurd rfl h
/-- refused: nothing is changed, nothing is returned. -/
theorem run_err {M : MState} {o : MOp} (h : (M.run o).1.e ≠ 0) : (M.run o).2 = M ∧ (M.run o).1.n = 0 ∧ (M.run o).1.m = 0 ∧ (M.run o).1.ints = [] ∧ (M.run o).1.amounts = [] ∧ (M.run o).1.lots = [] := by
  unfold MState.run at h ⊢
  by_cases k0 : o.kind = 0
  · simp only [if_pos k0] at h ⊢
    refine ⟨oper_err h, ?_, ?_, ?_, ?_, ?_⟩ <;> trivial
  by_cases k1 : o.kind = 1
  · simp only [if_neg k0, if_pos k1] at h ⊢
    refine ⟨oper_err h, ?_, ?_, ?_, ?_, ?_⟩ <;> trivial
  by_cases k2 : o.kind = 2
  · simp only [if_neg k0, if_neg k1, if_pos k2] at h ⊢
    refine ⟨oper_err h, ?_, ?_, ?_, ?_, ?_⟩ <;> trivial
  by_cases k3 : o.kind = 3
  · simp only [if_neg k0, if_neg k1, if_neg k2, if_pos k3] at h ⊢
    refine ⟨oper_err h, ?_, ?_, ?_, ?_, ?_⟩ <;> first | trivial | exact if_neg h
  by_cases k4 : o.kind = 4
  · simp only [if_neg k0, if_neg k1, if_neg k2, if_neg k3, if_pos k4] at h ⊢
    have e := operO_err h
    have e1 := congrArg Prod.fst e
    have e2 := congrArg Prod.snd e
    simp only at e1 e2
    refine ⟨e1, ?_, ?_, ?_, ?_, ?_⟩ <;> first | trivial | exact e2 | exact congrArg Prod.fst e2 | exact congrArg Prod.snd e2
  by_cases k5 : o.kind = 5
  · simp only [if_neg k0, if_neg k1, if_neg k2, if_neg k3, if_neg k4, if_pos k5] at h ⊢
    have e := operO_err h
    have e1 := congrArg Prod.fst e
    have e2 := congrArg Prod.snd e
    simp only at e1 e2
    refine ⟨e1, ?_, ?_, ?_, ?_, ?_⟩ <;> first | trivial | exact e2 | exact congrArg Prod.fst e2 | exact congrArg Prod.snd e2
  by_cases k6 : o.kind = 6
  · simp only [if_neg k0, if_neg k1, if_neg k2, if_neg k3, if_neg k4, if_neg k5, if_pos k6] at h ⊢
    have e := operO_err h
    have e1 := congrArg Prod.fst e
    have e2 := congrArg Prod.snd e
    simp only at e1 e2
    refine ⟨e1, ?_, ?_, ?_, ?_, ?_⟩ <;> first | trivial | exact e2 | exact congrArg Prod.fst e2 | exact congrArg Prod.snd e2
  by_cases k7 : o.kind = 7
  · simp only [if_neg k0, if_neg k1, if_neg k2, if_neg k3, if_neg k4, if_neg k5, if_neg k6, if_pos k7] at h ⊢
    have e := operO_err h
    have e1 := congrArg Prod.fst e
    have e2 := congrArg Prod.snd e
    simp only at e1 e2
    refine ⟨e1, ?_, ?_, ?_, ?_, ?_⟩ <;> first | trivial | exact e2 | exact congrArg Prod.fst e2 | exact congrArg Prod.snd e2
  by_cases k8 : o.kind = 8
  · simp only [if_neg k0, if_neg k1, if_neg k2, if_neg k3, if_neg k4, if_neg k5, if_neg k6, if_neg k7, if_pos k8] at h ⊢
    have e := operO_err h
    have e1 := congrArg Prod.fst e
    have e2 := congrArg Prod.snd e
    simp only at e1 e2
    refine ⟨e1, ?_, ?_, ?_, ?_, ?_⟩ <;> first | trivial | exact e2 | exact congrArg Prod.fst e2 | exact congrArg Prod.snd e2
  by_cases k9 : o.kind = 9
  · simp only [if_neg k0, if_neg k1, if_neg k2, if_neg k3, if_neg k4, if_neg k5, if_neg k6, if_neg k7, if_neg k8, if_pos k9] at h ⊢
    have e := operO_err h
    have e1 := congrArg Prod.fst e
    have e2 := congrArg Prod.snd e
    simp only at e1 e2
    refine ⟨e1, ?_, ?_, ?_, ?_, ?_⟩ <;> first | trivial | exact e2 | exact congrArg Prod.fst e2 | exact congrArg Prod.snd e2
  by_cases k10 : o.kind = 10
  · simp only [if_neg k0, if_neg k1, if_neg k2, if_neg k3, if_neg k4, if_neg k5, if_neg k6, if_neg k7, if_neg k8, if_neg k9, if_pos k10] at h ⊢
    have e := operO_err h
    have e1 := congrArg Prod.fst e
    have e2 := congrArg Prod.snd e
    simp only at e1 e2
    refine ⟨e1, ?_, ?_, ?_, ?_, ?_⟩ <;> first | trivial | exact e2 | exact congrArg Prod.fst e2 | exact congrArg Prod.snd e2
  by_cases k11 : o.kind = 11
  · simp only [if_neg k0, if_neg k1, if_neg k2, if_neg k3, if_neg k4, if_neg k5, if_neg k6, if_neg k7, if_neg k8, if_neg k9, if_neg k10, if_pos k11] at h ⊢
    have e := operO_err h
    have e1 := congrArg Prod.fst e
    have e2 := congrArg Prod.snd e
    simp only at e1 e2
    refine ⟨e1, ?_, ?_, ?_, ?_, ?_⟩ <;> first | trivial | exact e2 | exact congrArg Prod.fst e2 | exact congrArg Prod.snd e2
  by_cases k12 : o.kind = 12
  · simp only [if_neg k0, if_neg k1, if_neg k2, if_neg k3, if_neg k4, if_neg k5, if_neg k6, if_neg k7, if_neg k8, if_neg k9, if_neg k10, if_neg k11, if_pos k12] at h ⊢
    have e := operO_err h
    have e1 := congrArg Prod.fst e
    have e2 := congrArg Prod.snd e
    simp only at e1 e2
    refine ⟨e1, ?_, ?_, ?_, ?_, ?_⟩ <;> first | trivial | exact e2 | exact congrArg Prod.fst e2 | exact congrArg Prod.snd e2
  simp only [if_neg k0, if_neg k1, if_neg k2, if_neg k3, if_neg k4, if_neg k5, if_neg k6, if_neg k7, if_neg k8, if_neg k9, if_neg k10, if_neg k11, if_neg k12] at h ⊢
  have e := operO_err h
  have e1 := congrArg Prod.fst e
  have e2 := congrArg Prod.snd e
  simp only at e1 e2
  refine ⟨e1, ?_, ?_, ?_, ?_, ?_⟩ <;> first | trivial | exact e2

theorem lawRefused_c {w : World} {a : Option Addr} {n c : Nat} {ms : List MOp} (ho : OpsIs w a n ms) : Cl Pg 11 #[vl a n c] w (Yes w) := by
  refine Cl.yes (law06_DrawersRefused.ok (Q := fun b w' => b = true ∧ Ext w w') (ifb ?_))
  split
  · exact alive_c fun w' E => ⟨rfl, E⟩
  rename_i hlong
  have hlong : n ≤ 60 := by simp at hlong; omega
  have hn := ho.len
  refine new_c fun bA w1 RA stA hA hbA hRA E1 => new_c fun bB w2 RB stB hB hbB hRB E2 => ifb_f ?_
  have lA := hA.blk.lt
  have lRA := hA.free.rLt
  have hA := hA.ext E2
  have hE := E1.ext E2
  show law06_DrawersRefused.j1 _ a n (some ⟨bA, 0, none⟩) (some ⟨bB, 0, none⟩) false w2
  unfold law06_DrawersRefused.j1
  refine ifb_f ⟨n + 1, ?_⟩
  have fin : ∀ w' RA RB stA stB M, Ext w w' → Led w' RA bA stA M → Led w' RB bB stB M → Good M → ∃ k, law06_DrawersRefused.l2 (fun b w' => b = true ∧ Ext w w') (some ⟨bA, 0, none⟩) (some ⟨bB, 0, none⟩) k 0 w' := by
    intro w' RA RB stA stB M E hA hB hG
    refine ⟨9, ?_⟩
    have hF := hG.small.fits
    have lotsLe : ∀ i, (M.lotsOf i).length ≤ maxLen := fun i => by
      have h1 : (M.lotsOf i).length ≤ M.lots.length := List.length_filter_le _ _
      have h2 := hG.lots
      simp only [maxLen]; omega
    have key : ∀ m i w', i + m = 8 → Ext w w' → Led w' RA bA stA M → Led w' RB bB stB M → law06_DrawersRefused.l2 (fun b w' => b = true ∧ Ext w w') (some ⟨bA, 0, none⟩) (some ⟨bB, 0, none⟩) (m + 1) (i : Nat) w' := by
      intro m
      induction m with
      | zero =>
        intro i w' hi E hA hB
        unfold law06_DrawersRefused.l2
        refine ifb_df (by omega) (alive_c fun w3 E3 => ifb_t (day_c (hA.ext E3).rd (day_c (hB.ext E3).rd ?_)))
        rw [beq_self_eq_true]
        refine ifb_t (postings_c (hA.ext E3).rd hF fun a4 n4 c4 w4 ho4 hk4 E4 => postings_c ((hB.ext E3).ext E4).rd hF fun a5 n5 c5 w5 ho5 hk5 E5 => samePostings_c ((ho4.ext E5).rd encPosting) (ho5.rd encPosting) (by rw [ho4.1]; have := hG.postings; simp only [maxLen]; omega) fun w6 E6 => ⟨by simp, ((E.ext E3).ext E4).ext (E5.ext E6)⟩)
      | succ m ih =>
        intro i w' hi E hA hB
        unfold law06_DrawersRefused.l2
        refine ifb_dt (by omega) (lots_c hA.rd hF fun a4 n4 c4 w4 ho4 hk4 E4 => lots_c (hB.ext E4).rd hF fun a5 n5 c5 w5 ho5 hk5 E5 => sameLots_c ((ho4.ext E5).rd encLot) (ho5.rd encLot) (by rw [ho4.1]; exact lotsLe _) fun w6 E6 => ?_)
        rw [decide_eq_true rfl]
        refine ifb_f ?_
        rw [wrap_succ (n := 8) (by omega) (by omega) (by simp only [maxLen]; omega)]
        exact ih (i + 1) w6 (by omega) (((E.ext E4).ext E5).ext E6) (((hA.ext E4).ext E5).ext E6) (((hB.ext E4).ext E5).ext E6)
    exact key 8 0 w' (by omega) E hA hB
  obtain ⟨hln, os, hos, hop⟩ := ho
  have key : ∀ m i w' RA RB stA stB M, i + m = n → Ext w w' → Led w' RA bA stA M → Led w' RB bB stB M → GoodK i M → (∀ k, RA k → w.heap.size ≤ k) → (∀ k, RB k → w.heap.size ≤ k) → (∀ k, RA k → ¬ RB k) → ¬ RA bB → ¬ RB bA → law06_DrawersRefused.l1 (fun b w' => b = true ∧ Ext w w') a n (some ⟨bA, 0, none⟩) (some ⟨bB, 0, none⟩) (m + 1) (i : Nat) w' := by
    intro m
    induction m with
    | zero =>
      intro i w' RA RB stA stB M hi E hA hB hG hRA hRB hd hAB hBA
      unfold law06_DrawersRefused.l1
      exact ifb_df (by omega) (fin w' RA RB stA stB M E hA hB (hG.good (by omega)))
    | succ m ih =>
      intro i w' RA RB stA stB M hi E hA hB hG hRA hRB hd hAB hBA
      have hGd := hG.good (by omega)
      have hF := hGd.small.fits
      unfold law06_DrawersRefused.l1
      have hlt : i < n := by omega
      refine ifb_dt (by omega) ((hos.ext E).ix (by omega) (by omega) fun a0 o ha hx hc => ⟨o, hc, ?_⟩)
      simp only [Int.toNat_natCast] at hx
      obtain ⟨mo, hmo⟩ : ∃ mo, ms[i]? = some mo := ⟨_, List.getElem?_eq_getElem (by omega)⟩
      have hoi := hop i o mo hx hmo
      have hws : IntKind.wrap .i64 (((i : Nat) : Int) + 1) = ((i + 1 : Nat) : Int) := wrap_succ (n := n) (by omega) (by omega) (by simp only [maxLen]; omega)
      have lA := hA.blk.lt
      have lB := hB.blk.lt
      refine al_f E fun b1 w6 hb1 hat1 E6 e6 g1 => sb_f E6 hat1 hb1 fun w7 hat7 E7 f7 => ?_
      have nA : ¬ bA = b1 := by omega
      have nB : ¬ bB = b1 := by omega
      have hA7 := (hA.ext e6).frm f7 (fun k hk e => by have := hA.free.rLt k hk; omega) nA
      have hB7 := (hB.ext e6).frm f7 (fun k hk e => by have := hB.free.rLt k hk; omega) nB
      refine postings_c hA7.rd hF fun a8 n8 c8 w8 ho8 hk8 E8 => ⟨E8.blk _ hat7.lt id, day_c (hA7.ext E8).rd ⟨rfl, ?_⟩⟩
      have hA8 := hA7.ext E8
      have hB8 := hB7.ext E8
      have E8' := E7.ext E8
      have hat8 := hat7.ext E8
      have lA8 := hA8.blk.lt
      have lB8 := hB8.blk.lt
      refine run_c hA8 hGd (hoi.ext E8') fun r w10 RA' stA' hA10 hRA' F10 hr10 => ⟨F10.blk _ hat8.lt (fun e => by omega), ?_⟩
      have E10 : Ext w w10 := Frm.trans E8' F10 fun k hk e => by omega
      have hB10 := hB8.frm F10 (fun k hk e => hBA (by subst e; exact hk)) (fun e => by omega)
      have ho10 := ho8.frm F10 fun k hk e => by have := hk8 k hk; have := hA7.blk.lt; omega
      have sz10 := F10.size
      refine al_f E10 fun b2 w11 hb2 hat11 E11 e11 g2 => sb_f E11 hat11 hb2 fun w12 hat12 E12 f12 => ?_
      have lA10 := hA10.blk.lt
      have lB10 := hB10.blk.lt
      have hA12 := (hA10.ext e11).frm f12 (fun k hk e => by have := hA10.free.rLt k hk; omega) (by omega)
      have hB12 := (hB10.ext e11).frm f12 (fun k hk e => by have := hB10.free.rLt k hk; omega) (by omega)
      have ho12 := (ho10.ext e11).frm f12 fun k hk e => by obtain ⟨cur, hcc⟩ := ho10.at k hk; have := hcc.lt; omega
      have e1012 : Ext w10 w12 := Frm.trans e11 f12 fun k hk e => by omega
      have hr12 := hr10.frm e1012 fun k hk => hk.elim
      have s12 : w10.heap.size ≤ w12.heap.size := Nat.le_trans e11.size f12.size
      have hnext := good_run hG mo
      refine ifb ?_
      split
      · rename_i hz
        refine dr_f E12 fun w13 E13 e13 => ?_
        have hB13 := hB12.ext e13
        have hA13 := hA12.ext e13
        have s13 := e13.size
        refine run_c hB13 hGd (hoi.ext E13) fun r2 w14 RB' stB' hB14 hRB' F14 hr14 => ⟨F14.blk _ (hat12.ext e13).lt (fun e => by omega), ?_⟩
        have E14 : Ext w w14 := Frm.trans E13 F14 fun k hk e => by omega
        have nRA : ∀ k, RA' k → ¬ k = bB := fun k hk e => (hRA' k hk).elim (fun h => hAB (e ▸ h)) fun h => by omega
        have hA14 := hA13.frm F14 nRA (fun e => by omega)
        refine same_c ((hr12.frm e13 fun k hk => hk.elim).frm F14 fun k hk => .inl (by omega)) hr14 fun w15 E15 => ?_
        rw [decide_eq_true rfl]
        refine ifb_f ?_
        rw [hws]
        refine ih (i + 1) w15 RA' RB' stA' stB' (M.run mo).2 (by omega) (E14.ext E15) (hA14.ext E15) (hB14.ext E15) hnext (fun k hk => (hRA' k hk).elim (hRA k) fun h => by have := E8'.size; omega) (fun k hk => (hRB' k hk).elim (hRB k) fun h => by have := E13.size; omega) ?_ (fun h => nRA _ h rfl) (fun h => (hRB' _ h).elim hBA fun h => by omega)
        intro k hk hk2
        have l1 := hA13.free.rLt k hk
        rcases hRB' k hk2 with h2 | h2
        · have l2 := hB8.free.rLt k h2
          rcases hRA' k hk with h1 | h1
          · exact hd k h1 h2
          · omega
        · omega
      · rename_i hz
        have hne : (M.run mo).1.e ≠ 0 := by rw [← hr10.he]; simpa using hz
        obtain ⟨hM, k1, k2, k3, k4, k5⟩ := run_err hne
        rw [hM] at hA12 hnext
        refine day_c hA12.rd ⟨rfl, ?_⟩
        rw [bne_self_eq_false]
        refine ifb_f (postings_c hA12.rd hF fun a18 n18 c18 w18 ho18 hk18 E18 => ⟨E18.blk _ hat12.lt id, samePostings_c ((ho12.ext E18).rd encPosting) (ho18.rd encPosting) (by rw [ho8.1]; have := hGd.postings; simp only [maxLen]; omega) fun w19 E19 => ⟨E19.blk _ (hat12.ext E18).lt id, ?_⟩⟩)
        rw [decide_eq_true rfl]
        refine ifb_f ?_
        rw [hr10.hn, k1, hr10.hm, k2]
        refine ifb_f (ifb_f ?_)
        have z3 : r.Ints_n = 0 := by rw [hr10.ints.1, k3]; rfl
        have z4 : r.Amounts_n = 0 := by rw [hr10.amounts.1, k4]; rfl
        have z5 : r.Lots_n = 0 := by rw [hr10.lots.1, k5]; rfl
        rw [z3, z4, z5]
        show law06_DrawersRefused.j2 _ (i : Nat) _ false w19
        unfold law06_DrawersRefused.j2
        refine ifb_f ?_
        rw [hws]
        have E1219 : Ext w12 w19 := E18.trans E19
        refine ih (i + 1) w19 RA' RB stA' stB M (by omega) (E12.ext E1219) (hA12.ext E1219) (hB12.ext E1219) hG.up (fun k hk => (hRA' k hk).elim (hRA k) fun h => by have := E8'.size; omega) hRB ?_ (fun h => (hRA' _ h).elim hAB fun h => by omega) hBA
        intro k hk hk2
        have l2 := hB8.free.rLt k hk2
        rcases hRA' k hk with h1 | h1
        · exact hd k h1 hk2
        · omega
  have lR2 := hB.free.rLt
  exact key n 0 w2 RA RB stA stB M0 (by omega) hE hA hB good_M0 hRA (fun k hk => Nat.le_trans E1.size (hRB k hk)) (fun k h1 h2 => by have := lRA k h1; have := hRB k h2; omega) (fun h => by have := lRA _ h; omega) (fun h => by have := hRB _ h; omega)
end Go.Proofs.YtcbijkakoepglaaGreat
namespace Go.Proofs.YtcbijkakoepglaaGreat
open Go Go.Wx Go.ChangeShapes Go.WideShapes Go.ChangeAt Go.RowKit
open Go.ChangeMaps (open_string shut_string)
set_option maxRecDepth 100000 in
theorem liftedDrawersRefused (os : Os) (started : os.Started) (H : Type) (enc : TypeId × Value → H) :
    ReturnsInHanded {} Tryz.checked os 11 .any (Rows.drawersRefusedSpec.pre6 enc Tryz.prog Tryz.f11 Rows.drawersRefusedRow.domain false) (Rows.drawersRefusedSpec.post enc Tryz.prog Tryz.f11 false true false false) := by
  refine returnsInHanded_of_change_sized (C := Tryz.checked) own started (by kernel_rfl) Tryz.func11
    (ChangeSpec.witness6 (enc := enc) (C := Tryz.checked) false ⟨#[], #[.slice none 0 0], []⟩ 8 (by kernel_rfl) (by kernel_rfl) (by kernel_rfl) (by kernel_rfl)) ?_
  intro W base args ds gs before hval0 hW hcnd hsz0 _
  have hsz : (DataW.weightsEach Tryz.prog (Tryz.f11.params.toList ++ Rows.drawersRefusedSpec.plain.varTypes Tryz.prog) (ds ++ gs)).all (· ≤ reachBytes) = true := hsz0
  have hval : ∀ (j : Nat) t v, Tryz.f11.params[j]? = some t → args[j]? = some v → Value.okWide Tryz.prog W .any base t v := hval0
  have hW' := hW
  obtain ⟨p, q, hA0, hV, rfl, hfz, hnd⟩ := hW
  have hA : DataW.TrodAll enc Tryz.prog W 0 (fun _ => true) true Tryz.f11.params.toList args.toList ds p := hA0
  have hA' := hA
  rw [Tryz.params11] at hA hval hsz
  obtain ⟨v0, vs0, d0, ds0, p0, q0, hargs, rfl, rfl, t0, r0⟩ := trodAll_cons hA
  obtain ⟨rfl, rfl, rfl⟩ := trodAll_nil r0
  obtain rfl : args = #[v0] := by cases args; simp_all
  obtain ⟨rfl, rfl⟩ := trodVars_none hV
  obtain ⟨a0, n0, c0, rfl⟩ := okWide_slice Tryz.underlying30 (hval 0 30 v0 rfl rfl)
  have u0 := (weights_of hsz (j := 0) (t := 30) (d := d0) rfl rfl)
  obtain ⟨fu0, hf0⟩ := t0
  obtain ⟨ms0, h0⟩ := open_script hf0 u0
  refine Calls.mono (lawRefused_c h0) fun e W' hy => ?_
  obtain ⟨v, he, hv, bel⟩ := hy
  subst he
  subst hv
  exact ⟨_, rfl, _, _, _, [], _, [], hW', trodAll_mk1 (shut_bool Tryz.underlying4 _), Below.trodAll laidOut bel.below (by kernel_rfl) hA', rfl, bel.below.frame _, fun h => by cases h⟩
theorem named11 : Tryz.checked.prog.funcNamed Rows.drawersRefusedRow.func = some 11 := by kernel_rfl
set_option maxRecDepth 100000 in
set_option maxHeartbeats 20000000 in
theorem facts11 : joinedFacts Tryz.checked.prog 11 Tryz.f11 Rows.drawersRefusedSpec Rows.drawersRefusedRow = true := by
  show joinedFacts Tryz.prog 11 Tryz.f11 Rows.drawersRefusedSpec Rows.drawersRefusedRow = true
  unfold joinedFacts
  simp only [Bool.and_eq_true]
  repeat' apply And.intro
  all_goals as_aux_lemma => kernel_rfl
theorem inst11 : Tryz.f11.isInstance Tryz.checked.prog Rows.drawersRefusedRow.origin Rows.drawersRefusedRow.targs := of_decide_eq_true (by kernel_rfl)
theorem wrap11 : Tryz.f11.isWrapper Tryz.checked.prog Rows.drawersRefusedRow.wrapper Rows.drawersRefusedRow.mainSum := by unfold Func.isWrapper; first | (rw [if_pos (by decide +kernel)]; kernel_rfl) | (rw [if_neg (by decide +kernel)]; exact ⟨rfl, rfl⟩)
theorem drawersRefused_holds : Rows.DrawersRefusedSaid :=
  OpenClaim.holds_of_wide 11 Tryz.f11 rfl rfl rfl rfl rfl rfl rfl ⟨rfl, rfl, rfl, rfl, rfl⟩ rfl rfl rfl rfl rfl named11 Tryz.func11 facts11 inst11 wrap11
    (fun os started H enc _ => liftedDrawersRefused os started H enc)
end Go.Proofs.YtcbijkakoepglaaGreat
