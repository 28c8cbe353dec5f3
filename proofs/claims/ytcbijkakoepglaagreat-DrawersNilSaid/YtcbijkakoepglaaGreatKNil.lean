/- The law DrawersNil holds. Conditions: none. -/
import Derived.Test.YtcbijkakoepglaaGreatKB6
import Derived.Test.YtcbijkakoepglaaGreatRows
import Derived.JoinedOf
set_option linter.all false
namespace Go.Proofs.YtcbijkakoepglaaGreat
open Go Go.Wx
set_option maxRecDepth 100000
def law06_DrawersNil.j1 (Q : Bool → World → Prop) (a : TAccount) (unit : ByteArray) (day : Int) (b2 : Nat) (v1 : Bool) (w6 : World) : Prop := (
       Ifb v1
      (Q false w6)
      (Dr w6 fun w7 =>
      Cl Pg 18 #[] w7 (fun v w8 => ∃ (r2 : Bool), v = vb r2 ∧ Kp b2 w7 w8 ∧ Ifb r2
      (Cl Pg 28 #[vP none, vi a.Id] w8 (fun v w9 => ∃ (r3_a : Option Addr), ∃ (r3_n : Nat), ∃ (r3_c : Nat), v = vl r3_a r3_n r3_c ∧ Kp b2 w8 w9 ∧ Cl Pg 52 #[vP none, vi day] w9 (fun v w10 => ∃ (r4_a : Option Addr), ∃ (r4_n : Nat), ∃ (r4_c : Nat), v = vl r4_a r4_n r4_c ∧ Kp b2 w9 w10 ∧ Cl Pg 32 #[vP none, vg [vu a.Kind, vi a.Id], vi day] w10 (fun v w11 => ∃ (r5_a : Option Addr), ∃ (r5_n : Nat), ∃ (r5_c : Nat), v = vl r5_a r5_n r5_c ∧ Kp b2 w10 w11 ∧ Cl Pg 26 #[vP none] w11 (fun v w12 => ∃ (r6_a : Option Addr), ∃ (r6_n : Nat), ∃ (r6_c : Nat), v = vl r6_a r6_n r6_c ∧ Kp b2 w11 w12 ∧ Cl Pg 53 #[vP none, vg [vu a.Kind, vi a.Id], vs unit, vi 0, vi day] w12 (fun v w13 => ∃ (r7_a : Option Addr), ∃ (r7_n : Nat), ∃ (r7_c : Nat), v = vl r7_a r7_n r7_c ∧ Cl Pg 25 #[vP none, vi day] w13 (fun v w14 => ∃ (r8_a : Option Addr), ∃ (r8_n : Nat), ∃ (r8_c : Nat), v = vl r8_a r8_n r8_c ∧ Q ((IntKind.wrap .i64 ((IntKind.wrap .i64 ((IntKind.wrap .i64 ((IntKind.wrap .i64 ((IntKind.wrap .i64 (((r3_n : Nat) : Int) + ((r4_n : Nat) : Int))) + ((r5_n : Nat) : Int))) + ((r6_n : Nat) : Int))) + ((r7_n : Nat) : Int))) + ((r8_n : Nat) : Int))) == (0 : Int)) w14)))))))
      (Q false w8))))
def law06_DrawersNil.R (Q : Bool → World → Prop) (o : TOp) (a : TAccount) (unit : ByteArray) (day : Int) (w : World) : Prop := (
  Al w (.cells #[vu o.Kind, vi o.Day, vs o.Unit, vs o.To, vi o.A, vi o.B, vi o.C, vl o.Goods_a o.Goods_n o.Goods_c, vl o.Lots_a o.Lots_n o.Lots_c] 77) fun b1 w1 =>
      Al w1 (.cells #[vu a.Kind, vi a.Id] 40) fun b2 w2 =>
      Cl Pg 42 #[vP none, vg [vu o.Kind, vi o.Day, vs o.Unit, vs o.To, vi o.A, vi o.B, vi o.C, vl o.Goods_a o.Goods_n o.Goods_c, vl o.Lots_a o.Lots_n o.Lots_c]] w2 (fun v w3 => ∃ (r1 : TResult), v = vg (TResult.enc r1) ∧ Kp b2 w2 w3 ∧ Al w3 (.cells #[vi 0, vi 0, vi 0, vl none 0 0, vl none 0 0, vl none 0 0] 80) fun b3 w4 =>
      Sb w4 b3 (.cells #[vi r1.E, vi r1.N, vi r1.M, vl r1.Ints_a r1.Ints_n r1.Ints_c, vl r1.Amounts_a r1.Amounts_n r1.Amounts_c, vl r1.Lots_a r1.Lots_n r1.Lots_c] 80 (0, 0)) fun w5 =>
      Cl Pg 41 #[vg (TResult.enc r1), vg [vi 3, vi 0, vi 0, vl none 0 0, vl none 0 0, vl none 0 0]] w5 (fun v w15 => ∃ (r9 : Bool), v = vb r9 ∧ Kp b2 w5 w15 ∧ Ifb (!r9)
      (law06_DrawersNil.j1 Q a unit day b2 true w15)
      (Cl Pg 44 #[vP none] w15 (fun v w16 => ∃ (r10 : Int), v = vi r10 ∧ Kp b2 w15 w16 ∧ Ifb (r10 != (0 : Int))
      (law06_DrawersNil.j1 Q a unit day b2 true w16)
      (Cl Pg 27 #[vP none, vs unit, vi day] w16 (fun v w17 => ∃ (r11 : Int), v = vi r11 ∧ Kp b2 w16 w17 ∧ Ifb (r11 != (0 : Int))
      (law06_DrawersNil.j1 Q a unit day b2 true w17)
      (Cl Pg 55 #[vP none, vs unit, vi 1, vi day] w17 (fun v w18 => ∃ (r12 : Int), v = vi r12 ∧ Kp b2 w17 w18 ∧ Ifb (r12 != (0 : Int))
      (law06_DrawersNil.j1 Q a unit day b2 true w18)
      (Cl Pg 48 #[vP none, vg [vu a.Kind, vi a.Id], vs unit, vi day] w18 (fun v w19 => ∃ (r13 : Int), v = vi r13 ∧ Kp b2 w18 w19 ∧ Ifb (r13 != (0 : Int))
      (law06_DrawersNil.j1 Q a unit day b2 true w19)
      (Cl Pg 29 #[vP none, vg [vu a.Kind, vi a.Id], vi day] w19 (fun v w20 => ∃ (r14 : Int), v = vi r14 ∧ Kp b2 w19 w20 ∧ law06_DrawersNil.j1 Q a unit day b2 (r14 != (0 : Int)) w20)))))))))))))
theorem law06_DrawersNil.ok {Q : Bool → World → Prop} {o : TOp} {a : TAccount} {unit : ByteArray} {day : Int} {w : World} (h : law06_DrawersNil.R Q o a unit day w) : Cl Pg 17 #[vg (TOp.enc o), vg (TAccount.enc a), vs unit, vi day] w (fun v w' => ∃ (r0 : Bool), v = vb r0 ∧ Q r0 w') := by
 refine calls_args (args := [vg (TOp.enc o), vg (TAccount.enc a), vs unit, vi day]) Tryz.func17 ?_
 unfold law06_DrawersNil.R at h
 refine W_regseq ?_
 refine alp h ?_
 intro b1 w1 eb ew hb_b1 h
 clear eb ew
 refine alp h ?_
 intro b2 w2 eb ew hb_b2 h
 have old_hb_b1 := hb_b1
 replace hb_b1 := al_keep ew hb_b1
 have ne_b1_b2 : b1 ≠ b2 := blk_ne old_hb_b1 eb
 clear old_hb_b1
 clear eb ew
 refine ps 1 [(8, vb false)] ?_
 refine WO_nil ?_
 refine W_regseq ?_
 refine ps 1 [(9, vP none)] ?_
 refine WO_nil ?_
 refine W_regseq ?_
 refine ps 1 [(11, vP none)] ?_
 refine lbn [vu o.Kind, vi o.Day, vs o.Unit, vs o.To, vi o.A, vi o.B, vi o.C, vl o.Goods_a o.Goods_n o.Goods_c, vl o.Lots_a o.Lots_n o.Lots_c] tk77 hb_b1 ?_
 refine cl h ?_
 rintro _ w3 ⟨r1, rfl, hk0, h⟩
 replace hb_b2 := kp_at hk0 hb_b2
 refine alp h ?_
 intro b3 w4 eb ew hb_b3 h
 have old_hb_b2 := hb_b2
 replace hb_b2 := al_keep ew hb_b2
 have ne_b2_b3 : b2 ≠ b3 := blk_ne old_hb_b2 eb
 clear old_hb_b2
 clear eb ew
 refine sb tk80 hb_b3 h ?_
 intro w5 ew hb_ h
 replace hb_b2 := sb_keep ew ne_b2_b3 hb_b2
 replace hb_b3 := hb_
 clear ew
 refine WO_nil ?_
 refine W_seq ?_
 refine W_join (fun e w6 => ∃ (e0 : Env) (v1 : Bool), e = upds e0 [(2, vs unit), (3, vi day), (5, vp ⟨b2, 0, none⟩), (9, vP none), (51, vb v1)] ∧ w6.heap[b2]? = some (.cells #[vu a.Kind, vi a.Id] 40 (0, 0)) ∧ law06_DrawersNil.j1 Q a unit day b2 v1 w6) ?_ ?_
 ·refine W_reg ?_
  refine lbn [vi r1.E, vi r1.N, vi r1.M, vl r1.Ints_a r1.Ints_n r1.Ints_c, vl r1.Amounts_a r1.Amounts_n r1.Amounts_c, vl r1.Lots_a r1.Lots_n r1.Lots_c] tk80 hb_b3 ?_
  refine ps 1 [(15, vg [vi 3, vi 0, vi 0, vl none 0 0, vl none 0 0, vl none 0 0])] ?_
  refine cl h ?_
  rintro _ w15 ⟨r9, rfl, hk0, h⟩
  replace hb_b2 := kp_at hk0 hb_b2
  refine ps 2 [(17, vb (!r9)), (18, vb (!r9))] ?_
  refine cs 18 h (fun h => ?_) fun h => ?_
  ·refine ps 33 [(19, undef), (20, undef), (21, undef), (22, vb true), (23, vb true), (24, undef), (25, undef), (26, undef), (27, undef), (28, undef), (29, vb true), (30, vb true), (31, undef), (32, undef), (33, undef), (34, undef), (35, undef), (36, vb true), (37, vb true), (38, undef), (39, undef), (40, undef), (41, undef), (42, undef), (43, undef), (44, vb true), (45, vb true), (46, undef), (47, undef), (48, undef), (49, undef), (50, undef), (51, vb true)] ?_
   refine WO_nil ?_
   exact ⟨_, true, Agree.eq ⟨rfl, rfl, rfl, rfl, rfl, trivial⟩, hb_b2, h⟩
  ·refine ps 1 [(19, vP none)] ?_
   refine cl h ?_
   rintro _ w16 ⟨r10, rfl, hk0, h⟩
   replace hb_b2 := kp_at hk0 hb_b2
   refine ps 3 [(21, vb (r10 != (0 : Int))), (22, vb (r10 != (0 : Int))), (23, vb (r10 != (0 : Int)))] ?_
   refine cs 23 h (fun h => ?_) fun h => ?_
   ·refine ps 28 [(24, undef), (25, undef), (26, undef), (27, undef), (28, undef), (29, vb true), (30, vb true), (31, undef), (32, undef), (33, undef), (34, undef), (35, undef), (36, vb true), (37, vb true), (38, undef), (39, undef), (40, undef), (41, undef), (42, undef), (43, undef), (44, vb true), (45, vb true), (46, undef), (47, undef), (48, undef), (49, undef), (50, undef), (51, vb true)] ?_
    refine WO_nil ?_
    exact ⟨_, true, Agree.eq ⟨rfl, rfl, rfl, rfl, rfl, trivial⟩, hb_b2, h⟩
   ·refine ps 3 [(24, vP none), (25, vs unit), (26, vi day)] ?_
    refine cl h ?_
    rintro _ w17 ⟨r11, rfl, hk0, h⟩
    replace hb_b2 := kp_at hk0 hb_b2
    refine ps 3 [(28, vb (r11 != (0 : Int))), (29, vb (r11 != (0 : Int))), (30, vb (r11 != (0 : Int)))] ?_
    refine cs 30 h (fun h => ?_) fun h => ?_
    ·refine ps 21 [(31, undef), (32, undef), (33, undef), (34, undef), (35, undef), (36, vb true), (37, vb true), (38, undef), (39, undef), (40, undef), (41, undef), (42, undef), (43, undef), (44, vb true), (45, vb true), (46, undef), (47, undef), (48, undef), (49, undef), (50, undef), (51, vb true)] ?_
     refine WO_nil ?_
     exact ⟨_, true, Agree.eq ⟨rfl, rfl, rfl, rfl, rfl, trivial⟩, hb_b2, h⟩
    ·refine ps 3 [(31, vP none), (32, vs unit), (33, vi day)] ?_
     refine cl h ?_
     rintro _ w18 ⟨r12, rfl, hk0, h⟩
     replace hb_b2 := kp_at hk0 hb_b2
     refine ps 3 [(35, vb (r12 != (0 : Int))), (36, vb (r12 != (0 : Int))), (37, vb (r12 != (0 : Int)))] ?_
     refine cs 37 h (fun h => ?_) fun h => ?_
     ·refine ps 14 [(38, undef), (39, undef), (40, undef), (41, undef), (42, undef), (43, undef), (44, vb true), (45, vb true), (46, undef), (47, undef), (48, undef), (49, undef), (50, undef), (51, vb true)] ?_
      refine WO_nil ?_
      exact ⟨_, true, Agree.eq ⟨rfl, rfl, rfl, rfl, rfl, trivial⟩, hb_b2, h⟩
     ·refine ps 1 [(38, vP none)] ?_
      refine lbn [vu a.Kind, vi a.Id] tk40 hb_b2 ?_
      refine ps 2 [(40, vs unit), (41, vi day)] ?_
      refine cl h ?_
      rintro _ w19 ⟨r13, rfl, hk0, h⟩
      replace hb_b2 := kp_at hk0 hb_b2
      refine ps 3 [(43, vb (r13 != (0 : Int))), (44, vb (r13 != (0 : Int))), (45, vb (r13 != (0 : Int)))] ?_
      refine cs 45 h (fun h => ?_) fun h => ?_
      ·refine ps 6 [(46, undef), (47, undef), (48, undef), (49, undef), (50, undef), (51, vb true)] ?_
       refine WO_nil ?_
       exact ⟨_, true, Agree.eq ⟨rfl, rfl, rfl, rfl, rfl, trivial⟩, hb_b2, h⟩
      ·refine ps 1 [(46, vP none)] ?_
       refine lbn [vu a.Kind, vi a.Id] tk40 hb_b2 ?_
       refine ps 1 [(48, vi day)] ?_
       refine cl h ?_
       rintro _ w20 ⟨r14, rfl, hk0, h⟩
       replace hb_b2 := kp_at hk0 hb_b2
       refine ps 2 [(50, vb (r14 != (0 : Int))), (51, vb (r14 != (0 : Int)))] ?_
       refine WO_nil ?_
       exact ⟨_, (r14 != (0 : Int)), Agree.eq ⟨rfl, rfl, rfl, rfl, rfl, trivial⟩, hb_b2, h⟩
 ·clear h hb_b2 hb_b3 ne_b2_b3
  rintro _ w6 ⟨e0, v1, rfl, hb_b2, h⟩
  unfold law06_DrawersNil.j1 at h
  refine ci h (fun h => ?_) fun h => ?_
  ·refine W_regseq ?_
   refine ps 1 [(8, vb false)] ?_
   refine WO_nil ?_
   refine W_ret ?_
   refine seqK_ret ?_
   exact ret1 (v := vb false) (t := 8) rfl rfl ⟨_, rfl, h⟩
  ·refine W_skip ?_
   refine drs folM [[], [], [], [], [], [4], [4], [], [], [4], [4], [4], [], [], [], [4, 13], [4, 13], [4, 13], [], [4, 13], [4, 13], [4, 13], [], [], [], [], [4, 13, 23], [4, 13, 23], [4, 13, 23], [], [], [4, 13, 23], [4, 13, 23], [4, 13, 23], [4, 13, 23], [4, 13, 23], [4, 13, 23]] [.e 0, .p 1, .p 2, .p 3, .l 4, .p 7, .p 8, .p 12, .l 13, .p 14, .p 18, .p 22, .l 23, .p 24, .p 25, .p 29, .p 30, .e 5, .p 6, .e 9, .p 10, .p 11, .e 15, .p 16, .p 17, .e 19, .p 20, .p 21, .e 26, .p 27, .p 28, .e 31, .p 32, .p 33, .p 34, .p 35, .p 36] h ?_
   intro w7 ew h
   replace hb_b2 := dr_keep ew hb_b2
   clear ew
   refine clC h ?_
   rintro _ w8 ⟨r2, rfl, hk0, h⟩
   replace hb_b2 := kp_at hk0 hb_b2
   refine ⟨AllOk.nil, ?_⟩
   refine psC 1 [(53, vb r2)] ?_
   refine csC 53 h (fun h => ?_) fun h => ?_
   ·refine psC 2 [(54, vP none), (55, vp ⟨b2, 1, none⟩)] ?_
    refine lb1C tk3 hb_b2 ?_
    refine psC 3 [(59, vP none), (60, vi day), (64, vP none)] ?_
    refine lbnC [vu a.Kind, vi a.Id] tk40 hb_b2 ?_
    refine psC 3 [(66, vi day), (70, vP none), (74, vP none)] ?_
    refine lbnC [vu a.Kind, vi a.Id] tk40 hb_b2 ?_
    refine psC 4 [(76, vs unit), (77, vi day), (81, vP none), (82, vi day)] ?_
    refine clC h ?_
    rintro _ w9 ⟨r3_a, r3_n, r3_c, rfl, hk0, h⟩
    replace hb_b2 := kp_at hk0 hb_b2
    refine ⟨AllOk.cons (Pend_ok (ex_load rfl rfl (run_loadVarN tk40 (vs := [vu a.Kind, vi a.Id]) rfl (cells_blk hb_b2 rfl)))) <| AllOk.cons (Pend_ok (ex_load rfl rfl (run_loadVarN tk40 (vs := [vu a.Kind, vi a.Id]) rfl (cells_blk hb_b2 rfl)))) <| AllOk.nil, ?_⟩
    refine psC 1 [(58, vi (r3_n : Nat))] ?_
    refine clC h ?_
    rintro _ w10 ⟨r4_a, r4_n, r4_c, rfl, hk0, h⟩
    replace hb_b2 := kp_at hk0 hb_b2
    refine ⟨AllOk.cons (Pend_ok (ex_load rfl rfl (run_loadVarN tk40 (vs := [vu a.Kind, vi a.Id]) rfl (cells_blk hb_b2 rfl)))) <| AllOk.cons (Pend_ok (ex_load rfl rfl (run_loadVarN tk40 (vs := [vu a.Kind, vi a.Id]) rfl (cells_blk hb_b2 rfl)))) <| AllOk.nil, ?_⟩
    refine psC 2 [(62, vi (r4_n : Nat)), (63, vi (IntKind.wrap .i64 (((r3_n : Nat) : Int) + ((r4_n : Nat) : Int))))] ?_
    refine clC h ?_
    rintro _ w11 ⟨r5_a, r5_n, r5_c, rfl, hk0, h⟩
    replace hb_b2 := kp_at hk0 hb_b2
    refine ⟨AllOk.cons (Pend_ok (ex_load rfl rfl (run_loadVarN tk40 (vs := [vu a.Kind, vi a.Id]) rfl (cells_blk hb_b2 rfl)))) <| AllOk.nil, ?_⟩
    refine psC 2 [(68, vi (r5_n : Nat)), (69, vi (IntKind.wrap .i64 ((IntKind.wrap .i64 (((r3_n : Nat) : Int) + ((r4_n : Nat) : Int))) + ((r5_n : Nat) : Int))))] ?_
    refine clC h ?_
    rintro _ w12 ⟨r6_a, r6_n, r6_c, rfl, hk0, h⟩
    replace hb_b2 := kp_at hk0 hb_b2
    refine ⟨AllOk.cons (Pend_ok (ex_load rfl rfl (run_loadVarN tk40 (vs := [vu a.Kind, vi a.Id]) rfl (cells_blk hb_b2 rfl)))) <| AllOk.nil, ?_⟩
    refine psC 2 [(72, vi (r6_n : Nat)), (73, vi (IntKind.wrap .i64 ((IntKind.wrap .i64 ((IntKind.wrap .i64 (((r3_n : Nat) : Int) + ((r4_n : Nat) : Int))) + ((r5_n : Nat) : Int))) + ((r6_n : Nat) : Int))))] ?_
    refine clC h ?_
    rintro _ w13 ⟨r7_a, r7_n, r7_c, rfl, h⟩
    refine ⟨AllOk.nil, ?_⟩
    refine psC 2 [(79, vi (r7_n : Nat)), (80, vi (IntKind.wrap .i64 ((IntKind.wrap .i64 ((IntKind.wrap .i64 ((IntKind.wrap .i64 (((r3_n : Nat) : Int) + ((r4_n : Nat) : Int))) + ((r5_n : Nat) : Int))) + ((r6_n : Nat) : Int))) + ((r7_n : Nat) : Int))))] ?_
    refine clC h ?_
    rintro _ w14 ⟨r8_a, r8_n, r8_c, rfl, h⟩
    refine ⟨AllOk.nil, ?_⟩
    refine psC 5 [(84, vi (r8_n : Nat)), (85, vi (IntKind.wrap .i64 ((IntKind.wrap .i64 ((IntKind.wrap .i64 ((IntKind.wrap .i64 ((IntKind.wrap .i64 (((r3_n : Nat) : Int) + ((r4_n : Nat) : Int))) + ((r5_n : Nat) : Int))) + ((r6_n : Nat) : Int))) + ((r7_n : Nat) : Int))) + ((r8_n : Nat) : Int)))), (86, vb ((IntKind.wrap .i64 ((IntKind.wrap .i64 ((IntKind.wrap .i64 ((IntKind.wrap .i64 ((IntKind.wrap .i64 (((r3_n : Nat) : Int) + ((r4_n : Nat) : Int))) + ((r5_n : Nat) : Int))) + ((r6_n : Nat) : Int))) + ((r7_n : Nat) : Int))) + ((r8_n : Nat) : Int))) == (0 : Int))), (87, vb ((IntKind.wrap .i64 ((IntKind.wrap .i64 ((IntKind.wrap .i64 ((IntKind.wrap .i64 ((IntKind.wrap .i64 (((r3_n : Nat) : Int) + ((r4_n : Nat) : Int))) + ((r5_n : Nat) : Int))) + ((r6_n : Nat) : Int))) + ((r7_n : Nat) : Int))) + ((r8_n : Nat) : Int))) == (0 : Int))), (8, vb ((IntKind.wrap .i64 ((IntKind.wrap .i64 ((IntKind.wrap .i64 ((IntKind.wrap .i64 ((IntKind.wrap .i64 (((r3_n : Nat) : Int) + ((r4_n : Nat) : Int))) + ((r5_n : Nat) : Int))) + ((r6_n : Nat) : Int))) + ((r7_n : Nat) : Int))) + ((r8_n : Nat) : Int))) == (0 : Int)))] ?_
    refine WC_nil ?_
    refine W_ret ?_
    exact ret1 (v := vb ((IntKind.wrap .i64 ((IntKind.wrap .i64 ((IntKind.wrap .i64 ((IntKind.wrap .i64 ((IntKind.wrap .i64 (((r3_n : Nat) : Int) + ((r4_n : Nat) : Int))) + ((r5_n : Nat) : Int))) + ((r6_n : Nat) : Int))) + ((r7_n : Nat) : Int))) + ((r8_n : Nat) : Int))) == (0 : Int))) (t := 8) rfl rfl ⟨_, rfl, h⟩
   ·refine psC 2 [(54, undef), (55, undef)] ?_
    refine WC_lskip rfl rfl rfl ?_
    refine psC 3 [(59, undef), (60, undef), (64, undef)] ?_
    refine WC_lskip rfl rfl rfl ?_
    refine psC 3 [(66, undef), (70, undef), (74, undef)] ?_
    refine WC_lskip rfl rfl rfl ?_
    refine psC 4 [(76, undef), (77, undef), (81, undef), (82, undef)] ?_
    refine WC_eskip rfl rfl rfl ?_
    refine psC 1 [(58, undef)] ?_
    refine WC_eskip rfl rfl rfl ?_
    refine psC 2 [(62, undef), (63, undef)] ?_
    refine WC_eskip rfl rfl rfl ?_
    refine psC 2 [(68, undef), (69, undef)] ?_
    refine WC_eskip rfl rfl rfl ?_
    refine psC 2 [(72, undef), (73, undef)] ?_
    refine WC_eskip rfl rfl rfl ?_
    refine psC 2 [(79, undef), (80, undef)] ?_
    refine WC_eskip rfl rfl rfl ?_
    refine psC 5 [(84, undef), (85, undef), (86, undef), (87, vb false), (8, vb false)] ?_
    refine WC_nil ?_
    refine W_ret ?_
    exact ret1 (v := vb false) (t := 8) rfl rfl ⟨_, rfl, h⟩
end Go.Proofs.YtcbijkakoepglaaGreat
namespace Go.Proofs.YtcbijkakoepglaaGreat
open Go Go.Wx
theorem st_f {S : Nat → Prop} {w0 w : World} (F : Frm S w0 w) {b : Nat} {c : Array Value} {T : TypeId} {vs : List Value} {K : World → Prop} (h : At w b (.cells c T (0, 0))) (hb : w0.heap.size ≤ b)
    (hk : ∀ w', At w' b (.cells (putAt c 0 vs) T (0, 0)) → Frm S w0 w' → Frm (fun k => k = b) w w' → K w') (hl : 0 + vs.length ≤ c.size := by simp) : St w ⟨b, 0, none⟩ vs K :=
  st_at h hl fun w' h' f => hk w' h' (F.trans f fun k hk e => by subst e; omega) f
section
variable {w : World}
theorem opNil {day : Int} {f : Value} {Q : Int → World → Prop} (hQ : Q 3 w) : Cl Pg 76 #[vP none, vi day, f] w (fun v w' => ∃ r, v = vi r ∧ Q r w') := drawers_Ledger_operate.ok (ifb_t hQ)
theorem setUnitNil {day kind : Int} {name : ByteArray} {Q : Int → World → Prop} (hQ : ∀ w', Ext w w' → Q 3 w') : Cl Pg 50 #[vP none, vi day, vs name, vu kind] w (fun v w' => ∃ r, v = vi r ∧ Q r w') :=
  drawers_Ledger_SetUnit.ok (al_f (er w) fun b1 w1 hb1 h1 E e1 n1 => al_f E fun b2 w2 hb2 h2 E e2 n2 => opNil (hQ _ E))
theorem setValueNil {day n : Int} {name : ByteArray} {Q : Int → World → Prop} (hQ : ∀ w', Ext w w' → Q 3 w') : Cl Pg 99 #[vP none, vi day, vs name, vi n] w (fun v w' => ∃ r, v = vi r ∧ Q r w') :=
  drawers_Ledger_SetValue.ok (al_f (er w) fun b1 w1 hb1 h1 E e1 n1 => al_f E fun b2 w2 hb2 h2 E e2 n2 => al_f E fun b3 w3 hb3 h3 E e3 n3 => ⟨_, cell_blk (h1.ext (e2.trans e3)) rfl, opNil (hQ _ E)⟩)
theorem setTermNil {day n m : Int} {name : ByteArray} {Q : Int → World → Prop} (hQ : ∀ w', Ext w w' → Q 3 w') : Cl Pg 51 #[vP none, vi day, vs name, vi n, vi m] w (fun v w' => ∃ r, v = vi r ∧ Q r w') :=
  drawers_Ledger_SetTerm.ok (al_f (er w) fun b1 w1 hb1 h1 E e1 n1 => al_f E fun b2 w2 hb2 h2 E e2 n2 => al_f E fun b3 w3 hb3 h3 E e3 n3 => al_f E fun b4 w4 hb4 h4 E e4 n4 => ⟨_, cell_blk (h1.ext ((e2.trans e3).trans e4)) rfl, opNil (hQ _ E)⟩)
theorem advNil {day : Int} {Q : Int → Int → World → Prop} (hQ : ∀ w', Ext w w' → Q 0 3 w') : Cl Pg 23 #[vP none, vi day] w (fun v w' => ∃ r q, v = .tuple #[vi r, vi q] ∧ Q r q w') := by
  refine drawers_Ledger_Advance.ok (ifb_f ?_)
  unfold drawers_Ledger_Advance.j1
  exact opNil (ifb_t (hQ _ (er w)))
theorem takeNil {day thing n person : Int} {name : ByteArray} {Q : Int → World → Prop} (hQ : ∀ w', Ext w w' → Q 3 w') : Cl Pg 100 #[vP none, vi day, vi thing, vs name, vi n, vi person] w (fun v w' => ∃ r, v = vi r ∧ Q r w') :=
  drawers_Ledger_Take.ok (al_f (er w) fun b1 w1 hb1 h1 E e1 n1 => al_f E fun b2 w2 hb2 h2 E e2 n2 => al_f E fun b3 w3 hb3 h3 E e3 n3 => al_f E fun b4 w4 hb4 h4 E e4 n4 => al_f E fun b5 w5 hb5 h5 E e5 n5 => ⟨_, cell_blk (h1.ext (((e2.trans e3).trans e4).trans e5)) rfl, opNil (hQ _ E)⟩)
theorem refundNil {day thing person : Int} {Q : Option Addr → Nat → Nat → Int → World → Prop} (hQ : ∀ w', Ext w w' → Q none 0 0 3 w') : Cl Pg 30 #[vP none, vi day, vi thing, vi person] w (fun v w' => ∃ a n c r, v = .tuple #[vl a n c, vi r] ∧ Q a n c r w') :=
  drawers_Ledger_Refund.ok (al_f (er w) fun b1 w1 hb1 h1 E e1 n1 => al_f E fun b2 w2 hb2 h2 E e2 n2 => al_f E fun b3 w3 hb3 h3 E e3 n3 => al_f E fun b4 w4 hb4 h4 E e4 n4 => ⟨_, cell_blk (h1.ext ((e2.trans e3).trans e4)) rfl, opNil (ifb_t (hQ _ E))⟩)
theorem arrivedNil {day bag : Int} {Q : Int → Int → World → Prop} (hQ : ∀ w', Ext w w' → Q 0 3 w') : Cl Pg 34 #[vP none, vi day, vi bag] w (fun v w' => ∃ r q, v = .tuple #[vi r, vi q] ∧ Q r q w') :=
  drawers_Ledger_Arrived.ok (al_f (er w) fun b1 w1 hb1 h1 E e1 n1 => al_f E fun b2 w2 hb2 h2 E e2 n2 => al_f E fun b3 w3 hb3 h3 E e3 n3 => st_f E h3 hb3 fun w4 h4 E4 f4 => ⟨_, cell_blk ((h1.ext (e2.trans e3)).frm f4 (by have := h1.lt; have := h2.lt; omega)) rfl, opNil (ifb_t (hQ _ E4))⟩)
theorem depositNil {day thing layer : Int} {ga : Option Addr} {gn gc : Nat} {Q : Option Addr → Nat → Nat → Int → World → Prop} (hQ : ∀ w', Ext w w' → Q none 0 0 3 w') : Cl Pg 35 #[vP none, vi day, vi thing, vi layer, vl ga gn gc] w (fun v w' => ∃ a n c r, v = .tuple #[vl a n c, vi r] ∧ Q a n c r w') :=
  drawers_Ledger_Deposit.ok (al_f (er w) fun b1 w1 hb1 h1 E e1 n1 => al_f E fun b2 w2 hb2 h2 E e2 n2 => al_f E fun b3 w3 hb3 h3 E e3 n3 => al_f E fun b4 w4 hb4 h4 E e4 n4 => al_f E fun b5 w5 hb5 h5 E e5 n5 => ⟨_, cell_blk (h1.ext (((e2.trans e3).trans e4).trans e5)) rfl, opNil (ifb_t (hQ _ E))⟩)
theorem receiveNil {day : Int} {ga : Option Addr} {gn gc : Nat} {Q : Option Addr → Nat → Nat → Int → World → Prop} (hQ : ∀ w', Ext w w' → Q none 0 0 3 w') : Cl Pg 33 #[vP none, vi day, vl ga gn gc] w (fun v w' => ∃ a n c r, v = .tuple #[vl a n c, vi r] ∧ Q a n c r w') :=
  drawers_Ledger_Receive.ok (al_f (er w) fun b1 w1 hb1 h1 E e1 n1 => al_f E fun b2 w2 hb2 h2 E e2 n2 => al_f E fun b3 w3 hb3 h3 E e3 n3 => ⟨_, cell_blk (h1.ext (e2.trans e3)) rfl, opNil (ifb_t (hQ _ E))⟩)
theorem convertNil {day lot n : Int} {to_ : ByteArray} {Q : Int → Int → Int → World → Prop} (hQ : ∀ w', Ext w w' → Q 0 0 3 w') : Cl Pg 24 #[vP none, vi day, vi lot, vs to_, vi n] w (fun v w' => ∃ r q s, v = .tuple #[vi r, vi q, vi s] ∧ Q r q s w') :=
  drawers_Ledger_Convert.ok (al_f (er w) fun b1 w1 hb1 h1 E e1 n1 => al_f E fun b2 w2 hb2 h2 E e2 n2 => al_f E fun b3 w3 hb3 h3 E e3 n3 => al_f E fun b4 w4 hb4 h4 E e4 n4 => al_f E fun b5 w5 hb5 h5 E e5 n5 => al_f E fun b6 w6 hb6 h6 E e6 n6 => st_f E (h5.ext e6) hb5 fun w7 h7 E7 f7 => st_f E7 (h6.frm f7 (by have := h5.lt; omega)) hb6 fun w8 h8 E8 f8 => ⟨_, cell_blk (((h1.ext ((((e2.trans e3).trans e4).trans e5).trans e6)).frm f7 (by have := h1.lt; have := e2.size; have := e3.size; have := e4.size; omega)).frm f8 (by have := h1.lt; have := e2.size; have := e3.size; have := e4.size; have := e5.size; omega)) rfl, opNil (ifb_t (hQ _ E8))⟩)
theorem movedNil {day thing in_ : Int} {ok : Bool} {f g : Value} (hf : isOne f = true) (hg : isOne g = true) {Q : Option Addr → Nat → Nat → Int → World → Prop} (hQ : ∀ w', Ext w w' → Q none 0 0 3 w') : Cl Pg 89 #[vP none, vi day, vi thing, vb ok, vu in_, f, g] w (fun v w' => ∃ a n c r, v = .tuple #[vl a n c, vi r] ∧ Q a n c r w') :=
  drawers_Ledger_moved.ok (al_f (er w) fun b1 w1 hb1 h1 E e1 n1 => al_f E fun b2 w2 hb2 h2 E e2 n2 => al_f E fun b3 w3 hb3 h3 E e3 n3 => ⟨hf, al_f E fun b4 w4 hb4 h4 E e4 n4 => ⟨hg, al_f E fun b5 w5 hb5 h5 E e5 n5 => al_f E fun b6 w6 hb6 h6 E e6 n6 => opNil (ifb_t (hQ _ E))⟩⟩)
theorem loseNil {day thing : Int} {Q : Option Addr → Nat → Nat → Int → World → Prop} (hQ : ∀ w', Ext w w' → Q none 0 0 3 w') : Cl Pg 101 #[vP none, vi day, vi thing] w (fun v w' => ∃ a n c r, v = .tuple #[vl a n c, vi r] ∧ Q a n c r w') :=
  drawers_Ledger_Lose.ok (al_f (er w) fun b1 w1 hb1 h1 E e1 n1 => al_f E fun b2 w2 hb2 h2 E e2 n2 => ⟨_, cell_blk (h1.ext e2) rfl, _, cell_blk h2 rfl, movedNil rfl rfl fun w3 E3 => hQ _ (E.ext E3)⟩)
theorem recoverNil {day thing : Int} {Q : Option Addr → Nat → Nat → Int → World → Prop} (hQ : ∀ w', Ext w w' → Q none 0 0 3 w') : Cl Pg 102 #[vP none, vi day, vi thing] w (fun v w' => ∃ a n c r, v = .tuple #[vl a n c, vi r] ∧ Q a n c r w') :=
  drawers_Ledger_Recover.ok (al_f (er w) fun b1 w1 hb1 h1 E e1 n1 => al_f E fun b2 w2 hb2 h2 E e2 n2 => ⟨_, cell_blk (h1.ext e2) rfl, _, cell_blk h2 rfl, movedNil rfl rfl fun w3 E3 => hQ _ (E.ext E3)⟩)
theorem payNil {day thing person : Int} {Q : Option Addr → Nat → Nat → Int → World → Prop} (hQ : ∀ w', Ext w w' → Q none 0 0 3 w') : Cl Pg 65 #[vP none, vi day, vi thing, vi person] w (fun v w' => ∃ a n c r, v = .tuple #[vl a n c, vi r] ∧ Q a n c r w') :=
  drawers_Ledger_Pay.ok (al_f (er w) fun b1 w1 hb1 h1 E e1 n1 => al_f E fun b2 w2 hb2 h2 E e2 n2 => al_f E fun b3 w3 hb3 h3 E e3 n3 => dr_f E fun w4 E4 e4 => ⟨_, cell_blk (h1.ext ((e2.trans e3).trans e4)) rfl, _, cell_blk (h2.ext (e3.trans e4)) rfl, _, cell_blk (h3.ext e4) rfl, al_f E4 fun b5 w5 hb5 h5 E5 e5 n5 => id_c (rd_ints [person] h5) (by simp [maxLen]) fun w6 E6 => ⟨cell_blk (h1.ext ((((e2.trans e3).trans e4).trans e5).trans E6)) rfl, cell_blk (h2.ext (((e3.trans e4).trans e5).trans E6)) rfl, movedNil rfl rfl fun w7 E7 => hQ _ ((E5.ext E6).ext E7)⟩⟩)
theorem dispatchNil {day thing bag : Int} {Q : Option Addr → Nat → Nat → Int → World → Prop} (hQ : ∀ w', Ext w w' → Q none 0 0 3 w') : Cl Pg 31 #[vP none, vi day, vi thing, vi bag] w (fun v w' => ∃ a n c r, v = .tuple #[vl a n c, vi r] ∧ Q a n c r w') :=
  drawers_Ledger_Dispatch.ok (al_f (er w) fun b1 w1 hb1 h1 E e1 n1 => al_f E fun b2 w2 hb2 h2 E e2 n2 => al_f E fun b3 w3 hb3 h3 E e3 n3 => al_f E fun b0 w0 hb0 h0 E e0 n0 => dr_f E fun w4 E4 e4 => ⟨_, cell_blk (h1.ext (((e2.trans e3).trans e0).trans e4)) rfl, _, cell_blk (h2.ext ((e3.trans e0).trans e4)) rfl, _, cell_blk (h3.ext (e0.trans e4)) rfl, al_f E4 fun b5 w5 hb5 h5 E5 e5 n5 => id_c (rd_ints [bag] h5) (by simp [maxLen]) fun w6 E6 => ⟨cell_blk (h1.ext (((((e2.trans e3).trans e0).trans e4).trans e5).trans E6)) rfl, cell_blk (h2.ext ((((e3.trans e0).trans e4).trans e5).trans E6)) rfl, movedNil rfl rfl fun w7 E7 => ifb_t (hQ _ ((E5.ext E6).ext E7))⟩⟩)

theorem trialNil {day : Int} {Q : Option Addr → Nat → Nat → World → Prop} (hQ : Q none 0 0 w) : Cl Pg 25 #[vP none, vi day] w (fun v w' => ∃ a n c, v = vl a n c ∧ Q a n c w') := drawers_Ledger_Trial.ok (ifb_t hQ)
theorem balancesNil {a : TAccount} {day : Int} {Q : Option Addr → Nat → Nat → World → Prop} (hQ : ∀ w', Ext w w' → Q none 0 0 w') : Cl Pg 32 #[vP none, vg [vu a.Kind, vi a.Id], vi day] w (fun v w' => ∃ a n c, v = vl a n c ∧ Q a n c w') := by
  refine drawers_Ledger_Balances.ok (a := a) (al_f (er w) fun b1 w1 hb1 h1 E e1 n1 => trialNil ⟨rfl, 1, ?_⟩)
  unfold drawers_Ledger_Balances.l1
  exact ifb_df (by omega) (hQ _ E)
theorem worthNil {a : TAccount} {day : Int} {Q : Int → World → Prop} (hQ : ∀ w', Ext w w' → Q 0 w') : Cl Pg 29 #[vP none, vg [vu a.Kind, vi a.Id], vi day] w (fun v w' => ∃ r, v = vi r ∧ Q r w') := by
  refine drawers_Ledger_Worth.ok (a := a) (al_f (er w) fun b1 w1 hb1 h1 E e1 n1 => balancesNil fun w2 E2 => ⟨1, ?_⟩)
  unfold drawers_Ledger_Worth.l1
  exact ifb_df (by omega) (hQ _ (E.ext E2))
theorem balanceNil {a : TAccount} {name : ByteArray} {day : Int} {Q : Int → World → Prop} (hQ : ∀ w', Ext w w' → Q 0 w') : Cl Pg 48 #[vP none, vg [vu a.Kind, vi a.Id], vs name, vi day] w (fun v w' => ∃ r, v = vi r ∧ Q r w') :=
  drawers_Ledger_Balance.ok (a := a) (al_f (er w) fun b1 w1 hb1 h1 E e1 n1 => ifb_t (hQ _ E))
theorem runNil {o : TOp} {Q : TResult → World → Prop} (hQ : ∀ w', Ext w w' → Q ⟨3, 0, 0, none, 0, 0, none, 0, 0, none, 0, 0⟩ w') : Cl Pg 42 #[vP none, vg o.enc] w (fun v w' => ∃ r : TResult, v = vg r.enc ∧ Q r w') := by
  refine law06_run.ok (al_f (er w) fun b1 w1 hb1 h1 E e1 n1 => al_f E fun b2 w2 hb2 h2 E e2 n2 => al_f E fun b3 w3 hb3 h3 E e3 n3 => ?_)
  have l2 := h2.lt
  have h2 := h2.ext e3
  have k2 : ∀ {w4}, Ext w3 w4 → Kp b2 w3 w4 := fun e => e.blk _ h2.lt id
  have k3 : ∀ {w4}, Ext w3 w4 → Kp b3 w3 w4 := fun e => e.blk _ h3.lt id
  have fin : ∀ {o3 o2 : Obj} {w4}, Ext w3 w4 → Sb w4 b3 o3 fun w5 => Sb w5 b2 o2 fun w6 => Q ⟨3, 0, 0, none, 0, 0, none, 0, 0, none, 0, 0⟩ w6 := fun {o3 o2 w4} e4 =>
    sb_f (E.ext e4) (h3.ext e4) hb3 fun w5 h5 E5 f5 => sb_f E5 ((h2.ext e4).frm f5 (by omega)) hb2 fun w6 h6 E6 f6 => hQ w6 E6
  refine ifb ?_
  split
  · exact setUnitNil fun w4 e => ⟨k2 e, k3 e, fin e⟩
  refine ifb ?_
  split
  · exact setValueNil fun w4 e => ⟨k2 e, k3 e, fin e⟩
  refine ifb ?_
  split
  · exact setTermNil fun w4 e => ⟨k2 e, k3 e, fin e⟩
  refine ifb ?_
  split
  · exact advNil fun w4 e => ⟨k2 e, k3 e, sb_sb (fin e)⟩
  refine ifb ?_
  split
  · exact depositNil fun w4 e => ⟨k2 e, k3 e, sb_sb (fin e)⟩
  refine ifb ?_
  split
  · exact payNil fun w4 e => ⟨k2 e, k3 e, sb_sb (fin e)⟩
  refine ifb ?_
  split
  · exact takeNil fun w4 e => ⟨k2 e, k3 e, fin e⟩
  refine ifb ?_
  split
  · exact convertNil fun w4 e => ⟨k2 e, k3 e, sb_sb (sb_sb (fin e))⟩
  refine ifb ?_
  split
  · exact refundNil fun w4 e => ⟨k2 e, k3 e, sb_sb (fin e)⟩
  refine ifb ?_
  split
  · exact loseNil fun w4 e => ⟨k2 e, k3 e, sb_sb (fin e)⟩
  refine ifb ?_
  split
  · exact recoverNil fun w4 e => ⟨k2 e, k3 e, sb_sb (fin e)⟩
  refine ifb ?_
  split
  · exact dispatchNil fun w4 e => ⟨k2 e, k3 e, sb_sb (fin e)⟩
  refine ifb ?_
  split
  · exact arrivedNil fun w4 e => ⟨k2 e, k3 e, sb_sb (fin e)⟩
  exact receiveNil fun w4 e => ⟨k2 e, k3 e, sb_sb (fin e)⟩

theorem lawNil_c {o : TOp} {a : TAccount} {unit : ByteArray} {day : Int} : Cl Pg 17 #[vg o.enc, vg a.enc, vs unit, vi day] w (Yes w) := by
  refine Cl.yes (law06_DrawersNil.ok (Q := fun b w' => b = true ∧ Ext w w') (al_f (er w) fun b1 w1 hb1 h1 E e1 n1 => al_f E fun b2 w2 hb2 h2 E e2 n2 => runNil (o := o) fun w3 E3 => ⟨E3.blk _ h2.lt id, al_f (E.ext E3) fun b3 w4 hb3 h3 E4 e4 n4 => sb_f E4 h3 hb3 fun w5 h5 E5 f5 => ?_⟩))
  have l2 := (h2.ext E3).lt
  have hat := ((h2.ext E3).ext e4).frm f5 (by omega)
  refine same_c (s0 := 0) (s1 := 0) (ResIs.nil 3 0 0) (r2 := ⟨3, 0, 0, none, 0, 0, none, 0, 0, none, 0, 0⟩) (ResIs.nil 3 0 0) fun w15 E15 => ⟨E15.blk _ hat.lt id, ?_⟩
  rw [decide_eq_true rfl]
  have hat15 := hat.ext E15
  refine ifb_f (drawers_Ledger_Day.ok (ifb_t ⟨rfl, ifb_f (drawers_Ledger_Value.ok (ifb_t ⟨rfl, ifb_f (drawers_Ledger_Term.ok (ifb_t ⟨rfl, ifb_f (balanceNil fun w18 E18 => ⟨E18.blk _ hat15.lt id, ifb_f (worthNil fun w20 E20 => ⟨E20.blk _ (hat15.ext E18).lt id, ?_⟩)⟩)⟩))⟩))⟩))
  have hat20 := (hat15.ext E18).ext E20
  have E20 := ((E5.ext E15).ext E18).ext E20
  show law06_DrawersNil.j1 _ a unit day b2 false w20
  unfold law06_DrawersNil.j1
  refine ifb_f (dr_f E20 fun w7 E7 e7 => alive_c fun w8 E8 => ⟨E8.blk _ (hat20.ext e7).lt id, ifb_t (drawers_Ledger_Lots.ok (ifb_t ⟨rfl, drawers_Ledger_Due.ok (ifb_t ⟨rfl, balancesNil fun w11 E11 => ⟨E11.blk _ ((hat20.ext e7).ext E8).lt id, drawers_Ledger_Postings.ok (ifb_t ⟨rfl, drawers_Ledger_Statement.ok (al_f ((E7.ext E8).ext E11) fun b4 w12 hb4 h4 E12 e12 n12 => ifb_t (drawers_Ledger_Trial.ok (ifb_t ⟨?_, E12⟩)))⟩)⟩⟩)⟩))⟩)
  decide
end
end Go.Proofs.YtcbijkakoepglaaGreat
namespace Go.Proofs.YtcbijkakoepglaaGreat
open Go Go.Wx Go.ChangeShapes Go.WideShapes Go.ChangeAt Go.RowKit
open Go.ChangeMaps (open_string shut_string)
set_option maxRecDepth 100000 in
theorem liftedDrawersNil (os : Os) (started : os.Started) (H : Type) (enc : TypeId × Value → H) :
    ReturnsInHanded {} Tryz.checked os 17 .any (Rows.drawersNilSpec.pre6 enc Tryz.prog Tryz.f17 Rows.drawersNilRow.domain false) (Rows.drawersNilSpec.post enc Tryz.prog Tryz.f17 false true false false) := by
  refine returnsInHanded_of_change_sized (C := Tryz.checked) own started (by kernel_rfl) Tryz.func17
    (ChangeSpec.witness6 (enc := enc) (C := Tryz.checked) false ⟨#[], #[.agg #[.int .u8 0, .int .i64 0, .string ByteArray.empty, .string ByteArray.empty, .int .i64 0, .int .i64 0, .int .i64 0, .slice none 0 0, .slice none 0 0], .agg #[.int .u8 0, .int .i64 0], .string ByteArray.empty, .int .i64 0], []⟩ 8 (by kernel_rfl) (by kernel_rfl) (by kernel_rfl) (by kernel_rfl)) ?_
  intro W base args ds gs before hval0 hW hcnd hsz0 _
  have hsz : (DataW.weightsEach Tryz.prog (Tryz.f17.params.toList ++ Rows.drawersNilSpec.plain.varTypes Tryz.prog) (ds ++ gs)).all (· ≤ reachBytes) = true := hsz0
  have hval : ∀ (j : Nat) t v, Tryz.f17.params[j]? = some t → args[j]? = some v → Value.okWide Tryz.prog W .any base t v := hval0
  have hW' := hW
  obtain ⟨p, q, hA0, hV, rfl, hfz, hnd⟩ := hW
  have hA : DataW.TrodAll enc Tryz.prog W 0 (fun _ => true) true Tryz.f17.params.toList args.toList ds p := hA0
  have hA' := hA
  rw [Tryz.params17] at hA hval hsz
  obtain ⟨v0, vs0, d0, ds0, p0, q0, hargs, rfl, rfl, t0, r0⟩ := trodAll_cons hA
  obtain ⟨v1, vs1, d1, ds1, p1, q1, rfl, rfl, rfl, t1, r1⟩ := trodAll_cons r0
  obtain ⟨v2, vs2, d2, ds2, p2, q2, rfl, rfl, rfl, t2, r2⟩ := trodAll_cons r1
  obtain ⟨v3, vs3, d3, ds3, p3, q3, rfl, rfl, rfl, t3, r3⟩ := trodAll_cons r2
  obtain ⟨rfl, rfl, rfl⟩ := trodAll_nil r3
  obtain rfl : args = #[v0, v1, v2, v3] := by cases args; simp_all
  obtain ⟨rfl, rfl⟩ := trodVars_none hV
  obtain ⟨x0, m0, rfl, h0⟩ := open_op (hval 0 77 v0 rfl rfl) t0 (weights_of hsz (j := 0) (t := 77) (d := d0) rfl rfl)
  obtain ⟨x1, rfl⟩ := open_acct (hval 1 40 v1 rfl rfl) t1 (weights_of hsz (j := 1) (t := 40) (d := d1) rfl rfl)
  obtain ⟨x2, rfl, -, -, y2⟩ := open_string Tryz.underlying9 (hval 2 9 v2 rfl rfl) t2
  obtain ⟨x3, rfl, -, -, w3⟩ := open_int Tryz.underlying3 (hval 3 3 v3 rfl rfl) t3
  refine Calls.mono (lawNil_c) fun e W' hy => ?_
  obtain ⟨v, he, hv, bel⟩ := hy
  subst he
  subst hv
  exact ⟨_, rfl, _, _, _, [], _, [], hW', trodAll_mk1 (shut_bool Tryz.underlying4 _), Below.trodAll laidOut bel.below (by kernel_rfl) hA', rfl, bel.below.frame _, fun h => by cases h⟩
theorem named17 : Tryz.checked.prog.funcNamed Rows.drawersNilRow.func = some 17 := by kernel_rfl
set_option maxRecDepth 100000 in
set_option maxHeartbeats 20000000 in
theorem facts17 : joinedFacts Tryz.checked.prog 17 Tryz.f17 Rows.drawersNilSpec Rows.drawersNilRow = true := by
  show joinedFacts Tryz.prog 17 Tryz.f17 Rows.drawersNilSpec Rows.drawersNilRow = true
  unfold joinedFacts
  simp only [Bool.and_eq_true]
  repeat' apply And.intro
  all_goals as_aux_lemma => kernel_rfl
theorem inst17 : Tryz.f17.isInstance Tryz.checked.prog Rows.drawersNilRow.origin Rows.drawersNilRow.targs := of_decide_eq_true (by kernel_rfl)
theorem wrap17 : Tryz.f17.isWrapper Tryz.checked.prog Rows.drawersNilRow.wrapper Rows.drawersNilRow.mainSum := by unfold Func.isWrapper; first | (rw [if_pos (by decide +kernel)]; kernel_rfl) | (rw [if_neg (by decide +kernel)]; exact ⟨rfl, rfl⟩)
theorem drawersNil_holds : Rows.DrawersNilSaid :=
  OpenClaim.holds_of_wide 17 Tryz.f17 rfl rfl rfl rfl rfl rfl rfl ⟨rfl, rfl, rfl, rfl, rfl⟩ rfl rfl rfl rfl rfl named17 Tryz.func17 facts17 inst17 wrap17
    (fun os started H enc _ => liftedDrawersNil os started H enc)
end Go.Proofs.YtcbijkakoepglaaGreat
