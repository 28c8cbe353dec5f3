/- The law holds: part 351. Conditions: none. -/
import Derived.Test.YtpndfdfipkadkaaGreatDoorKU1
import Derived.Test.YtpndfdfipkadkaaGreatDoorProg
import Derived.Shelf.SlSortCmp.NoneTotal
set_option linter.all false
namespace Go.Proofs.YtpndfdfipkadkaaGreatDoor.Fx
open Go Go.Wx
noncomputable abbrev Pg:Program:=Tryz.prog
theorem folM:Pg.follows .mixedOrders=true:=by kernel_rfl
@[ext] structure TArc where
 From:Int
 To:Int
 Letter:Int
 Cost:Int
def TArc.enc(x:TArc):List Value:=[vi x.From,vi x.To,vu x.Letter,vi x.Cost]
theorem tk3:tyk Pg 3=some (false,1):=by kernel_rfl
theorem tk5:tyk Pg 5=some (false,1):=by kernel_rfl
theorem slk54:slk Pg 54=some (3,1):=by kernel_rfl
end Go.Proofs.YtpndfdfipkadkaaGreatDoor.Fx
namespace Go.Proofs.YtpndfdfipkadkaaGreatDoor.Fx
open Go Go.Wx
set_option maxRecDepth 100000
def places_raw_1.R (Q : Int → World → Prop) (x : TArc) (y : TArc) (w : World) : Prop := (
  Al w (.cells #[vi x.From, vi x.To, vu x.Letter, vi x.Cost] 205) fun b1 w1 =>
      Al w1 (.cells #[vi y.From, vi y.To, vu y.Letter, vi y.Cost] 205) fun b2 w2 =>
      Dr w2 fun w3 =>
      Cl Pg 205 #[vi x.From, vi y.From] w3 (fun v w4 => ∃ (r1 : Int), v = vi r1 ∧ Kp b1 w3 w4 ∧ Kp b2 w3 w4 ∧ Cl Pg 205 #[vi x.To, vi y.To] w4 (fun v w5 => ∃ (r2 : Int), v = vi r2 ∧ Kp b1 w4 w5 ∧ Kp b2 w4 w5 ∧ Cl Pg 215 #[vu x.Letter, vu y.Letter] w5 (fun v w6 => ∃ (r3 : Int), v = vi r3 ∧ Al w6 (.cells #[vi r1, vi r2, vi r3] 3) fun b3 w7 =>
      Cl Pg 204 #[vl (some ⟨b3, 0, none⟩) 3 3] w7 (fun v w8 => ∃ (r4 : Int), v = vi r4 ∧ Q r4 w8)))))
theorem places_raw_1.ok{Q:Int→World→Prop}{x:TArc}{y:TArc}{w:World}(h:places_raw_1.R Q x y w):Cl Pg 214 #[vg (TArc.enc x),vg (TArc.enc y)] w (fun v w'=>∃(r0:Int),v=vi r0∧Q r0 w'):=by
 refine calls_args (args:=[vg (TArc.enc x),vg (TArc.enc y)]) Tryz.func214 ?_
 unfold places_raw_1.R at h
 refine W_regseq ?_
 refine alp h ?_
 intro b1 w1 eb ew hb_b1 h
 clear eb ew
 refine alp h ?_
 intro b2 w2 eb ew hb_b2 h
 have old_hb_b1:=hb_b1
 replace hb_b1:=al_keep ew hb_b1
 have ne_b1_b2:b1≠b2:=blk_ne old_hb_b1 eb
 clear old_hb_b1
 clear eb ew
 refine ps 1 [(4,vi 0)] ?_
 refine WO_nil ?_
 refine drs folM [[],[],[],[],[1,3],[],[],[],[],[1,3,6,8],[],[],[],[],[1,3,6,8,11,13],[1,3,6,8,11,13],[1,3,6,8,11,13],[1,3,6,8,11,13]] [.p 0,.l 1,.p 2,.l 3,.p 5,.l 6,.p 7,.l 8,.p 10,.l 11,.p 12,.l 13,.e 4,.e 9,.e 14,.e 15,.e 16,.p 17] h ?_
 intro w3 ew h
 replace hb_b1:=dr_keep ew hb_b1
 replace hb_b2:=dr_keep ew hb_b2
 clear ew
 refine psC 1 [(5,vp ⟨b1,0,none⟩)] ?_
 refine lb1C tk3 hb_b1 ?_
 refine psC 1 [(7,vp ⟨b2,0,none⟩)] ?_
 refine lb1C tk3 hb_b2 ?_
 refine psC 1 [(10,vp ⟨b1,1,none⟩)] ?_
 refine lb1C tk3 hb_b1 ?_
 refine psC 1 [(12,vp ⟨b2,1,none⟩)] ?_
 refine lb1C tk3 hb_b2 ?_
 refine psC 1 [(15,vp ⟨b1,2,none⟩)] ?_
 refine lb1C tk5 hb_b1 ?_
 refine psC 1 [(17,vp ⟨b2,2,none⟩)] ?_
 refine lb1C tk5 hb_b2 ?_
 refine clC h ?_
 rintro _ w4 ⟨r1,rfl,hk0,hk1,h⟩
 replace hb_b1:=kp_at hk0 hb_b1
 replace hb_b2:=kp_at hk1 hb_b2
 refine⟨AllOk.cons (Pend_ok (ex_load rfl rfl (run_loadVar1 tk5 (cell_blk hb_b2 rfl))))<|AllOk.cons (Pend_ok (ex_load rfl rfl (run_loadVar1 tk5 (cell_blk hb_b1 rfl))))<|AllOk.cons (Pend_ok (ex_load rfl rfl (run_loadVar1 tk3 (cell_blk hb_b2 rfl))))<|AllOk.cons (Pend_ok (ex_load rfl rfl (run_loadVar1 tk3 (cell_blk hb_b1 rfl))))<|AllOk.nil,?_⟩
 refine clC h ?_
 rintro _ w5 ⟨r2,rfl,hk0,hk1,h⟩
 replace hb_b1:=kp_at hk0 hb_b1
 replace hb_b2:=kp_at hk1 hb_b2
 refine⟨AllOk.cons (Pend_ok (ex_load rfl rfl (run_loadVar1 tk5 (cell_blk hb_b2 rfl))))<|AllOk.cons (Pend_ok (ex_load rfl rfl (run_loadVar1 tk5 (cell_blk hb_b1 rfl))))<|AllOk.nil,?_⟩
 refine clC h ?_
 rintro _ w6 ⟨r3,rfl,h⟩
 refine⟨AllOk.nil,?_⟩
 refine alsC 3 h ?_
 intro b3 w7 eb ew hb_b3 h
 clear eb ew hb_b3
 refine⟨AllOk.nil,?_⟩
 refine clC h ?_
 rintro _ w8 ⟨r4,rfl,h⟩
 refine⟨AllOk.nil,?_⟩
 refine psC 1 [(4,vi r4)] ?_
 refine WC_nil ?_
 refine W_ret ?_
 exact ret1 (v:=vi r4) (t:=4) rfl rfl ⟨_,rfl,h⟩
end Go.Proofs.YtpndfdfipkadkaaGreatDoor.Fx
namespace Go.Proofs.YtpndfdfipkadkaaGreatDoor.Fx
open Go Go.Wx
set_option maxRecDepth 100000
def cmp_Compare_int.R (Q : Int → World → Prop) (x : Int) (y : Int) (w : World) : Prop := (
  Cl Pg 239 #[vi x] w (fun v w1 => ∃ (r1 : Bool), v = vb r1 ∧ Cl Pg 239 #[vi y] w1 (fun v w2 => ∃ (r2 : Bool), v = vb r2 ∧ Ifb r1
      (Ifb r2
      (Q 0 w2)
      (Q (-1) w2))
      (Ifb r2
      (Q 1 w2)
      (Ifb (decide (x < y))
      (Q (-1) w2)
      (Ifb (decide (x > y))
      (Q 1 w2)
      (Q 0 w2)))))))
theorem cmp_Compare_int.ok{Q:Int→World→Prop}{x:Int}{y:Int}{w:World}(h:cmp_Compare_int.R Q x y w):Cl Pg 205 #[vi x,vi y] w (fun v w'=>∃(r0:Int),v=vi r0∧Q r0 w'):=by
 refine calls_args (args:=[vi x,vi y]) Tryz.func205 ?_
 unfold cmp_Compare_int.R at h
 refine W_regseq ?_
 refine ps 1 [(4,vi 0)] ?_
 refine WO_nil ?_
 refine W_regseq ?_
 refine ps 1 [(7,vi x)] ?_
 refine cl h ?_
 rintro _ w1 ⟨r1,rfl,h⟩
 refine ps 1 [(5,vb r1)] ?_
 refine WO_nil ?_
 refine W_regseq ?_
 refine ps 1 [(9,vi y)] ?_
 refine cl h ?_
 rintro _ w2 ⟨r2,rfl,h⟩
 refine ps 1 [(6,vb r2)] ?_
 refine WO_nil ?_
 refine W_seq ?_
 refine W_regseq ?_
 refine ps 1 [(11,vb r1)] ?_
 refine WO_nil ?_
 refine ci h (fun h=>?_) fun h=>?_
 ·refine W_seq ?_
  refine W_regseq ?_
  refine ps 1 [(12,vb r2)] ?_
  refine WO_nil ?_
  refine ci h (fun h=>?_) fun h=>?_
  ·refine W_regseq ?_
   refine ps 1 [(4,vi 0)] ?_
   refine WO_nil ?_
   refine W_ret ?_
   refine seqK_ret ?_
   refine seqK_ret ?_
   exact ret1 (v:=vi 0) (t:=4) rfl rfl ⟨_,rfl,h⟩
  ·refine W_skip ?_
   refine W_regseq ?_
   refine ps 1 [(4,vi (-1))] ?_
   refine WO_nil ?_
   refine W_ret ?_
   refine seqK_ret ?_
   exact ret1 (v:=vi (-1)) (t:=4) rfl rfl ⟨_,rfl,h⟩
 ·refine W_skip ?_
  refine W_seq ?_
  refine W_regseq ?_
  refine ps 1 [(13,vb r2)] ?_
  refine WO_nil ?_
  refine ci h (fun h=>?_) fun h=>?_
  ·refine W_regseq ?_
   refine ps 1 [(4,vi 1)] ?_
   refine WO_nil ?_
   refine W_ret ?_
   refine seqK_ret ?_
   exact ret1 (v:=vi 1) (t:=4) rfl rfl ⟨_,rfl,h⟩
  ·refine W_skip ?_
   refine W_seq ?_
   refine W_regseq ?_
   refine ps 3 [(14,vi x),(15,vi y),(16,vb (decide (x<y)))] ?_
   refine WO_nil ?_
   refine ci h (fun h=>?_) fun h=>?_
   ·refine W_regseq ?_
    refine ps 1 [(4,vi (-1))] ?_
    refine WO_nil ?_
    refine W_ret ?_
    refine seqK_ret ?_
    exact ret1 (v:=vi (-1)) (t:=4) rfl rfl ⟨_,rfl,h⟩
   ·refine W_skip ?_
    refine W_seq ?_
    refine W_regseq ?_
    refine ps 3 [(17,vi x),(18,vi y),(19,vb (decide (x>y)))] ?_
    refine WO_nil ?_
    refine ci h (fun h=>?_) fun h=>?_
    ·refine W_regseq ?_
     refine ps 1 [(4,vi 1)] ?_
     refine WO_nil ?_
     refine W_ret ?_
     refine seqK_ret ?_
     exact ret1 (v:=vi 1) (t:=4) rfl rfl ⟨_,rfl,h⟩
    ·refine W_skip ?_
     refine W_regseq ?_
     refine ps 1 [(4,vi 0)] ?_
     refine WO_nil ?_
     refine W_ret ?_
     exact ret1 (v:=vi 0) (t:=4) rfl rfl ⟨_,rfl,h⟩
end Go.Proofs.YtpndfdfipkadkaaGreatDoor.Fx
namespace Go.Proofs.YtpndfdfipkadkaaGreatDoor.Fx
open Go Go.Wx
set_option maxRecDepth 100000
def cmp_Compare_byte.R (Q : Int → World → Prop) (x : Int) (y : Int) (w : World) : Prop := (
  Cl Pg 243 #[vu x] w (fun v w1 => ∃ (r1 : Bool), v = vb r1 ∧ Cl Pg 243 #[vu y] w1 (fun v w2 => ∃ (r2 : Bool), v = vb r2 ∧ Ifb r1
      (Ifb r2
      (Q 0 w2)
      (Q (-1) w2))
      (Ifb r2
      (Q 1 w2)
      (Ifb (decide (x < y))
      (Q (-1) w2)
      (Ifb (decide (x > y))
      (Q 1 w2)
      (Q 0 w2)))))))
theorem cmp_Compare_byte.ok{Q:Int→World→Prop}{x:Int}{y:Int}{w:World}(h:cmp_Compare_byte.R Q x y w):Cl Pg 215 #[vu x,vu y] w (fun v w'=>∃(r0:Int),v=vi r0∧Q r0 w'):=by
 refine calls_args (args:=[vu x,vu y]) Tryz.func215 ?_
 unfold cmp_Compare_byte.R at h
 refine W_regseq ?_
 refine ps 1 [(4,vi 0)] ?_
 refine WO_nil ?_
 refine W_regseq ?_
 refine ps 1 [(7,vu x)] ?_
 refine cl h ?_
 rintro _ w1 ⟨r1,rfl,h⟩
 refine ps 1 [(5,vb r1)] ?_
 refine WO_nil ?_
 refine W_regseq ?_
 refine ps 1 [(9,vu y)] ?_
 refine cl h ?_
 rintro _ w2 ⟨r2,rfl,h⟩
 refine ps 1 [(6,vb r2)] ?_
 refine WO_nil ?_
 refine W_seq ?_
 refine W_regseq ?_
 refine ps 1 [(11,vb r1)] ?_
 refine WO_nil ?_
 refine ci h (fun h=>?_) fun h=>?_
 ·refine W_seq ?_
  refine W_regseq ?_
  refine ps 1 [(12,vb r2)] ?_
  refine WO_nil ?_
  refine ci h (fun h=>?_) fun h=>?_
  ·refine W_regseq ?_
   refine ps 1 [(4,vi 0)] ?_
   refine WO_nil ?_
   refine W_ret ?_
   refine seqK_ret ?_
   refine seqK_ret ?_
   exact ret1 (v:=vi 0) (t:=4) rfl rfl ⟨_,rfl,h⟩
  ·refine W_skip ?_
   refine W_regseq ?_
   refine ps 1 [(4,vi (-1))] ?_
   refine WO_nil ?_
   refine W_ret ?_
   refine seqK_ret ?_
   exact ret1 (v:=vi (-1)) (t:=4) rfl rfl ⟨_,rfl,h⟩
 ·refine W_skip ?_
  refine W_seq ?_
  refine W_regseq ?_
  refine ps 1 [(13,vb r2)] ?_
  refine WO_nil ?_
  refine ci h (fun h=>?_) fun h=>?_
  ·refine W_regseq ?_
   refine ps 1 [(4,vi 1)] ?_
   refine WO_nil ?_
   refine W_ret ?_
   refine seqK_ret ?_
   exact ret1 (v:=vi 1) (t:=4) rfl rfl ⟨_,rfl,h⟩
  ·refine W_skip ?_
   refine W_seq ?_
   refine W_regseq ?_
   refine ps 3 [(14,vu x),(15,vu y),(16,vb (decide (x<y)))] ?_
   refine WO_nil ?_
   refine ci h (fun h=>?_) fun h=>?_
   ·refine W_regseq ?_
    refine ps 1 [(4,vi (-1))] ?_
    refine WO_nil ?_
    refine W_ret ?_
    refine seqK_ret ?_
    exact ret1 (v:=vi (-1)) (t:=4) rfl rfl ⟨_,rfl,h⟩
   ·refine W_skip ?_
    refine W_seq ?_
    refine W_regseq ?_
    refine ps 3 [(17,vu x),(18,vu y),(19,vb (decide (x>y)))] ?_
    refine WO_nil ?_
    refine ci h (fun h=>?_) fun h=>?_
    ·refine W_regseq ?_
     refine ps 1 [(4,vi 1)] ?_
     refine WO_nil ?_
     refine W_ret ?_
     refine seqK_ret ?_
     exact ret1 (v:=vi 1) (t:=4) rfl rfl ⟨_,rfl,h⟩
    ·refine W_skip ?_
     refine W_regseq ?_
     refine ps 1 [(4,vi 0)] ?_
     refine WO_nil ?_
     refine W_ret ?_
     exact ret1 (v:=vi 0) (t:=4) rfl rfl ⟨_,rfl,h⟩
end Go.Proofs.YtpndfdfipkadkaaGreatDoor.Fx
namespace Go.Proofs.YtpndfdfipkadkaaGreatDoor.Fx
open Go Go.Wx
set_option maxRecDepth 100000
def cmp_Or_int.l1 (Q : Int → World → Prop) (vals_a : Option Addr) (vals_n : Nat) : Nat → Int → World → Prop
       | 0, _, _ => False
       | nl1 + 1, v1, w1 => (
       Ifb (decide (v1 < ((vals_n : Nat) : Int)))
      (Ix vals_a vals_n v1 fun p1 =>
      LdI .i64 w1 (Addr.add p1 (v1.toNat * 1)) fun x1 =>
      Ifb (x1 != (0 : Int))
      (Q x1 w1)
      ((cmp_Or_int.l1 Q vals_a vals_n nl1) (IntKind.wrap .i64 (v1 + (1 : Int))) w1))
      (Q 0 w1))
def cmp_Or_int.R(Q:Int→World→Prop)(vals_a:Option Addr)(vals_n:Nat)(vals_c:Nat)(w:World):Prop:=(
 ∃k,cmp_Or_int.l1 Q vals_a vals_n k 0 w)
theorem cmp_Or_int.ok{Q:Int→World→Prop}{vals_a:Option Addr}{vals_n:Nat}{vals_c:Nat}{w:World}(h:cmp_Or_int.R Q vals_a vals_n vals_c w):Cl Pg 204 #[vl vals_a vals_n vals_c] w (fun v w'=>∃(r0:Int),v=vi r0∧Q r0 w'):=by
 refine calls_args (args:=[vl vals_a vals_n vals_c]) Tryz.func204 ?_
 unfold cmp_Or_int.R at h
 refine W_regseq ?_
 refine ps 1 [(2,vi 0)] ?_
 refine WO_nil ?_
 refine W_regseq ?_
 refine ps 1 [(3,vi 0)] ?_
 refine WO_nil ?_
 refine W_seq ?_
 refine W_regseq ?_
 refine ps 3 [(6,vl vals_a vals_n vals_c),(7,vi (vals_n:Nat)),(8,vi 0)] ?_
 refine WO_nil ?_
 refine W_block ?_
 obtain⟨nl1,h⟩:=h
 refine W_loopI (fun k e w1=>∃(e0:Env) (v1:Int),e=upds e0 [(3,vi 0),(6,vl vals_a vals_n vals_c),(7,vi (vals_n:Nat)),(8,vi v1)]∧cmp_Or_int.l1 Q vals_a vals_n k v1 w1) nl1 ?_ ?_ ?_
 ·rintro _ _ ⟨_,_,_,h⟩
  exact h
 ·exact⟨_,0,Agree.eq ⟨rfl,rfl,rfl,rfl,trivial⟩,h⟩
 ·clear h nl1
  rintro nl1 _ w1 ⟨e0,v1,rfl,h⟩
  unfold cmp_Or_int.l1 at h
  refine W_regseq ?_
  refine ps 1 [(9,vb (decide (v1<((vals_n:Nat):Int))))] ?_
  refine WO_nil ?_
  refine W_seq ?_
  refine ci h (fun h=>?_) fun h=>?_
  ·refine W_skip ?_
   refine W_seq ?_
   refine W_block ?_
   refine W_regseq ?_
   refine ix slk54 h fun p1 h=>?_
   obtain⟨x1,hx1,h⟩:=h
   refine ld1 tk3 hx1 ?_
   refine ps 1 [(5,vi x1)] ?_
   refine WO_nil ?_
   refine W_regseq ?_
   refine ps 3 [(12,vi x1),(13,vi 0),(14,vb (x1 !=(0:Int)))] ?_
   refine WO_nil ?_
   refine ci h (fun h=>?_) fun h=>?_
   ·refine W_regseq ?_
    refine ps 2 [(15,vi x1),(2,vi x1)] ?_
    refine WO_nil ?_
    refine W_ret ?_
    refine blockK_ret ?_
    refine seqK_ret ?_
    refine seqK_ret ?_
    refine blockK_ret ?_
    refine seqK_ret ?_
    exact ret1 (v:=vi x1) (t:=2) rfl rfl ⟨_,rfl,h⟩
   ·refine W_skip ?_
    refine blockK_normal ?_
    refine W_reg ?_
    refine ps 2 [(16,vi (IntKind.wrap .i64 (v1+(1:Int)))),(8,vi (IntKind.wrap .i64 (v1+(1:Int))))] ?_
    refine WO_nil ?_
    exact⟨_,IntKind.wrap .i64 (v1+(1:Int)),Agree.eq ⟨rfl,rfl,rfl,rfl,trivial⟩,h⟩
  ·refine W_exit ?_
   refine blockK_hit ?_
   refine W_regseq ?_
   refine ps 2 [(17,vi 0),(2,vi 0)] ?_
   refine WO_nil ?_
   refine W_ret ?_
   exact ret1 (v:=vi 0) (t:=2) rfl rfl ⟨_,rfl,h⟩
end Go.Proofs.YtpndfdfipkadkaaGreatDoor.Fx
namespace Go.Proofs.YtpndfdfipkadkaaGreatDoor.Fx
open Go Go.Wx
set_option maxRecDepth 100000
def cmp_isNaN_int.R(Q:Bool→World→Prop)(x:Int)(w:World):Prop:=(
 Q (x !=x) w)
theorem cmp_isNaN_int.ok{Q:Bool→World→Prop}{x:Int}{w:World}(h:cmp_isNaN_int.R Q x w):Cl Pg 239 #[vi x] w (fun v w'=>∃(r0:Bool),v=vb r0∧Q r0 w'):=by
 refine calls_args (args:=[vi x]) Tryz.func239 ?_
 unfold cmp_isNaN_int.R at h
 refine W_regseq ?_
 refine ps 1 [(2,vb false)] ?_
 refine WO_nil ?_
 refine W_regseq ?_
 refine ps 4 [(3,vi x),(4,vi x),(5,vb (x !=x)),(2,vb (x !=x))] ?_
 refine WO_nil ?_
 refine W_ret ?_
 exact ret1 (v:=vb (x !=x)) (t:=2) rfl rfl ⟨_,rfl,h⟩
end Go.Proofs.YtpndfdfipkadkaaGreatDoor.Fx
namespace Go.Proofs.YtpndfdfipkadkaaGreatDoor.Fx
open Go Go.Wx
set_option maxRecDepth 100000
def cmp_isNaN_byte.R(Q:Bool→World→Prop)(x:Int)(w:World):Prop:=(
 Q (x !=x) w)
theorem cmp_isNaN_byte.ok{Q:Bool→World→Prop}{x:Int}{w:World}(h:cmp_isNaN_byte.R Q x w):Cl Pg 243 #[vu x] w (fun v w'=>∃(r0:Bool),v=vb r0∧Q r0 w'):=by
 refine calls_args (args:=[vu x]) Tryz.func243 ?_
 unfold cmp_isNaN_byte.R at h
 refine W_regseq ?_
 refine ps 1 [(2,vb false)] ?_
 refine WO_nil ?_
 refine W_regseq ?_
 refine ps 4 [(3,vu x),(4,vu x),(5,vb (x !=x)),(2,vb (x !=x))] ?_
 refine WO_nil ?_
 refine W_ret ?_
 exact ret1 (v:=vb (x !=x)) (t:=2) rfl rfl ⟨_,rfl,h⟩
end Go.Proofs.YtpndfdfipkadkaaGreatDoor.Fx
set_option maxRecDepth 100000
namespace Go.Proofs.YtpndfdfipkadkaaGreatDoor.Fx
open Go Go.Wx Go.Sort
def cmpZ(a b:Int):Int:=if a<b then -1 else if a>b then 1 else 0
def orZ(l:List Int):Int:=(l.find? (· !=0)).getD 0
theorem ifb_t{b:Bool}{A B:Prop}(h:b=true)(k:A):Ifb b A B:=⟨fun _=>k,fun h'=>(by rw[h]at h';cases h')⟩
theorem ifb_f{b:Bool}{A B:Prop}(h:b=false)(k:B):Ifb b A B:=⟨fun h'=>(by rw[h]at h';cases h'),fun _=>k⟩
theorem nan_z(n:Int)(w:World):Cl Pg 239 #[vi n] w fun v w'=>v=vb false∧w'=w:=
 Calls.mono (cmp_isNaN_int.ok (Q:=fun r w'=>r=false∧w'=w) (x:=n) (w:=w) ⟨by simp,rfl⟩) fun e w' ⟨v,he,r,hv,hr,hw⟩=>⟨v,he,by rw[hv,hr],hw⟩
theorem nanB_z(n:Int)(w:World):Cl Pg 243 #[vu n] w fun v w'=>v=vb false∧w'=w:=
 Calls.mono (cmp_isNaN_byte.ok (Q:=fun r w'=>r=false∧w'=w) (x:=n) (w:=w) ⟨by simp,rfl⟩) fun e w' ⟨v,he,r,hv,hr,hw⟩=>⟨v,he,by rw[hv,hr],hw⟩
theorem cmp_z(a b:Int)(w:World):Cl Pg 205 #[vi a,vi b] w fun v w'=>v=vi (cmpZ a b)∧w'=w:=by
 refine Calls.mono (cmp_Compare_int.ok (Q:=fun r w'=>r=cmpZ a b∧w'=w) (x:=a) (y:=b) (w:=w) ?_) fun e w' ⟨v,he,r,hv,hr,hw⟩=>⟨v,he,by rw[hv,hr],hw⟩
 unfold cmp_Compare_int.R
 refine Calls.mono (nan_z a w) fun e w1 ⟨v,he,hv,hw⟩=>⟨v,he,false,hv,?_⟩
 subst hw
 refine Calls.mono (nan_z b w1) fun e w2 ⟨v,he,hv,hw⟩=>⟨v,he,false,hv,?_⟩
 subst hw
 refine ifb_f rfl (ifb_f rfl ⟨fun h=>⟨?_,rfl⟩,fun h=>⟨fun h2=>⟨?_,rfl⟩,fun h2=>⟨?_,rfl⟩⟩⟩)
 ·simp at h;rw[cmpZ,if_pos h]
 ·simp at h h2;rw[cmpZ,if_neg (by omega),if_pos h2]
 ·simp at h h2;rw[cmpZ,if_neg (by omega),if_neg (by omega)]
theorem cmpB_z(a b:Int)(w:World):Cl Pg 215 #[vu a,vu b] w fun v w'=>v=vi (cmpZ a b)∧w'=w:=by
 refine Calls.mono (cmp_Compare_byte.ok (Q:=fun r w'=>r=cmpZ a b∧w'=w) (x:=a) (y:=b) (w:=w) ?_) fun e w' ⟨v,he,r,hv,hr,hw⟩=>⟨v,he,by rw[hv,hr],hw⟩
 unfold cmp_Compare_byte.R
 refine Calls.mono (nanB_z a w) fun e w1 ⟨v,he,hv,hw⟩=>⟨v,he,false,hv,?_⟩
 subst hw
 refine Calls.mono (nanB_z b w1) fun e w2 ⟨v,he,hv,hw⟩=>⟨v,he,false,hv,?_⟩
 subst hw
 refine ifb_f rfl (ifb_f rfl ⟨fun h=>⟨?_,rfl⟩,fun h=>⟨fun h2=>⟨?_,rfl⟩,fun h2=>⟨?_,rfl⟩⟩⟩)
 ·simp at h;rw[cmpZ,if_pos h]
 ·simp at h h2;rw[cmpZ,if_neg (by omega),if_pos h2]
 ·simp at h h2;rw[cmpZ,if_neg (by omega),if_neg (by omega)]
theorem or3_z(a b c:Int)(w:World)(blk:Nat)(hb:w.heap[blk]? =some (Obj.cells #[vi a,vi b,vi c] 3 (0,0))):Cl Pg 204 #[vl (some ⟨blk,0,none⟩) 3 3] w fun v w'=>v=vi (orZ [a,b,c])∧w'=w:=by
 refine Calls.mono (cmp_Or_int.ok (Q:=fun r w'=>r=orZ [a,b,c]∧w'=w) (vals_a:=some ⟨blk,0,none⟩) (vals_n:=3) (vals_c:=3) (w:=w) ⟨4,?_⟩) fun e w' ⟨v,he,r,hv,hr,hw⟩=>⟨v,he,by rw[hv,hr],hw⟩
 have h0:w.cell? ⟨blk,0,none⟩=some (vi a):=cell_blk hb rfl
 have h1:w.cell? ⟨blk,1,none⟩=some (vi b):=cell_blk hb rfl
 have h2:w.cell? ⟨blk,2,none⟩=some (vi c):=cell_blk hb rfl
 refine ifb_t (by decide) ⟨_,rfl,by decide,by decide,a,h0,⟨fun h=>⟨?_,rfl⟩,fun h=>?_⟩⟩
 ·simp[orZ,h]
 have ha:a=0:=by simpa using h
 refine ifb_t (by decide) ⟨_,rfl,by decide,by decide,b,h1,⟨fun h=>⟨?_,rfl⟩,fun h=>?_⟩⟩
 ·simp[orZ,ha,h]
 have hb0:b=0:=by simpa using h
 refine ifb_t (by decide) ⟨_,rfl,by decide,by decide,c,h2,⟨fun h=>⟨?_,rfl⟩,fun h=>?_⟩⟩
 ·simp[orZ,ha,hb0,h]
 have hc0:c=0:=by simpa using h
 refine ifb_f (by decide) ⟨?_,rfl⟩
 simp[orZ,ha,hb0,hc0]
theorem push3(h:Array Obj)(a b c:Obj):((h.push a).push b).push c=h++ #[a,b,c]:=by
 apply Array.ext'
 simp
structure ArcZ where
 frm:Int
 to:Int
 letter:Int
 cost:Int
deriving Inhabited
def ArcZ.vals(x:ArcZ):List Value:=[vi x.frm,vi x.to,vu x.letter,vi x.cost]
def cmpArcZ(x y:ArcZ):Int:=orZ [cmpZ x.frm y.frm,cmpZ x.to y.to,cmpZ x.letter y.letter]
theorem cmpArc_z(x y:ArcZ)(w:World):Calls Pg 214 #[.agg x.vals.toArray,.agg y.vals.toArray] w fun e w'=>e= .returned (.int .i64 (cmpArcZ x y))∧∃q os,w'=grow (w.drewN q) os:=by
 have hk:∀{w':World} {w2:World} {b:Nat},w2=w'→Kp b w' w2:=fun h=>by subst h;rfl
 refine Calls.mono (places_raw_1.ok (Q:=fun r w'=>r=cmpArcZ x y∧w'=grow (w.drewN 1) #[.cells #[vi x.frm,vi x.to,vu x.letter,vi x.cost] 205,.cells #[vi y.frm,vi y.to,vu y.letter,vi y.cost] 205,.cells #[vi (cmpZ x.frm y.frm),vi (cmpZ x.to y.to),vi (cmpZ x.letter y.letter)] 3]) (x:=⟨x.frm,x.to,x.letter,x.cost⟩) (y:=⟨y.frm,y.to,y.letter,y.cost⟩) (w:=w) ?_) fun e w' ⟨v,he,r,hv,hr,hw⟩=>⟨by rw[he,hv,hr],_,_,hw⟩
 show Cl _ _ _ _ _
 refine Calls.mono (cmp_z x.frm y.frm _) fun e w1 ⟨v,he,hv,hw⟩=>⟨v,he,cmpZ x.frm y.frm,hv,hk hw,hk hw,?_⟩
 subst hw
 refine Calls.mono (cmp_z x.to y.to _) fun e w1 ⟨v,he,hv,hw⟩=>⟨v,he,cmpZ x.to y.to,hv,hk hw,hk hw,?_⟩
 subst hw
 refine Calls.mono (cmpB_z x.letter y.letter _) fun e w1 ⟨v,he,hv,hw⟩=>⟨v,he,cmpZ x.letter y.letter,hv,?_⟩
 subst hw
 show Cl _ _ _ _ _
 refine Calls.mono (or3_z _ _ _ _ _ ?_) fun e w1 ⟨v,he,hv,hw⟩=>⟨v,he,_,hv,rfl,?_⟩
 ·exact heap_alloc_new _ _
 ·rw[hw]
  exact congrArg (fun h=>({w with heap:=h,drawn:=w.drawn+1}:World)) (push3 w.heap _ _ _)
end Go.Proofs.YtpndfdfipkadkaaGreatDoor.Fx
