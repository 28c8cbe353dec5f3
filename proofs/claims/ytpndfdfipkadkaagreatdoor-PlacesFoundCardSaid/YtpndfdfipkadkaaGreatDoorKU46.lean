/- The law holds: part 378. Conditions: none. -/
import Derived.Test.YtpndfdfipkadkaaGreatDoorKU38
set_option linter.all false
set_option maxRecDepth 100000
namespace Go.Proofs.YtpndfdfipkadkaaGreatDoor
open Go Go.Wx Go.Ax Go.ChangeShapes Go.WideShapes Go.ChangeAt Go.RowKit
theorem fk205:flatK Pg 9 205=some [.int .i64,.int .i64,.int .u8,.int .i64]:=by kernel_rfl
theorem fk209:flatK Pg 9 209=some [.int .i64,.int .i64]:=by kernel_rfl
theorem fk75:flatK Pg 9 75=some [.int .i64,.sl 72,.sl 73]:=by kernel_rfl
def End.vals(x:End):List Value:=[.int .i64 x.state,.int .i64 x.cost]
instance : Inhabited End := ⟨⟨0, 0⟩⟩
section
variable {H : Type} {enc : TypeId × Value → H} {w : World} {base : Nat} {spare : Nat → Bool} {held : Bool}
theorem el205(cs:List Value)(h:CM enc Pg w base spare held [.int .i64,.int .i64,.int .u8,.int .i64] cs):∃y:Arc,cs=y.vals∧True:=by
 simp only[CM]at h
 obtain⟨a1,_,rfl,_,a2,_,rfl,_,a3,_,rfl,_,a4,_,rfl,_,rfl⟩:=h
 exact⟨⟨a1,a2,a3,a4⟩,rfl,trivial⟩
theorem el209(cs:List Value)(h:CM enc Pg w base spare held [.int .i64,.int .i64] cs):∃y:End,cs=y.vals∧True:=by
 simp only[CM]at h
 obtain⟨a1,_,rfl,_,a2,_,rfl,_,rfl⟩:=h
 exact⟨⟨a1,a2⟩,rfl,trivial⟩
end
section
variable {H : Type} {enc : TypeId × Value → H} {W : World} {base : Nat} {spare : Nat → Bool} {held : Bool} {fuel : Nat} {a : Option Addr} {n c : Nat} {x : DataW H × List MemPlace}
theorem rp_arcs(h:DataW.trod enc Pg W base spare held fuel 72 [.slice a n c]=some x)(hw:∀m∈x.1.weights Pg 72,m≤reachBytes):∃l:List Arc,Rp (X0 W) (rows Arc.enc l) (.slice a n c):=by
 have hnc:n≤c:=by
  rcases DataW.trod_slice Tryz.underlying72 h with⟨hcs,_⟩ | ⟨a0,len,cap,elems,rest,m,rfl,hcs,rfl,hb,hlc,_⟩
  ·cases hcs;exact Nat.le_refl _
  ·cases hcs;exact hlc
 obtain⟨l,hr,_,hn,hex⟩:=open_rows (α:=Arc) (encA:=Arc.vals) (sz:=4) (Ex:=fun _ _=>True) Tryz.underlying72 fk205 (by kernel_rfl) (B:=Pg.bytesOf 205) rfl el205 h hw
 exact⟨l,rp_rowV hr (by decide) (fun _=>rfl) (fun y v hv=>by simp[Arc.vals]at hv;rcases hv with rfl | rfl | rfl | rfl<;>rfl) hnc hn⟩
theorem rp_ends(h:DataW.trod enc Pg W base spare held fuel 73 [.slice a n c]=some x)(hw:∀m∈x.1.weights Pg 73,m≤reachBytes):∃l:List End,Rp (X0 W) (rows End.enc l) (.slice a n c):=by
 have hnc:n≤c:=by
  rcases DataW.trod_slice Tryz.underlying73 h with⟨hcs,_⟩ | ⟨a0,len,cap,elems,rest,m,rfl,hcs,rfl,hb,hlc,_⟩
  ·cases hcs;exact Nat.le_refl _
  ·cases hcs;exact hlc
 obtain⟨l,hr,_,hn,hex⟩:=open_rows (α:=End) (encA:=End.vals) (sz:=2) (Ex:=fun _ _=>True) Tryz.underlying73 fk209 (by kernel_rfl) (B:=Pg.bytesOf 209) rfl el209 h hw
 exact⟨l,rp_rowV hr (by decide) (fun _=>rfl) (fun y v hv=>by simp[End.vals]at hv;rcases hv with rfl | rfl<;>rfl) hnc hn⟩
end
theorem open_auto{H:Type}{enc:TypeId × Value→H}{W:World}{base:Nat}{spare:Nat→Bool}{held:Bool}{r:Reach}{b0:Nat}{v:Value}{d:DataW H}{p:List MemPlace}(hv:Value.okWide Pg W r b0 75 v)(h:DataW.Trod enc Pg W base spare held 75 v d p)(hw:∀m∈d.weights Pg 75,m≤reachBytes):∃A:Auto,Rp (X0 W) (.agg A.enc) v:=by
 obtain⟨cs,rfl,_⟩:=okWide_struct Tryz.underlying75 hv
 obtain⟨fuel,hf⟩:=h
 have hm:=trod_flat 9 fuel 75 _ _ _ fk75 hf hw
 simp only[CM]at hm
 obtain⟨s,_,hc,_,a1,n1,c1,_,rfl,⟨f1,x1,g1,w1⟩,a2,n2,c2,_,rfl,⟨f2,x2,g2,w2⟩,rfl⟩:=hm
 obtain⟨l1,r1⟩:=rp_arcs g1 w1
 obtain⟨l2,r2⟩:=rp_ends g2 w2
 obtain rfl:cs= #[.int .i64 s,.slice a1 n1 c1,.slice a2 n2 c2]:=Array.toList_inj.1 hc
 refine⟨⟨s,l1,l2⟩,.agg rfl fun j d v h1 h2=>?_⟩
 match j,h1,h2 with
 | 0,h1,h2=>cases h1;cases h2;exact .v _
 | 1,h1,h2=>cases h1;cases h2;exact r1
 | 2,h1,h2=>cases h1;cases h2;exact r2
 | j+3,h1,h2=>cases h1
end Go.Proofs.YtpndfdfipkadkaaGreatDoor
