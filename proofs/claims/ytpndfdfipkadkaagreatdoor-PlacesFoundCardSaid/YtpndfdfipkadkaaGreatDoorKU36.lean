/- The law holds: part 368. Conditions: none. -/
import Derived.Test.YtpndfdfipkadkaaGreatDoorKU18
import Derived.Test.YtpndfdfipkadkaaGreatDoorKU35
import Derived.Lib.ItoaLen
set_option linter.all false
set_option maxRecDepth 100000
namespace Go.Proofs.YtpndfdfipkadkaaGreatDoor
open Go Go.Wx Go.Ax
def wFound:ByteArray:=⟨#[102,111,117,110,100]⟩
def wRename:ByteArray:=⟨#[114,101,110,97,109,101]⟩
def wMove:ByteArray:=⟨#[109,111,118,101]⟩
def wMerge:ByteArray:=⟨#[109,101,114,103,101]⟩
def wAlias:ByteArray:=⟨#[97,108,105,97,115]⟩
def wK:List Value:=[.string wFound,.string wRename,.string wMove,.string wMerge,.string wAlias]
def wV:List D:=[.v (.int .u8 1),.v (.int .u8 2),.v (.int .u8 3),.v (.int .u8 4),.v (.int .u8 5)]
theorem keyS(a b:ByteArray):keyP Pg 9 (.string a) (.string b)=true:=by kernel_rfl
theorem keys_str{s:ByteArray}{ks:List Value}(h:∀k∈ks,∃b,k= .string b):KeysOk Pg 9 (.string s) ks:=⟨keyS s s,fun k hk=>by
 obtain⟨b,rfl⟩:=h k hk
 exact keyS s b⟩
theorem words_c:Pur Pg 73 [] (.fmap wK wV):=by
 refine fn Tryz.func73 [] [] .nil ?_
 have k1:∀k∈([]++[.string wFound]:List Value),∃b,k= .string b:=fun k hk=>by simp at hk;exact⟨_,hk⟩
 have k2:∀k∈([]++[.string wFound]++[.string wRename]:List Value),∃b,k= .string b:=fun k hk=>by simp at hk;rcases hk with rfl | rfl<;>exact⟨_,rfl⟩
 have k3:∀k∈([]++[.string wFound]++[.string wRename]++[.string wMove]:List Value),∃b,k= .string b:=fun k hk=>by simp at hk;rcases hk with rfl | rfl | rfl<;>exact⟨_,rfl⟩
 have k4:∀k∈([]++[.string wFound]++[.string wRename]++[.string wMove]++[.string wMerge]:List Value),∃b,k= .string b:=fun k hk=>by simp at hk;rcases hk with rfl | rfl | rfl | rfl<;>exact⟨_,rfl⟩
 conv=>whnf
 refine⟨keys_str (fun _ h=>nomatch h),?_⟩
 conv=>whnf
 refine⟨keys_str k1,?_⟩
 conv=>whnf
 refine mup_at (ks:=wK.take 2) (ds:=wV.take 2) (by kernel_rfl) ?_
 refine⟨keys_str k2,?_⟩
 conv=>whnf
 refine mup_at (ks:=wK.take 3) (ds:=wV.take 3) (by kernel_rfl) ?_
 refine⟨keys_str k3,?_⟩
 conv=>whnf
 refine mup_at (ks:=wK.take 4) (ds:=wV.take 4) (by kernel_rfl) ?_
 refine⟨keys_str k4,?_⟩
 have hw:∀d∈wV,Pd d:=fun d hd=>by simp[wV]at hd;rcases hd with rfl | rfl | rfl | rfl | rfl<;>exact .v _
 exact .map (b:=0) (ks:=wK) (ds:=wV) (ds':=wV) (by kernel_rfl) rfl (fun j d d' h1 h2=>by rw[h1]at h2;cases h2;exact .pd (hw d (List.mem_of_getElem? h1))) (Nat.zero_le _)
def wordOf(k:Int):ByteArray:=if k=1 then wFound else if k=2 then wRename else if k=3 then wMove else if k=4 then wMerge else if k=5 then wAlias else⟨#[]⟩
def sp:ByteArray:=⟨#[32]⟩
def partsL(e:Ev):List ByteArray:=[itoaB e.day,wordOf e.kind,itoaB e.place]++(if e.kind≠2∧e.kind≠5 then [itoaB e.other]else [])++(if e.name=⟨#[]⟩then []else [e.name])
def writeD(e:Ev):D:=if wrongL e≠0 then .tup [ds' ⟨#[]⟩,di (wrongL e)]else .tup [ds' (joinB (partsL e) sp),di 0]
def metW(k:Int)(l:List Nat):ByteArray:=if l.any (fun j=>decide ((j:Int)+1=k))then wordOf k else⟨#[]⟩
def pl17:Plan:=[(4,[.p 0,.l 1,.p 3,.l 4,.e 2,.e 5,.e 6,.p 7])]
theorem parts_len(e:Ev):(partsL e).length≤1000000:=by
 unfold partsL
 split<;>split<;>simp
theorem lens_le{b:Nat}:∀{xs:List (List UInt8)},(∀x∈xs,x.length≤b)→Lib.lens xs≤b*xs.length
 |[],_=>by simp[Lib.lens]
 | x::xs,h=>by
  have h1:=h x (by simp)
  have h2:=lens_le (b:=b) (xs:=xs) fun y hy=>h y (by simp[hy])
  simp only[Lib.lens,List.length_cons,Nat.mul_succ,List.map_cons,List.sum_cons]at h2 ⊢
  omega
theorem parts_join(e:Ev)(form:EvForm e):(Lib.join ((partsL e).map (·.data.toList)) sp.data.toList).length≤140737488355328:=by
 have hw:(wordOf e.kind).data.toList.length≤24:=by
  unfold wordOf
  split
  ·decide
  ·split
   ·decide
   ·split
    ·decide
    ·split
     ·decide
     ·split<;>decide
 have hi:∀n:Int, -9223372036854775808≤n→n≤9223372036854775807→(itoaB n).data.toList.length≤24:=fun n h0 h1=>Nat.le_trans (Lib.itoa_length_le n h0 h1) (by decide)
 have hnm:e.name.data.toList.length≤24:=by
  have k:=form.kind
  by_cases hk:e.kind=1∨e.kind=2∨e.kind=5
  ·have h1:=form.named hk
   unfold nameB at h1
   simp only[Bool.and_eq_true,decide_eq_true_eq]at h1
   have h2:=h1.2.1
   have:e.name.data.toList.length=e.name.size:=by simp
   omega
  ·rw[form.blank (by omega)];decide
 have hall:∀x∈(partsL e).map (·.data.toList),x.length≤24:=fun x hx=>by
  obtain⟨y,hy,rfl⟩:=List.mem_map.1 hx
  have o1:=form.o13
  have o2:=form.o4
  have o3:=form.o25
  have k:=form.kind
  have f1:=form.day0
  have f2:=form.day1
  have f3:=form.place
  unfold partsL at hy
  simp only[List.mem_append,List.mem_cons,List.not_mem_nil,or_false]at hy
  rcases hy with((rfl | rfl | rfl) | hy) | hy
  ·exact hi _ (by omega) (by omega)
  ·exact hw
  ·exact hi _ (by omega) (by omega)
  ·split at hy
   ·rw[List.mem_singleton.1 hy];exact hi _ (by omega) (by omega)
   ·cases hy
  ·split at hy
   ·cases hy
   ·rw[List.mem_singleton.1 hy];exact hnm
 have hl:=lens_le hall
 have hpl:=parts_len e
 rw[List.length_map]at hl
 cases hp:(partsL e).map (·.data.toList)with
 | nil=>simp[Lib.join]
 | cons x r=>
  rw[Lib.join_length,←hp]
  have:r.length≤(partsL e).length:=by
   have h3:=congrArg List.length hp
   rw[List.length_map,List.length_cons]at h3
   omega
  have h1:sp.data.toList.length=1:=rfl
  rw[h1]
  omega
theorem write_c(e:Ev)(hn':e.name.size≤maxLen):Pur Pg 17 [.agg e.enc] (writeD e):=by
 refine fn Tryz.func17 [19] pl17 (PdL.one (.agg (pdEv e))) ?_
 refine(wrong_c e).call ?_
 refine if_ (fun h=>?_) fun h=>?_
 ·have h0:wrongL e≠0:=by simpa using h
  rw[writeD,if_pos h0]
  exact .pd (.tup fun d hd=>by simp at hd;rcases hd with rfl | rfl<;>exact .v _)
 have h0:wrongL e=0:=by simpa using h
 have form:=wrong_form h0
 rw[writeD,if_neg (by simpa using h0)]
 have hd0:=form.day0
 have hd1:=form.day1
 refine(itoa_c e.day (by omega) (by omega)).call ?_
 refine(itoa_c e.place (by have:=form.place;omega) (by have:=form.place;omega)).call ?_
 refine words_c.call ?_
 conv=>whnf
 refine AW_idx 5 (fun c st=>∃l w,Seen 5 c l∧w=metW e.kind l∧Has [(1,.ptr 0 0 0 1),(5,.sl 1 0 3 3),(21,.it 2)] [.arr 23 5 [e.enc],.arr 9 1 [[ds' (itoaB e.day)],[ds' w],[ds' (itoaB e.place)]],.iter (.fmap wK wV) 5 l] st) ⟨[],⟨#[]⟩,⟨rfl,.nil,fun _ hj=>(nomatch hj)⟩,by simp[metW],has ⟨rfl,rfl,rfl,trivial⟩ rfl⟩ ?_
 rintro c _ hc ⟨l,w,hs,hw,e0,rfl⟩
 refine go [] [] ?_
 conv=>whnf
 refine⟨fun j kk d hkj hdj hjl=>?_,fun hall=>?_⟩
 ·have hj:j<5:=(List.getElem?_eq_some_iff.1 hkj).1
  obtain⟨hct,hs2⟩:=hs.step hj hjl
  obtain⟨rfl,rfl⟩:kk= .string (wordOf ((j:Int)+1))∧d= .v (.int .u8 ((j:Int)+1)):=by
   match j,hj,hkj,hdj with
   | 0,_,h1,h2=>cases h1;cases h2;exact⟨rfl,rfl⟩
   | 1,_,h1,h2=>cases h1;cases h2;exact⟨rfl,rfl⟩
   | 2,_,h1,h2=>cases h1;cases h2;exact⟨rfl,rfl⟩
   | 3,_,h1,h2=>cases h1;cases h2;exact⟨rfl,rfl⟩
   | 4,_,h1,h2=>cases h1;cases h2;exact⟨rfl,rfl⟩
  have hmet:metW e.kind (l++[j])=if(j:Int)+1=e.kind then wordOf e.kind else metW e.kind l:=by
   unfold metW
   rw[List.any_append]
   by_cases hk:(j:Int)+1=e.kind
   ·simp[hk]
   ·simp[hk]
  refine ck rfl ?_
  conv=>whnf
  refine gl_at List.getLast?_concat ?_
  conv=>whnf
  refine ky_at hkj ?_
  conv=>whnf
  refine ptrq hdj ?_
  refine if_ (fun hk=>?_) fun hk=>?_
  ·have hk2:(j:Int)+1=e.kind:=by simpa using hk
   exact⟨hct,l++[j],wordOf e.kind,hs2,by rw[hmet,if_pos hk2],has ⟨rfl,rfl,rfl,trivial⟩ (by rw[←hk2];rfl)⟩
  ·have hk2:¬(j:Int)+1=e.kind:=by simpa using hk
   exact⟨hct,l++[j],w,hs2,by rw[hmet,if_neg hk2,hw],has ⟨rfl,rfl,rfl,trivial⟩ rfl⟩
 ·have hwk:w=wordOf e.kind:=by
   rw[hw,metW,if_pos]
   refine List.any_eq_true.2 ?_
   have hk:=form.kind
   refine⟨(e.kind-1).toNat,hall _ (by omega),by simp;omega⟩
  subst hwk
  have ho: -9223372036854775808≤e.other∧e.other≤9223372036854775807:=by
   have k:=form.kind
   have o1:=form.o13
   have o2:=form.o4
   have o3:=form.o25
   omega
  have jn:∀(xs:List ByteArray) (n:Nat) (H:Heap),xs=partsL e→xs.length=n→H[1]? =some (.arr 9 1 (xs.map fun s=>[ds' s]))→Ex Pg 74 [.sl 1 0 n n,ds' sp] H (ds' (joinB (partsL e) sp)):=fun xs n H hx hn hH=>by
   rw[←hx]
   refine join_c xs sp hH hn ?_ ?_
   ·rw[←hn,hx];exact parts_len e
   ·rw[hx];exact parts_join e form
  conv=>whnf
  refine if_ (fun k2=>?_) fun k2=>?_
  ·have h2:e.kind≠2:=by simpa using k2
   refine if_ (fun k5=>?_) fun k5=>?_
   ·have h5:e.kind≠5:=by simpa using k5
    refine(itoa_c e.other ho.1 ho.2).call ?_
    conv=>whnf
    refine ck (bnd_ok (Nat.le_of_ble_eq_true rfl) (by decide)) ?_
    conv=>whnf
    refine if_ (fun hnm=>?_) fun hnm=>?_
    ·have hne:e.name≠⟨#[]⟩:=by simpa[←strEq_iff']using hnm
     conv=>whnf
     refine ck (bnd_ok (Nat.le_of_ble_eq_true rfl) (by decide)) ?_
     refine(jn [itoaB e.day,wordOf e.kind,itoaB e.place,itoaB e.other,e.name] 5 _ (by simp[partsL,h2,h5,hne]) rfl rfl).call ?_
     exact .pd (.tup fun d hd=>by simp at hd;rcases hd with rfl | rfl<;>exact .v _)
    ·have hne:e.name=⟨#[]⟩:=by simpa[←strEq_iff']using hnm
     refine(jn [itoaB e.day,wordOf e.kind,itoaB e.place,itoaB e.other] 4 _ (by simp[partsL,h2,h5,hne]) rfl rfl).call ?_
     exact .pd (.tup fun d hd=>by simp at hd;rcases hd with rfl | rfl<;>exact .v _)
   ·have h5:e.kind=5:=by simpa using k5
    refine if_ (fun hnm=>?_) fun hnm=>?_
    ·have hne:e.name≠⟨#[]⟩:=by simpa[←strEq_iff']using hnm
     conv=>whnf
     refine ck (bnd_ok (Nat.le_of_ble_eq_true rfl) (by decide)) ?_
     refine(jn [itoaB e.day,wordOf e.kind,itoaB e.place,e.name] 4 _ (by simp[partsL,h5,hne]) rfl rfl).call ?_
     exact .pd (.tup fun d hd=>by simp at hd;rcases hd with rfl | rfl<;>exact .v _)
    ·have hne:e.name=⟨#[]⟩:=by simpa[←strEq_iff']using hnm
     refine(jn [itoaB e.day,wordOf e.kind,itoaB e.place] 3 _ (by simp[partsL,h5,hne]) rfl rfl).call ?_
     exact .pd (.tup fun d hd=>by simp at hd;rcases hd with rfl | rfl<;>exact .v _)
  ·have h2:e.kind=2:=by simpa using k2
   refine if_ (fun hnm=>?_) fun hnm=>?_
   ·have hne:e.name≠⟨#[]⟩:=by simpa[←strEq_iff']using hnm
    conv=>whnf
    refine ck (bnd_ok (Nat.le_of_ble_eq_true rfl) (by decide)) ?_
    refine(jn [itoaB e.day,wordOf e.kind,itoaB e.place,e.name] 4 _ (by simp[partsL,h2,hne]) rfl rfl).call ?_
    exact .pd (.tup fun d hd=>by simp at hd;rcases hd with rfl | rfl<;>exact .v _)
   ·have hne:e.name=⟨#[]⟩:=by simpa[←strEq_iff']using hnm
    refine(jn [itoaB e.day,wordOf e.kind,itoaB e.place] 3 _ (by simp[partsL,h2,hne]) rfl rfl).call ?_
    exact .pd (.tup fun d hd=>by simp at hd;rcases hd with rfl | rfl<;>exact .v _)
end Go.Proofs.YtpndfdfipkadkaaGreatDoor
