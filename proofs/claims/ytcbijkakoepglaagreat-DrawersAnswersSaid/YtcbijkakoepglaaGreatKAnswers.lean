/- The law DrawersAnswers holds. Conditions: none. -/
import Derived.Test.YtcbijkakoepglaaGreatKAnswers6
import Derived.Test.YtcbijkakoepglaaGreatRows
import Derived.JoinedOf
set_option linter.all false
namespace Go.Proofs.YtcbijkakoepglaaGreat
open Go Go.Wx Go.ChangeShapes Go.WideShapes Go.ChangeAt Go.RowKit
open Go.ChangeMaps (open_string shut_string)
set_option maxRecDepth 100000 in
theorem vO(os:Os)(started:os.Started)(H:Type)(enc:TypeId × Value→H):
 ReturnsInHanded {} Tryz.checked os 16 .any (Rows.drawersAnswersSpec.pre6 enc Tryz.prog Tryz.f16 Rows.drawersAnswersRow.domain false) (Rows.drawersAnswersSpec.post enc Tryz.prog Tryz.f16 false true false false):=by
 refine returnsInHanded_of_change_sized (C:=Tryz.checked) own started (by kernel_rfl) Tryz.func16
  (ChangeSpec.witness6 (enc:=enc) (C:=Tryz.checked) false ⟨#[],#[.slice none 0 0,.agg #[.int .u8 0,.int .i64 0],.string ByteArray.empty,.int .i64 0,.int .i64 0,.int .i64 0],[]⟩ 8 (by kernel_rfl) (by kernel_rfl) (by kernel_rfl) (by kernel_rfl)) ?_
 intro W base args ds gs before hval0 hW hcnd hsz0 _;have hsz:(DataW.weightsEach Tryz.prog (Tryz.f16.params.toList++Rows.drawersAnswersSpec.plain.varTypes Tryz.prog) (ds++gs)).all (· ≤reachBytes)=true:=hsz0;have hval:∀(j:Nat) t v,Tryz.f16.params[j]? =some t→args[j]? =some v→Value.okWide Tryz.prog W .any base t v:=hval0;have hW':=hW;obtain⟨p,q,hA0,hV,rfl,hfz,hnd⟩:=hW;have hA:DataW.TrodAll enc Tryz.prog W 0 (fun _=>true) true Tryz.f16.params.toList args.toList ds p:=hA0;have hA':=hA;rw[Tryz.params16]at hA hval hsz
 obtain⟨v0,vs0,d0,ds0,p0,q0,hargs,rfl,rfl,t0,r0⟩:=trodAll_cons hA;obtain⟨v1,vs1,d1,ds1,p1,q1,rfl,rfl,rfl,t1,r1⟩:=trodAll_cons r0;obtain⟨v2,vs2,d2,ds2,p2,q2,rfl,rfl,rfl,t2,r2⟩:=trodAll_cons r1;obtain⟨v3,vs3,d3,ds3,p3,q3,rfl,rfl,rfl,t3,r3⟩:=trodAll_cons r2;obtain⟨v4,vs4,d4,ds4,p4,q4,rfl,rfl,rfl,t4,r4⟩:=trodAll_cons r3;obtain⟨v5,vs5,d5,ds5,p5,q5,rfl,rfl,rfl,t5,r5⟩:=trodAll_cons r4;obtain⟨rfl,rfl,rfl⟩:=trodAll_nil r5;obtain rfl:args= #[v0,v1,v2,v3,v4,v5]:=by cases args;simp_all
 obtain⟨rfl,rfl⟩:=trodVars_none hV;obtain⟨a0,n0,c0,rfl⟩:=okWide_slice Tryz.underlying30 (hval 0 30 v0 rfl rfl);have u0:=(aAe hsz (j:=0) (t:=30) (d:=d0) rfl rfl);obtain⟨fu0,hf0⟩:=t0;obtain⟨ms0,h0⟩:=aDO hf0 u0;obtain⟨x1,rfl⟩:=aFQ (hval 1 40 v1 rfl rfl) t1 (aAe hsz (j:=1) (t:=40) (d:=d1) rfl rfl);obtain⟨x2,rfl, -, -,y2⟩:=open_string Tryz.underlying9 (hval 2 9 v2 rfl rfl) t2;obtain⟨x3,rfl, -, -,w3⟩:=open_int Tryz.underlying3 (hval 3 3 v3 rfl rfl) t3
 obtain⟨x4,rfl, -, -,w4⟩:=open_int Tryz.underlying3 (hval 4 3 v4 rfl rfl) t4;obtain⟨x5,rfl, -, -,w5⟩:=open_int Tryz.underlying3 (hval 5 3 v5 rfl rfl) t5;refine Calls.mono (aCj h0) fun e W' hy=>?_;obtain⟨v,he,hv,bel⟩:=hy;subst he;subst hv;exact⟨_,rfl,_,_,_,[],_,[],hW',trodAll_mk1 (shut_bool Tryz.underlying4 _),Below.trodAll laidOut bel.below (by kernel_rfl) hA',rfl,bel.below.frame _,fun h=>by cases h⟩
theorem named16:Tryz.checked.prog.funcNamed Rows.drawersAnswersRow.func=some 16:=by kernel_rfl
set_option maxRecDepth 100000 in
set_option maxHeartbeats 20000000 in
theorem facts16:joinedFacts Tryz.checked.prog 16 Tryz.f16 Rows.drawersAnswersSpec Rows.drawersAnswersRow=true:=by
 show joinedFacts Tryz.prog 16 Tryz.f16 Rows.drawersAnswersSpec Rows.drawersAnswersRow=true;unfold joinedFacts;simp only[Bool.and_eq_true]
 repeat' apply And.intro
 all_goals as_aux_lemma=>kernel_rfl
theorem inst16:Tryz.f16.isInstance Tryz.checked.prog Rows.drawersAnswersRow.origin Rows.drawersAnswersRow.targs:=of_decide_eq_true (by kernel_rfl)
theorem wrap16:Tryz.f16.isWrapper Tryz.checked.prog Rows.drawersAnswersRow.wrapper Rows.drawersAnswersRow.mainSum:=by unfold Func.isWrapper;first | (rw[if_pos (by decide+kernel)];kernel_rfl) | (rw[if_neg (by decide+kernel)];exact⟨rfl,rfl⟩)
theorem drawersAnswers_holds:Rows.DrawersAnswersSaid:=
 OpenClaim.holds_of_wide 16 Tryz.f16 rfl rfl rfl rfl rfl rfl rfl ⟨rfl,rfl,rfl,rfl,rfl⟩ rfl rfl rfl rfl rfl named16 Tryz.func16 facts16 inst16 wrap16
  (fun os started H enc _=>vO os started H enc)
end Go.Proofs.YtcbijkakoepglaaGreat
