/- The law DrawersRuns holds. Conditions: none. -/
import Derived.Test.YtcbijkakoepglaaGreatKRuns5
import Derived.Test.YtcbijkakoepglaaGreatRows
import Derived.JoinedOf
set_option linter.all false
namespace Go.Proofs.YtcbijkakoepglaaGreat
open Go Go.Wx Go.ChangeShapes Go.WideShapes Go.ChangeAt Go.RowKit
open Go.ChangeMaps (open_string shut_string)
set_option maxRecDepth 100000 in
theorem liftedDrawersRuns(os:Os)(started:os.Started)(H:Type)(enc:TypeId × Value→H):
 ReturnsInHanded {} Tryz.checked os 9 .any (Rows.drawersRunsSpec.pre6 enc Tryz.prog Tryz.f9 Rows.drawersRunsRow.domain false) (Rows.drawersRunsSpec.post enc Tryz.prog Tryz.f9 false true false false):=by
 refine returnsInHanded_of_change_sized (C:=Tryz.checked) own started (by kernel_rfl) Tryz.func9
  (ChangeSpec.witness6 (enc:=enc) (C:=Tryz.checked) false ⟨#[],#[.slice none 0 0],[]⟩ 8 (by kernel_rfl) (by kernel_rfl) (by kernel_rfl) (by kernel_rfl)) ?_
 intro W base args ds gs before hval0 hW hcnd hsz0 _;have hsz:(DataW.weightsEach Tryz.prog (Tryz.f9.params.toList++Rows.drawersRunsSpec.plain.varTypes Tryz.prog) (ds++gs)).all (· ≤reachBytes)=true:=hsz0;have hval:∀(j:Nat) t v,Tryz.f9.params[j]? =some t→args[j]? =some v→Value.okWide Tryz.prog W .any base t v:=hval0;have hW':=hW;obtain⟨p,q,hA0,hV,rfl,hfz,hnd⟩:=hW;have hA:DataW.TrodAll enc Tryz.prog W 0 (fun _=>true) true Tryz.f9.params.toList args.toList ds p:=hA0;have hA':=hA;rw[Tryz.params9]at hA hval hsz
 obtain⟨v0,vs0,d0,ds0,p0,q0,hargs,rfl,rfl,t0,r0⟩:=trodAll_cons hA;obtain⟨rfl,rfl,rfl⟩:=trodAll_nil r0;obtain rfl:args= #[v0]:=by cases args;simp_all
 obtain⟨rfl,rfl⟩:=trodVars_none hV;obtain⟨a0,n0,c0,rfl⟩:=okWide_slice Tryz.underlying30 (hval 0 30 v0 rfl rfl);have u0:=(weights_of hsz (j:=0) (t:=30) (d:=d0) rfl rfl);obtain⟨fu0,hf0⟩:=t0;obtain⟨ms0,h0⟩:=open_script hf0 u0;refine Calls.mono (lawRuns_c h0) fun e W' hy=>?_;obtain⟨v,he,hv,bel⟩:=hy;subst he;subst hv;exact⟨_,rfl,_,_,_,[],_,[],hW',trodAll_mk1 (shut_bool Tryz.underlying4 _),Below.trodAll laidOut bel.below (by kernel_rfl) hA',rfl,bel.below.frame _,fun h=>by cases h⟩
theorem named9:Tryz.checked.prog.funcNamed Rows.drawersRunsRow.func=some 9:=by kernel_rfl
set_option maxRecDepth 100000 in
set_option maxHeartbeats 20000000 in
theorem facts9:joinedFacts Tryz.checked.prog 9 Tryz.f9 Rows.drawersRunsSpec Rows.drawersRunsRow=true:=by
 show joinedFacts Tryz.prog 9 Tryz.f9 Rows.drawersRunsSpec Rows.drawersRunsRow=true;unfold joinedFacts;simp only[Bool.and_eq_true]
 repeat' apply And.intro
 all_goals as_aux_lemma=>kernel_rfl
theorem inst9:Tryz.f9.isInstance Tryz.checked.prog Rows.drawersRunsRow.origin Rows.drawersRunsRow.targs:=of_decide_eq_true (by kernel_rfl)
theorem wrap9:Tryz.f9.isWrapper Tryz.checked.prog Rows.drawersRunsRow.wrapper Rows.drawersRunsRow.mainSum:=by unfold Func.isWrapper;first | (rw[if_pos (by decide+kernel)];kernel_rfl) | (rw[if_neg (by decide+kernel)];exact⟨rfl,rfl⟩)
theorem drawersRuns_holds:Rows.DrawersRunsSaid:=
 OpenClaim.holds_of_wide 9 Tryz.f9 rfl rfl rfl rfl rfl rfl rfl ⟨rfl,rfl,rfl,rfl,rfl⟩ rfl rfl rfl rfl rfl named9 Tryz.func9 facts9 inst9 wrap9
  (fun os started H enc _=>liftedDrawersRuns os started H enc)
end Go.Proofs.YtcbijkakoepglaaGreat
