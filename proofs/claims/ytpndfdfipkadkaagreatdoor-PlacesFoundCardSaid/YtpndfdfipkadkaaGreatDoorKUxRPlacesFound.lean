/- The law holds: part 386. Conditions: none. -/
import Derived.Test.YtpndfdfipkadkaaGreatDoorKU38
import Derived.Test.YtpndfdfipkadkaaGreatDoorKU45
import Derived.Test.YtpndfdfipkadkaaGreatDoorKU46
set_option linter.all false
set_option maxRecDepth 100000
namespace Go.Proofs.YtpndfdfipkadkaaGreatDoor
open Go Go.Wx Go.Ax Go.ChangeShapes Go.WideShapes Go.ChangeAt Go.RowKit
open Go.ChangeMaps (open_string shut_string)
theorem door_PlacesFound(os:Os)(args:Array Value):laidMetH Pg Rows.placesFoundRow.laid ((World.doorLaid Pg 4000 os).forCall (fun _ _=>0) ⟨#[],args,[]⟩).memory:=door_met os args
theorem reads_PlacesFound(os:Os){H:Type}(enc:TypeId × Value→H):∃places,DataW.whole enc Pg ((World.doorLaid Pg 4000 os).forCall (fun _ _=>0) ⟨#[],#[.slice none 0 0,.int .i64 0,.int .i64 0,.agg #[.int .i64 0,.slice none 0 0,.slice none 0 0],.slice none 0 0,.int .i64 0],[]⟩).memory Tryz.f15.params.toList Rows.placesFoundSpec.vars false (#[.slice none 0 0,.int .i64 0,.int .i64 0,.agg #[.int .i64 0,.slice none 0 0,.slice none 0 0],.slice none 0 0,.int .i64 0]:Array Value).toList 8=some ([.nil,.lit (.int .i64 0),.lit (.int .i64 0),.agg [.lit (.int .i64 0),.nil,.nil],.nil,.lit (.int .i64 0)],[],places):=
 ⟨[],by kernel_rfl⟩
theorem lifted_PlacesFound (os : Os) (started : os.Started) (H : Type) (enc : TypeId × Value → H) (F : Stop.Interp) :
    ReturnsInHanded {} Tryz.checked os 15 .any ((OpenSpec.ofChange Rows.placesFoundSpec).preRow enc Pg Tryz.f15 Rows.placesFoundRow.domain false Rows.placesFoundRow.laid) (((OpenSpec.ofChange Rows.placesFoundSpec).at F).post enc Pg Tryz.f15 false true false false) := by
  refine returnsInHanded_of_row (C := Tryz.checked) (s := OpenSpec.ofChange Rows.placesFoundSpec) ownP started (by kernel_rfl) Tryz.func15 ?_ ?_
  · obtain ⟨places, hx⟩ := reads_PlacesFound os enc
    exact witness_row_atRef (enc := enc) (C := Tryz.checked) false (World.doorLaid Pg 4000 os) #[.slice none 0 0, .int .i64 0, .int .i64 0, .agg #[.int .i64 0, .slice none 0 0, .slice none 0 0], .slice none 0 0, .int .i64 0] rfl (by kernel_rfl) (by kernel_rfl) (by kernel_rfl)
      (OpenSpec.preRow_of_cond 8 hx (by kernel_rfl) (fun k hk => by cases hk) (by kernel_rfl) (door_PlacesFound os _))
  intro W base args ds gs before hval hW _ _ hsz hL _ _
  have hval : ∀ (j : Nat) t v, Tryz.f15.params[j]? = some t → args[j]? = some v → Value.okWide Pg W .any base t v := hval
  have hsz : (DataW.weightsEach Pg (Tryz.f15.params.toList ++ Rows.placesFoundSpec.plain.varTypes Pg) (ds ++ gs)).all (· ≤ reachBytes) = true := hsz
  have hW' := hW
  obtain ⟨p, q, hA0, hV, rfl, hfz, hnd⟩ := hW
  have hA : DataW.TrodAll enc Pg W 0 (fun _ => true) true Tryz.f15.params.toList args.toList ds p := hA0
  have hA' := hA
  rw [Tryz.params15] at hA hval hsz
  obtain ⟨v0, vs0, d0, ds0, p0, q0, hargs, rfl, rfl, t0, r0⟩ := trodAll_cons hA
  obtain ⟨v1, vs1, d1, ds1, p1, q1, rfl, rfl, rfl, t1, r1⟩ := trodAll_cons r0
  obtain ⟨v2, vs2, d2, ds2, p2, q2, rfl, rfl, rfl, t2, r2⟩ := trodAll_cons r1
  obtain ⟨v3, vs3, d3, ds3, p3, q3, rfl, rfl, rfl, t3, r3⟩ := trodAll_cons r2
  obtain ⟨v4, vs4, d4, ds4, p4, q4, rfl, rfl, rfl, t4, r4⟩ := trodAll_cons r3
  obtain ⟨v5, vs5, d5, ds5, p5, q5, rfl, rfl, rfl, t5, r5⟩ := trodAll_cons r4
  obtain ⟨rfl, rfl, rfl⟩ := trodAll_nil r5
  obtain rfl : args = #[v0, v1, v2, v3, v4, v5] := by cases args; simp_all
  obtain ⟨rfl, rfl⟩ := trodVars_none hV
  obtain ⟨a0, n0, c0, rfl⟩ := okWide_slice Tryz.underlying34 (hval 0 34 v0 rfl rfl)
  have u0 := (weights_of hsz (j := 0) (t := 34) (d := d0) rfl rfl)
  obtain ⟨fu0, hf0⟩ := t0
  obtain ⟨x0, rr0, h0⟩ := rp_events hf0 u0
  obtain ⟨x1, rfl, -, -, h1⟩ := open_int Tryz.underlying3 (hval 1 3 v1 rfl rfl) t1
  obtain ⟨x2, rfl, -, -, h2⟩ := open_int Tryz.underlying3 (hval 2 3 v2 rfl rfl) t2
  obtain ⟨x3, rr3⟩ := open_auto (hval 3 75 v3 rfl rfl) t3 (weights_of hsz (j := 3) (t := 75) (d := d3) rfl rfl)
  obtain ⟨a4, n4, c4, rfl⟩ := okWide_slice Tryz.underlying31 (hval 4 31 v4 rfl rfl)
  have u4 := (weights_of hsz (j := 4) (t := 31) (d := d4) rfl rfl)
  obtain ⟨fu4, hf4⟩ := t4
  obtain ⟨x4, rr4, h4⟩ := rp_spells hf4 u4
  obtain ⟨x5, rfl, -, -, h5⟩ := open_int Tryz.underlying3 (hval 5 3 v5 rfl rfl) t5
  have hg := glOk_of hL
  refine Calls.mono (law_true (vs := [.slice a0 n0 c0, .int .i64 x1, .int .i64 x2, v3, .slice a4 n4 c4, .int .i64 x5]) (lawFound_c x0 x1 x2 x3 x4 h4 x5) hg (.cons (rr0) (.cons (.v _) (.cons (.v _) (.cons (rr3) (.cons (rr4) (.cons (.v _) .nil))))))) fun e W' hy => ?_
  obtain ⟨rfl, bel⟩ := hy
  exact ⟨_, rfl, _, _, _, [], _, [], hW', trodAll_mk1 (shut_bool Tryz.underlying4 _), Below.trodAll laidOut bel (by kernel_rfl) hA', rfl, bel.frame _, fun h => by cases h⟩
end Go.Proofs.YtpndfdfipkadkaaGreatDoor
