/- The law holds: part 54. Conditions: none. -/
import Derived.Test.YtpndfdfipkadkaaGreatDoorKP41
import Derived.Test.YtpndfdfipkadkaaGreatDoorKP44
set_option linter.all false
set_option maxRecDepth 100000
namespace Go.Proofs.YtpndfdfipkadkaaGreatDoor
open Go Go.Wx Go.Ax Go.ChangeShapes Go.WideShapes Go.ChangeAt Go.RowKit
open Go.ChangeMaps (open_string shut_string)
theorem door_PlacesTree (os : Os) (args : Array Value) : laidMetH Pg Rows.placesTreeRow.laid ((World.doorLaid Pg 4000 os).forCall (fun _ _ => 0) ⟨#[], args, []⟩).memory := door_met os args
theorem reads_PlacesTree (os : Os) {H : Type} (enc : TypeId × Value → H) : ∃ places, DataW.whole enc Pg ((World.doorLaid Pg 4000 os).forCall (fun _ _ => 0) ⟨#[], #[.slice none 0 0, .int .i64 0], []⟩).memory Tryz.f10.params.toList Rows.placesTreeSpec.vars false (#[.slice none 0 0, .int .i64 0] : Array Value).toList 8 = some ([.nil, .lit (.int .i64 0)], [], places) :=
  ⟨[], by kernel_rfl⟩
theorem lifted_PlacesTree (os : Os) (started : os.Started) (H : Type) (enc : TypeId × Value → H) (F : Stop.Interp) :
    ReturnsInHanded {} Tryz.checked os 10 .any ((OpenSpec.ofChange Rows.placesTreeSpec).preRow enc Pg Tryz.f10 Rows.placesTreeRow.domain false Rows.placesTreeRow.laid) (((OpenSpec.ofChange Rows.placesTreeSpec).at F).post enc Pg Tryz.f10 false true false false) := by
  refine returnsInHanded_of_row (C := Tryz.checked) (s := OpenSpec.ofChange Rows.placesTreeSpec) ownP started (by kernel_rfl) Tryz.func10 ?_ ?_
  · obtain ⟨places, hx⟩ := reads_PlacesTree os enc
    exact witness_row_atRef (enc := enc) (C := Tryz.checked) false (World.doorLaid Pg 4000 os) #[.slice none 0 0, .int .i64 0] rfl (by kernel_rfl) (by kernel_rfl) (by kernel_rfl)
      (OpenSpec.preRow_of_cond 8 hx (by kernel_rfl) (fun k hk => by cases hk) (by kernel_rfl) (door_PlacesTree os _))
  intro W base args ds gs before hval hW _ _ hsz hL _ _
  have hval : ∀ (j : Nat) t v, Tryz.f10.params[j]? = some t → args[j]? = some v → Value.okWide Pg W .any base t v := hval
  have hsz : (DataW.weightsEach Pg (Tryz.f10.params.toList ++ Rows.placesTreeSpec.plain.varTypes Pg) (ds ++ gs)).all (· ≤ reachBytes) = true := hsz
  have hW' := hW
  obtain ⟨p, q, hA0, hV, rfl, hfz, hnd⟩ := hW
  have hA : DataW.TrodAll enc Pg W 0 (fun _ => true) true Tryz.f10.params.toList args.toList ds p := hA0
  have hA' := hA
  rw [Tryz.params10] at hA hval hsz
  obtain ⟨v0, vs0, d0, ds0, p0, q0, hargs, rfl, rfl, t0, r0⟩ := trodAll_cons hA
  obtain ⟨v1, vs1, d1, ds1, p1, q1, rfl, rfl, rfl, t1, r1⟩ := trodAll_cons r0
  obtain ⟨rfl, rfl, rfl⟩ := trodAll_nil r1
  obtain rfl : args = #[v0, v1] := by cases args; simp_all
  obtain ⟨rfl, rfl⟩ := trodVars_none hV
  obtain ⟨a0, n0, c0, rfl⟩ := okWide_slice Tryz.underlying34 (hval 0 34 v0 rfl rfl)
  have u0 := (weights_of hsz (j := 0) (t := 34) (d := d0) rfl rfl)
  obtain ⟨fu0, hf0⟩ := t0
  obtain ⟨x0, rr0, h0⟩ := rp_events hf0 u0
  obtain ⟨x1, rfl, -, -, h1⟩ := open_int Tryz.underlying3 (hval 1 3 v1 rfl rfl) t1
  have hg := glOk_of hL
  refine Calls.mono (law_true (vs := [.slice a0 n0 c0, .int .i64 x1]) (lawTree_c x0 x1) hg (.cons (rr0) (.cons (.v _) .nil))) fun e W' hy => ?_
  obtain ⟨rfl, bel⟩ := hy
  exact ⟨_, rfl, _, _, _, [], _, [], hW', trodAll_mk1 (shut_bool Tryz.underlying4 _), Below.trodAll laidOut bel (by kernel_rfl) hA', rfl, bel.frame _, fun h => by cases h⟩
end Go.Proofs.YtpndfdfipkadkaaGreatDoor
