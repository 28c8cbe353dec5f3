/- The law holds: part 90. Conditions: none. -/
import Derived.Test.YtpndfdfipkadkaaGreatDoorKP41
import Derived.Test.YtpndfdfipkadkaaGreatDoorKP50
set_option linter.all false
set_option maxRecDepth 100000
namespace Go.Proofs.YtpndfdfipkadkaaGreatDoor
open Go Go.Wx Go.Ax Go.ChangeShapes Go.WideShapes Go.ChangeAt Go.RowKit
open Go.ChangeMaps (open_string shut_string)
theorem door_PlacesLines (os : Os) (args : Array Value) : laidMetH Pg Rows.placesLinesRow.laid ((World.doorLaid Pg 4000 os).forCall (fun _ _ => 0) ⟨#[], args, []⟩).memory := door_met os args
theorem reads_PlacesLines (os : Os) {H : Type} (enc : TypeId × Value → H) : ∃ places, DataW.whole enc Pg ((World.doorLaid Pg 4000 os).forCall (fun _ _ => 0) ⟨#[], #[.agg #[.int .i64 0, .int .u8 0, .int .i64 0, .int .i64 0, .string ByteArray.empty], .string ByteArray.empty], []⟩).memory Tryz.f3.params.toList Rows.placesLinesSpec.vars false (#[.agg #[.int .i64 0, .int .u8 0, .int .i64 0, .int .i64 0, .string ByteArray.empty], .string ByteArray.empty] : Array Value).toList 8 = some ([.agg [.lit (.int .i64 0), .lit (.int .u8 0), .lit (.int .i64 0), .lit (.int .i64 0), .lit (.string [])], .lit (.string [])], [], places) :=
  ⟨[], by kernel_rfl⟩
theorem lifted_PlacesLines (os : Os) (started : os.Started) (H : Type) (enc : TypeId × Value → H) (F : Stop.Interp) :
    ReturnsInHanded {} Tryz.checked os 3 .any ((OpenSpec.ofChange Rows.placesLinesSpec).preRow enc Pg Tryz.f3 Rows.placesLinesRow.domain false Rows.placesLinesRow.laid) (((OpenSpec.ofChange Rows.placesLinesSpec).at F).post enc Pg Tryz.f3 false true false false) := by
  refine returnsInHanded_of_row (C := Tryz.checked) (s := OpenSpec.ofChange Rows.placesLinesSpec) ownP started (by kernel_rfl) Tryz.func3 ?_ ?_
  · obtain ⟨places, hx⟩ := reads_PlacesLines os enc
    exact witness_row_atRef (enc := enc) (C := Tryz.checked) false (World.doorLaid Pg 4000 os) #[.agg #[.int .i64 0, .int .u8 0, .int .i64 0, .int .i64 0, .string ByteArray.empty], .string ByteArray.empty] rfl (by kernel_rfl) (by kernel_rfl) (by kernel_rfl)
      (OpenSpec.preRow_of_cond 8 hx (by kernel_rfl) (fun k hk => by cases hk) (by kernel_rfl) (door_PlacesLines os _))
  intro W base args ds gs before hval hW _ _ hsz hL _ _
  have hval : ∀ (j : Nat) t v, Tryz.f3.params[j]? = some t → args[j]? = some v → Value.okWide Pg W .any base t v := hval
  have hsz : (DataW.weightsEach Pg (Tryz.f3.params.toList ++ Rows.placesLinesSpec.plain.varTypes Pg) (ds ++ gs)).all (· ≤ reachBytes) = true := hsz
  have hW' := hW
  obtain ⟨p, q, hA0, hV, rfl, hfz, hnd⟩ := hW
  have hA : DataW.TrodAll enc Pg W 0 (fun _ => true) true Tryz.f3.params.toList args.toList ds p := hA0
  have hA' := hA
  rw [Tryz.params3] at hA hval hsz
  obtain ⟨v0, vs0, d0, ds0, p0, q0, hargs, rfl, rfl, t0, r0⟩ := trodAll_cons hA
  obtain ⟨v1, vs1, d1, ds1, p1, q1, rfl, rfl, rfl, t1, r1⟩ := trodAll_cons r0
  obtain ⟨rfl, rfl, rfl⟩ := trodAll_nil r1
  obtain rfl : args = #[v0, v1] := by cases args; simp_all
  obtain ⟨rfl, rfl⟩ := trodVars_none hV
  obtain ⟨x0, rfl, h0⟩ := open_event (hval 0 23 v0 rfl rfl) t0 (weights_of hsz (j := 0) (t := 23) (d := d0) rfl rfl)
  have u1 := (weights_of hsz (j := 1) (t := 9) (d := d1) rfl rfl)
  obtain ⟨x1, rfl, rfl, -, h1⟩ := open_string Tryz.underlying9 (hval 1 9 v1 rfl rfl) t1
  have hg := glOk_of hL
  refine Calls.mono (law_true (vs := [.agg x0.vals.toArray, .string x1]) (lawLines_c x0 x1 h0 (by have := sized_string hsz (j := 1) (t := 9) rfl rfl; simp at this; have h : reachBytes = 140737488351232 := (by decide); omega)) hg (.cons (rp_event W x0) (.cons (.v _) .nil))) fun e W' hy => ?_
  obtain ⟨rfl, bel⟩ := hy
  exact ⟨_, rfl, _, _, _, [], _, [], hW', trodAll_mk1 (shut_bool Tryz.underlying4 _), Below.trodAll laidOut bel (by kernel_rfl) hA', rfl, bel.frame _, fun h => by cases h⟩
end Go.Proofs.YtpndfdfipkadkaaGreatDoor
