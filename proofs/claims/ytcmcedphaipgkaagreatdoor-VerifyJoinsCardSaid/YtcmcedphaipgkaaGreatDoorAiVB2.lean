/- Part of a reckoning of a Go program over abstract values, proved sound against the model. -/
import Derived.Test.YtcmcedphaipgkaaGreatDoorAiVB1
set_option linter.unusedSimpArgs false
set_option linter.unusedVariables false
namespace Go.Proofs.YtcmcedphaipgkaaGreatDoor.Ai
noncomputable section
open Go.Proofs
set_option maxRecDepth 100000
set_option maxHeartbeats 2000000

def args3 (a b c : St) : V := .agg [.list (a.slots.map vI), .int .i64 a.opn, .list (b.slots.map vI), .int .i64 b.opn, .list (c.slots.map vI), .int .i64 c.opn]
theorem vj3 (x y z : St) : PureOk Tryz.prog cfg0 3 [args3 x y z] (.bool true) := by
  have hc := st_ok (e := eJ) (f := []) eJ_ok .nil
  refine PureOk.cfg (cfg := st eJ []) rfl ?_
  refine pure_of (sl := true) hc (cf0_ok hc) noSpE Tryz.func3 f3_eq f3_nt f3_fits (by simp) (by simp [args3]) ?_
  obtain ⟨xs, o⟩ := x
  obtain ⟨ys, p⟩ := y
  obtain ⟨zs, q⟩ := z
  simp only [args3]
  rw [f3_top]
  simp -implicitDefEqProofs (maxDischargeDepth := 9) [Nat.add_assoc, aFieldAddr, aField, aLoad, aStore, aIndexAddr, aIndex, aSlice, aLen, asInt, asIntO, cpOf, sub, splice, fillV, aBuildSlice, zerosV, aMakeSlice, aAppend, elemsOf, sliceOrStr, thaw, thawL, freshD, puresD, mapEnts, Int.natCast_inj, eJ, e4_at, aUn, callOp]
  refine e_loopK (α := Nat) (fun i => [(1, .ptr 0 0), (15, .agg (cells3 xs ys zs o p q)), (16, .int .i64 i)])
    (fun i s' => i ≤ 3 ∧ s'.wf ∧ s'.get 0 = some (.cells (cells3 xs ys zs o p q) 0 25 true) ∧ (0 < i → xs.length ≤ 100) ∧ (1 < i → ys.length ≤ 100) ∧ (2 < i → zs.length ≤ 100)) (fun i => 3 - i) 0 f3_l0_fits (by simp [cells3]) (by simp (maxDischargeDepth := 9) [cells3]) ?_
  rintro i s' ⟨hi, hw, h0, hx, hy, hz⟩
  have hn : 0 < s'.next := by
    rcases Nat.lt_or_ge 0 s'.next with h | h
    · exact h
    · rw [hw 0 h] at h0; cases h0
  have hn' : ¬ 0 = s'.next := by omega
  have w1 : IntKind.i64.wrap 1 = 1 := rfl
  have w2 : IntKind.i64.wrap 2 = 2 := rfl
  have w3 : IntKind.i64.wrap 3 = 3 := rfl
  rcases i with _ | _ | _ | i
  · simp -implicitDefEqProofs (maxDischargeDepth := 9) [Nat.add_assoc, aFieldAddr, aField, aLoad, aStore, aIndexAddr, aIndex, aSlice, aLen, asInt, asIntO, cpOf, sub, splice, fillV, aBuildSlice, zerosV, aMakeSlice, aAppend, elemsOf, sliceOrStr, thaw, thawL, freshD, puresD, mapEnts, Int.natCast_inj, f3_l0, cells3, hw, h0, hn, hn', w1]
    exact fun h => ⟨1, by omega, ⟨by omega, fun _ => by omega, fun h => by omega, fun h => by omega⟩, rfl⟩
  · simp -implicitDefEqProofs (maxDischargeDepth := 9) [Nat.add_assoc, aFieldAddr, aField, aLoad, aStore, aIndexAddr, aIndex, aSlice, aLen, asInt, asIntO, cpOf, sub, splice, fillV, aBuildSlice, zerosV, aMakeSlice, aAppend, elemsOf, sliceOrStr, thaw, thawL, freshD, puresD, mapEnts, Int.natCast_inj, f3_l0, cells3, hw, h0, hn, hn', w2]
    exact fun h => ⟨2, by omega, ⟨by omega, fun _ => hx (by omega), fun _ => by omega, fun h => by omega⟩, rfl⟩
  · simp -implicitDefEqProofs (maxDischargeDepth := 9) [Nat.add_assoc, aFieldAddr, aField, aLoad, aStore, aIndexAddr, aIndex, aSlice, aLen, asInt, asIntO, cpOf, sub, splice, fillV, aBuildSlice, zerosV, aMakeSlice, aAppend, elemsOf, sliceOrStr, thaw, thawL, freshD, puresD, mapEnts, Int.natCast_inj, f3_l0, cells3, hw, h0, hn, hn', w3]
    exact fun h => ⟨3, by omega, ⟨by omega, fun _ => hx (by omega), fun _ => hy (by omega), fun _ => by omega⟩, rfl⟩
  · obtain rfl : i = 0 := by omega
    simp -implicitDefEqProofs (maxDischargeDepth := 9) [Nat.add_assoc, aFieldAddr, aField, aLoad, aStore, aIndexAddr, aIndex, aSlice, aLen, asInt, asIntO, cpOf, sub, splice, fillV, aBuildSlice, zerosV, aMakeSlice, aAppend, elemsOf, sliceOrStr, thaw, thawL, freshD, puresD, mapEnts, Int.natCast_inj, f3_l0, cells3, hw, h0, hn]
    exact tail1 (hx (by omega)) (hy (by omega)) (hz (by omega)) hn hw h0
end
end Go.Proofs.YtcmcedphaipgkaaGreatDoor.Ai

