/- Part of a reckoning of a Go program over abstract values, proved sound against the model. -/
import Derived.Test.YtcmcedphaipgkaaGreatDoorAiVA3
set_option linter.unusedSimpArgs false
set_option linter.unusedVariables false
namespace Go.Proofs.YtcmcedphaipgkaaGreatDoor.Ai
noncomputable section
open Go.Proofs
set_option maxRecDepth 100000

theorem take_succ_eq {α : Type} {x y : List α} {i : Nat} (hx : i < x.length) (hy : i < y.length) : x.take (i + 1) = y.take (i + 1) ↔ x.take i = y.take i ∧ x[i] = y[i] := by
  rw [List.take_succ_eq_append_getElem hx, List.take_succ_eq_append_getElem hy]
  constructor
  · intro h
    have := List.append_inj h (by simp; omega)
    simpa using this
  · rintro ⟨h1, h2⟩; rw [h1, h2]

theorem eq6 (x y : List Int) (hx : x.length ≤ 1000) (hy : y.length ≤ 1000) : PureOk Tryz.prog cfg0 6 [eI x, eI y] (.bool (decide (x = y))) := by
  have hc := st_ok (e := []) (f := []) .nil .nil
  refine PureOk.cfg (cfg := st [] []) rfl ?_
  refine pure_of (sl := true) hc (cf0_ok hc) noSpE Tryz.func6 f6_eq f6_nt f6_fits (by simp) (by simp) ?_
  simp -implicitDefEqProofs (maxDischargeDepth := 9) [f6_ac, eI, aLen, Int.natCast_inj]
  refine ⟨fun h e => h (e ▸ rfl), fun hl => ?_⟩
  refine e_loopK (α := Nat) (fun i => [(0, eI x), (1, eI y), (12, .int .i64 x.length), (13, .int .i64 i)]) (fun i s => s.wf ∧ i ≤ x.length ∧ x.take i = y.take i) (fun i => x.length - i) 0 f6_l0_fits (by simp [eI]) (by simp) ?_
  rintro i s ⟨hw, hi, ht⟩
  rcases Nat.lt_or_ge i x.length with h | h
  · have hy' : i < y.length := by omega
    have e1 := List.getElem?_eq_getElem h
    have e2 := List.getElem?_eq_getElem hy'
    have e3 : IntKind.i64.wrap ((i : Int) + 1) = ((i + 1 : Nat) : Int) := wrap_ok (by omega) (by omega)
    simp -implicitDefEqProofs (maxDischargeDepth := 9) [f6_l0, eI, h, hw, aIndexAddr, asInt, e1, e2, aLoad, sub, vI, e3]
    refine ⟨fun hne e => hne (by subst e; rfl), fun he => ⟨i + 1, by omega, ⟨by omega, (take_succ_eq h hy').2 ⟨ht, he⟩⟩, by simp⟩⟩
  · have : i = x.length := by omega
    subst this
    simp -implicitDefEqProofs (maxDischargeDepth := 9) [f6_l0, eI]
    rw [List.take_of_length_le (Nat.le_refl _), List.take_of_length_le (by omega)] at ht
    exact ht
end
end Go.Proofs.YtcmcedphaipgkaaGreatDoor.Ai

namespace Go.Proofs.YtcmcedphaipgkaaGreatDoor.Ai
noncomputable section
open Go.Proofs
set_option maxRecDepth 100000

/-- slices.Clone of numbers. -/
theorem fr43 (x : List Int) (hD : x.length ≤ 1000) : FreshOk Tryz.prog (st [] []) 43 [eI x] (eI x) := by
  have hc := st_ok (e := []) (f := []) .nil .nil
  refine fresh_run (sl := true) hc (cf0_ok hc) noSpE Tryz.func43 f43_eq f43_nt f43_fits (by simp) rfl ty_3 ?_
  intro s hw
  have h1 : x.length * 8 ≤ 140737488355328 := by omega
  have h2 : x.length ≤ 140737488355328 := by omega
  have h3 := layIf_I (s := s.add s.next (.cells [] 0 3 true)) (sl := true) (Nat.le_trans hD (by omega : 1000 ≤ 90000))
  by_cases h0 : x = []
  · subst h0
    simp -implicitDefEqProofs (maxDischargeDepth := 9) [f43_ac, eI, aBuildSlice, aAppend, fillV, zerosV, elemsOf, sliceOrStr, hw, Own, FreshV_list]
  · simp -implicitDefEqProofs (maxDischargeDepth := 9) [f43_ac, eI, aBuildSlice, aAppend, fillV, zerosV, elemsOf, sliceOrStr, h0, h1, h2, h3, hw, Own, FreshV_list]
theorem fr43n : FreshOk Tryz.prog (st [] []) 43 [.nils] (eI []) := by
  have hc := st_ok (e := []) (f := []) .nil .nil
  refine fresh_run (sl := true) hc (cf0_ok hc) noSpE Tryz.func43 f43_eq f43_nt f43_fits (by simp) rfl ty_3 ?_
  intro s hw
  simp -implicitDefEqProofs (maxDischargeDepth := 9) [f43_ac, eI, aBuildSlice, aAppend, fillV, zerosV, elemsOf, sliceOrStr, hw, Own, FreshV_list]
/-- Numbers, or nil. -/
def dN : V → Option (List Int)
  | .nils => some []
  | v => dI v
theorem dN_eq {v : V} {x : List Int} (h : dN v = some x) : v = eI x ∨ v = .nils ∧ x = [] := by
  unfold dN at h
  split at h
  · injection h with h; exact .inr ⟨rfl, h.symm⟩
  · exact .inl (dI_eq h)
def ft43 : List V → Option V := fun args => (arg1 dN args).bind fun x => if x.length ≤ 1000 then some (eI x) else none
theorem ft43_ok : ∀ args v, ft43 args = some v → FreshOk Tryz.prog (st [] []) 43 args v := fun args v h => by
  unfold ft43 at h
  simp only [Option.bind_eq_some_iff] at h
  obtain ⟨x, hx, h⟩ := h
  obtain ⟨a, rfl, ha⟩ := arg1_eq hx
  split at h
  · rename_i hl
    injection h with h; subst h
    rcases dN_eq ha with rfl | ⟨rfl, rfl⟩
    · exact fr43 x hl
    · exact fr43n
  · cases h
@[simp] theorem dN_eI (x : List Int) : dN (eI x) = some x := dI_eI x
@[simp] theorem dN_list (x : List Int) : dN (.list (x.map vI)) = some x := dI_eI x
@[simp] theorem dN_lnil : dN (.list []) = some [] := rfl
@[simp] theorem dN_nils : dN .nils = some [] := rfl
end
end Go.Proofs.YtcmcedphaipgkaaGreatDoor.Ai

namespace Go.Proofs.YtcmcedphaipgkaaGreatDoor.Ai
noncomputable section
open Go.Proofs
set_option maxRecDepth 100000

/-- A state: its slots, and how many collections are open. -/
structure St where
  slots : List Int
  opn : Int
def eS (x : St) : V := .agg [eI x.slots, vI x.opn]
def dS : V → Option St
  | .agg [l, .int .i64 n] => (dI l).map (⟨·, n⟩)
  | _ => none
@[simp] theorem dS_eS (x : St) : dS (eS x) = some x := by simp [dS, eS, vI]
theorem dS_eq {v : V} {x : St} (h : dS v = some x) : v = eS x := by
  unfold dS at h
  split at h
  · simp only [Option.map_eq_some_iff] at h
    obtain ⟨l, h1, rfl⟩ := h
    rw [dI_eq h1]; rfl
  · cases h
@[simp] theorem free_eS (x : St) : (eS x).free = true := by simp [eS]

def f1 : List (FuncId × (List V → Option V)) := [(43, ft43)]
theorem f1_ok : FtOk Tryz.prog (st [] []) f1 := .cons ft43_ok .nil

/-- verify.clone. -/
theorem fr17 (x : St) (hD : x.slots.length ≤ 1000) : FreshOk Tryz.prog (st [] []) 17 [eS x] (eS x) := by
  have hc := st_ok (e := []) (f := f1) .nil f1_ok
  refine FreshOk.cfg (cfg := st [] f1) ?_ rfl rfl rfl
  refine fresh_run (sl := true) hc (cf0_ok hc) noSpE Tryz.func17 f17_eq f17_nt f17_fits (by simp) rfl ty_3 ?_
  intro s hw
  have hft : ft43 [.list (x.slots.map vI)] = some (.list (x.slots.map vI)) := by simp [ft43, hD, eI]
  by_cases h0 : x.slots = []
  · rw [h0] at hft
    simp only [List.map_nil] at hft
    simp -implicitDefEqProofs (maxDischargeDepth := 9) [Nat.add_assoc, aFieldAddr, aField, aLoad, aStore, aIndexAddr, aIndex, aSlice, aLen, asInt, asIntO, cpOf, sub, splice, fillV, aBuildSlice, zerosV, aMakeSlice, aAppend, elemsOf, sliceOrStr, thaw, thawL, freshD, puresD, mapEnts, Int.natCast_inj, f17_ac, eS, eI, hw, f1, hft, h0]
    refine FreshV_agg0 (rest := [vI x.opn]) (es := []) ?_ rfl (fun w h => by rw [List.mem_singleton.1 h]; rfl)
    simp [Own]
  · simp -implicitDefEqProofs (maxDischargeDepth := 9) [Nat.add_assoc, aFieldAddr, aField, aLoad, aStore, aIndexAddr, aIndex, aSlice, aLen, asInt, asIntO, cpOf, sub, splice, fillV, aBuildSlice, zerosV, aMakeSlice, aAppend, elemsOf, sliceOrStr, thaw, thawL, freshD, puresD, mapEnts, Int.natCast_inj, f17_ac, eS, eI, hw, f1, hft, h0]
    refine FreshV_agg0 (rest := [vI x.opn]) (es := x.slots.map vI) ?_ (by simp) (fun w h => by rw [List.mem_singleton.1 h]; rfl)
    simp [Own]
theorem fr17n (o : Int) : FreshOk Tryz.prog (st [] []) 17 [.agg [.nils, vI o]] (eS ⟨[], o⟩) := by
  have hc := st_ok (e := []) (f := f1) .nil f1_ok
  refine FreshOk.cfg (cfg := st [] f1) ?_ rfl rfl rfl
  refine fresh_run (sl := true) hc (cf0_ok hc) noSpE Tryz.func17 f17_eq f17_nt f17_fits (by simp) rfl ty_3 ?_
  intro s hw
  have hft : ft43 [.nils] = some (.list []) := by simp [ft43, eI]
  simp -implicitDefEqProofs (maxDischargeDepth := 9) [Nat.add_assoc, aFieldAddr, aField, aLoad, aStore, aIndexAddr, aIndex, aSlice, aLen, asInt, asIntO, cpOf, sub, splice, fillV, aBuildSlice, zerosV, aMakeSlice, aAppend, elemsOf, sliceOrStr, thaw, thawL, freshD, puresD, mapEnts, Int.natCast_inj, f17_ac, eS, eI, hw, f1, hft]
  refine FreshV_agg0 (rest := [vI o]) (es := []) ?_ rfl (fun w h => by rw [List.mem_singleton.1 h]; rfl)
  simp [Own]
/-- A state, its slots perhaps nil. -/
def dT : V → Option St
  | .agg [l, .int .i64 n] => (dN l).map (⟨·, n⟩)
  | _ => none
theorem dT_eq {v : V} {x : St} (h : dT v = some x) : v = eS x ∨ v = .agg [.nils, vI x.opn] ∧ x.slots = [] := by
  unfold dT at h
  split at h
  · simp only [Option.map_eq_some_iff] at h
    obtain ⟨l, h1, rfl⟩ := h
    rcases dN_eq h1 with rfl | ⟨rfl, rfl⟩
    · exact .inl rfl
    · exact .inr ⟨rfl, rfl⟩
  · cases h
@[simp] theorem dT_eS (x : St) : dT (eS x) = some x := by simp [dT, eS, vI]
@[simp] theorem dT_nils (o : Int) : dT (.agg [.nils, vI o]) = some ⟨[], o⟩ := by simp [dT, vI]
end
end Go.Proofs.YtcmcedphaipgkaaGreatDoor.Ai

