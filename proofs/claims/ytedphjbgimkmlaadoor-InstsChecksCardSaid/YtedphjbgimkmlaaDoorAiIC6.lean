/- Part of a reckoning of a Go program over abstract values, proved sound against the model. -/
import Derived.Test.YtedphjbgimkmlaaDoorAiIC5
import Derived.Test.YtedphjbgimkmlaaDoorAiIB4
set_option linter.unusedSimpArgs false
set_option linter.unusedVariables false
namespace Go.Proofs.YtedphjbgimkmlaaDoor.Ai
open Go.Proofs
set_option maxRecDepth 100000
set_option maxHeartbeats 4000000

def e18 : List V → Option V
  | [.list l, v] => (dXs l).bind fun l => (dX v).bind fun x => if l.length ≤ 1000 then some (.int .i64 (ckX l x)) else none
  | _ => none
theorem t18 : ∀ args v, e18 args = some v → PureOk Tryd.prog cfg0 18 args v := fun args v h => by
  unfold e18 at h
  split at h
  · simp only [Option.bind_eq_some_iff] at h
    obtain ⟨l, hl, x, hx, h⟩ := h
    obtain rfl := dXs_eq hl
    rw [dX_eq hx]
    split at h
    · injection h with h; subst h; exact p18 l ‹_› x
    · cases h
  · cases h
open Classical in
noncomputable def e19 : List V → Option V
  | [.list l] => (dXs l).bind fun l => if l.length ≤ 12 ∧ goodM l then some (.bool (circ l)) else none
  | _ => none
theorem t19 : ∀ args v, e19 args = some v → PureOk Tryd.prog cfg0 19 args v := fun args v h => by
  unfold e19 at h
  split at h
  · simp only [Option.bind_eq_some_iff] at h
    obtain ⟨l, hl, h⟩ := h
    obtain rfl := dXs_eq hl
    split at h
    · rename_i hh; injection h with h; subst h; exact p19 l hh.1 hh.2
    · cases h
  · cases h
noncomputable def e8T : List (FuncId × (List V → Option V)) := [(18, e18), (19, e19)]
theorem e8T_ok : TabOk Tryd.prog cfg0 e8T := .cons t18 (.cons t19 .nil)
theorem instE_at {l : List Inst} {j : Nat} (h : j < l.length) : instE l j = ckX l l[j] := by simp [instE, List.getElem?_eq_getElem h]
section
variable {l : List Inst} {j : Nat} {s : S} {P : AX → Env → S → Prop}
def env8 (l : List Inst) (j : Nat) : Env := [(0, .list (l.map eX)), (9, .list (l.map eX)), (10, .int .i64 l.length), (11, .int .i64 j)]
theorem b8 (hl : l.length ≤ 12) (h : j < l.length) (hw : s.wf) (hR : ¬ instE l j = 0 → ∀ E' s', eget E' 2 = some (.int .i64 (instE l j)) → P .ret E' s') (hN : instE l j = 0 → ∀ E' s', s'.wf → SubE (env8 l (j + 1)) E' → P .normal E' s') : RunC (st e8T []) (cf0 e8T []) true [] 24 f8_l0 (env8 l j) s P := by
  have e1 := List.getElem?_eq_getElem h
  have e3 : IntKind.i64.wrap ((j : Int) + 1) = ((j + 1 : Nat) : Int) := wrap_ok (by omega) (by omega)
  have q : ∀ s, callOp (st e8T []) (cf0 e8T []) 18 [.list (l.map eX), .agg [vI l[j].kind, .list (l[j].alts.map eA), .list (l[j].modes.map eM), vI l[j].det]] s = some (.val (.int .i64 (instE l j)) s) := fun s => by
    refine callOp_tab ?_
    have : e18 [.list (l.map eX), eX l[j]] = some (.int .i64 (ckX l l[j])) := by
      have : l.length ≤ 1000 := by omega
      simp [e18, this]
    rw [instE_at h]
    simp only [st_tab, e8T, tabAt_cons, if_true]
    exact this
  by_cases hz : instE l j = 0
  · simp -implicitDefEqProofs (maxDischargeDepth := 9) (maxSteps := 1000000) [Nat.add_assoc, aFieldAddr, aField, aLoad, aStore, aIndexAddr, aIndex, aSlice, aLen, asInt, asIntO, cpOf, sub, splice, fillV, aBuildSlice, zerosV, aMakeSlice, aAppend, elemsOf, sliceOrStr, thaw, thawL, freshD, puresD, mapEnts, Int.natCast_inj, env8, f8_l0, h, hw, e1, e3, eX, q, hz]
    exact hN hz _ _ (by simp [hw]) (by simp [env8])
  · simp -implicitDefEqProofs (maxDischargeDepth := 9) (maxSteps := 1000000) [Nat.add_assoc, aFieldAddr, aField, aLoad, aStore, aIndexAddr, aIndex, aSlice, aLen, asInt, asIntO, cpOf, sub, splice, fillV, aBuildSlice, zerosV, aMakeSlice, aAppend, elemsOf, sliceOrStr, thaw, thawL, freshD, puresD, mapEnts, Int.natCast_inj, env8, f8_l0, h, hw, e1, e3, eX, q, hz]
    exact hR hz _ _ (by simp)
theorem x8 (hP : ∀ E', SubE [(0, .list (l.map eX))] E' → P (.exit 0) E' s) : RunC (st e8T []) (cf0 e8T []) true [] 24 f8_l0 (env8 l l.length) s P := by
  simp -implicitDefEqProofs (maxDischargeDepth := 9) (maxSteps := 1000000) [Nat.add_assoc, aFieldAddr, aField, aLoad, aStore, aIndexAddr, aIndex, aSlice, aLen, asInt, asIntO, cpOf, sub, splice, fillV, aBuildSlice, zerosV, aMakeSlice, aAppend, elemsOf, sliceOrStr, thaw, thawL, freshD, puresD, mapEnts, Int.natCast_inj, env8, f8_l0]
  exact hP _ (by simp)
end
theorem p8 (l : List Inst) (hl : l.length ≤ 12) : PureOk Tryd.prog cfg0 8 [.list (l.map eX)] (.int .i64 (ckT l)) := by
  have hc := st_ok (e := e8T) (f := []) e8T_ok .nil
  refine PureOk.cfg (cfg := st e8T []) rfl ?_
  refine pure_of (sl := true) hc (cf0_ok hc) noSpE Tryd.func8 f8_eq f8_nt f8_fits (by simp) (by simp) ?_
  have h2 : ¬ (2000 : Int) < l.length := by omega
  simp -implicitDefEqProofs (maxDischargeDepth := 9) (maxSteps := 1000000) [Nat.add_assoc, aFieldAddr, aField, aLoad, aStore, aIndexAddr, aIndex, aSlice, aLen, asInt, asIntO, cpOf, sub, splice, fillV, aBuildSlice, zerosV, aMakeSlice, aAppend, elemsOf, sliceOrStr, thaw, thawL, freshD, puresD, mapEnts, Int.natCast_inj, f8_ac, h2]
  refine e_loopK (α := Nat) (env8 l) (fun j s => s.wf ∧ j ≤ l.length ∧ ∀ i, i < j → instE l i = 0) (fun j => l.length - j) 0 f8_l0_fits (by simp [env8]) ⟨by simp, Nat.zero_le _, fun i h => by omega⟩ ?_
  rintro j s ⟨hw, hj, hz⟩
  rcases Nat.lt_or_ge j l.length with h | h
  · refine b8 hl h hw (fun h1 E' s' hE' => ?_) fun h1 E' s' hw' hE' => ?_
    · have hv : ckT l = instE l j := by
        have := fst_hit h hz h1
        unfold ckT; rw [this, if_neg h1]
      simp -implicitDefEqProofs (maxDischargeDepth := 9) (maxSteps := 1000000) [Nat.add_assoc, aFieldAddr, aField, aLoad, aStore, aIndexAddr, aIndex, aSlice, aLen, asInt, asIntO, cpOf, sub, splice, fillV, aBuildSlice, zerosV, aMakeSlice, aAppend, elemsOf, sliceOrStr, thaw, thawL, freshD, puresD, mapEnts, Int.natCast_inj, hE', hv]
    · exact ⟨j + 1, by omega, ⟨hw', by omega, fst_more hz h1⟩, hE'⟩
  · have : j = l.length := by omega
    subst this
    have h0 := fst_none hz
    have hg := (good_of h0).2
    have q : ∀ s, callOp (st e8T []) (cf0 e8T []) 19 [.list (l.map eX)] s = some (.val (.bool (circ l)) s) := fun s => by
      refine callOp_tab ?_
      simp only [st_tab, e8T, tabAt_cons, show ¬ (18 : Nat) = 19 by decide, if_false, if_true]
      simp [e19, hl, hg]
    refine x8 fun E' hE' => ?_
    obtain ⟨g0, _⟩ := hE'
    simp only at g0
    cases hcc : circ l with
    | true =>
      rw [hcc] at q
      have hv : ckT l = 13 := by unfold ckT; rw [if_pos h0, if_pos hcc]
      simp -implicitDefEqProofs (maxDischargeDepth := 9) (maxSteps := 1000000) [Nat.add_assoc, aFieldAddr, aField, aLoad, aStore, aIndexAddr, aIndex, aSlice, aLen, asInt, asIntO, cpOf, sub, splice, fillV, aBuildSlice, zerosV, aMakeSlice, aAppend, elemsOf, sliceOrStr, thaw, thawL, freshD, puresD, mapEnts, Int.natCast_inj, g0, q, hv]
    | false =>
      rw [hcc] at q
      have hv : ckT l = 0 := by unfold ckT; rw [if_pos h0, if_neg (by rw [hcc]; decide)]
      simp -implicitDefEqProofs (maxDischargeDepth := 9) (maxSteps := 1000000) [Nat.add_assoc, aFieldAddr, aField, aLoad, aStore, aIndexAddr, aIndex, aSlice, aLen, asInt, asIntO, cpOf, sub, splice, fillV, aBuildSlice, zerosV, aMakeSlice, aAppend, elemsOf, sliceOrStr, thaw, thawL, freshD, puresD, mapEnts, Int.natCast_inj, g0, q, hv]
end Go.Proofs.YtedphjbgimkmlaaDoor.Ai

