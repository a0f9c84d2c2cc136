/- Part of a reckoning of a Go program over abstract values, proved sound against the model. -/
import Derived.Test.YtedphjbgimkmlaaDoorAiIC6
import Derived.Test.YtedphjbgimkmlaaDoorAiIC8
import Derived.Test.YtedphjbgimkmlaaDoorAiIC10
set_option linter.unusedSimpArgs false
set_option linter.unusedVariables false
namespace Go.Proofs.YtedphjbgimkmlaaDoor.Ai
open Go.Proofs
set_option maxRecDepth 100000
set_option maxHeartbeats 4000000

/-- slices.Equal of a slice and itself. -/
theorem p10 (x : List Bool) (hl : x.length ≤ 1000) : PureOk Tryd.prog cfg0 10 [.list (x.map V.bool), .list (x.map V.bool)] (.bool true) := by
  have hc := st_ok (e := []) (f := []) .nil .nil
  refine PureOk.cfg (cfg := st [] []) rfl ?_
  refine pure_of (sl := true) hc (cf0_ok hc) noSpE Tryd.func10 f10_eq f10_nt f10_fits (by simp) (by simp) ?_
  simp -implicitDefEqProofs (maxDischargeDepth := 9) (maxSteps := 1000000) [Nat.add_assoc, aFieldAddr, aField, aLoad, aStore, aIndexAddr, aIndex, aSlice, aLen, asInt, asIntO, cpOf, sub, splice, fillV, aBuildSlice, zerosV, aMakeSlice, aAppend, elemsOf, sliceOrStr, thaw, thawL, freshD, puresD, mapEnts, Int.natCast_inj, f10_ac]
  refine e_loopK (α := Nat) (fun i => [(0, .list (x.map V.bool)), (1, .list (x.map V.bool)), (12, .int .i64 x.length), (13, .int .i64 i)]) (fun i s => s.wf ∧ i ≤ x.length) (fun i => x.length - i) 0 f10_l0_fits (by simp) (by simp) ?_
  rintro i s ⟨hw, hi⟩
  rcases Nat.lt_or_ge i x.length with h | h
  · have e1 := List.getElem?_eq_getElem h
    have e3 : IntKind.i64.wrap ((i : Int) + 1) = ((i + 1 : Nat) : Int) := wrap_ok (by omega) (by omega)
    simp -implicitDefEqProofs (maxDischargeDepth := 9) (maxSteps := 1000000) [Nat.add_assoc, aFieldAddr, aField, aLoad, aStore, aIndexAddr, aIndex, aSlice, aLen, asInt, asIntO, cpOf, sub, splice, fillV, aBuildSlice, zerosV, aMakeSlice, aAppend, elemsOf, sliceOrStr, thaw, thawL, freshD, puresD, mapEnts, Int.natCast_inj, f10_l0, h, hw, e1, e3]
    refine ⟨i + 1, by omega, by omega, by simp⟩
  · have : i = x.length := by omega
    subst this
    simp -implicitDefEqProofs (maxDischargeDepth := 9) (maxSteps := 1000000) [Nat.add_assoc, aFieldAddr, aField, aLoad, aStore, aIndexAddr, aIndex, aSlice, aLen, asInt, asIntO, cpOf, sub, splice, fillV, aBuildSlice, zerosV, aMakeSlice, aAppend, elemsOf, sliceOrStr, thaw, thawL, freshD, puresD, mapEnts, Int.natCast_inj, f10_l0, hw]
def okL (l : List Inst) : Prop := fstE (instE l) l.length = 0
theorem ok_of_ck {l : List Inst} (h : ckT l = 0) : okL l := by
  unfold okL
  by_cases h0 : fstE (instE l) l.length = 0
  · exact h0
  · unfold ckT at h; rw [if_neg h0] at h; exact absurd h h0
theorem alts_of {l : List Inst} (h : okL l) : ∀ x ∈ l, ¬ x.kind = 4 → x.alts = [] := fun x hx hk => (ck_alts (inst_ok h hx)).1 hk
open Classical in
noncomputable def e16 : List V → Option V
  | [.list l] => (dXs l).bind fun l => if l.length ≤ 12 ∧ okL l then some (.list ((vl l).map V.bool)) else none
  | _ => none
theorem t16 : ∀ args v, e16 args = some v → PureOk Tryd.prog cfg0 16 args v := fun args v h => by
  unfold e16 at h
  split at h
  · simp only [Option.bind_eq_some_iff] at h
    obtain ⟨l, hl, h⟩ := h
    obtain rfl := dXs_eq hl
    split at h
    · rename_i hh; injection h with h; subst h; exact p16 l hh.1 (good_of hh.2).1
    · cases h
  · cases h
theorem t17 : ∀ args v, e16 args = some v → PureOk Tryd.prog cfg0 17 args v := fun args v h => by
  unfold e16 at h
  split at h
  · simp only [Option.bind_eq_some_iff] at h
    obtain ⟨l, hl, h⟩ := h
    obtain rfl := dXs_eq hl
    split at h
    · rename_i hh; injection h with h; subst h; exact p17 l hh.1 (good_of hh.2).1 (alts_of hh.2)
    · cases h
  · cases h
def e8 : List V → Option V
  | [.list l] => (dXs l).bind fun l => if l.length ≤ 12 then some (.int .i64 (ckT l)) else none
  | _ => none
theorem t8 : ∀ args v, e8 args = some v → PureOk Tryd.prog cfg0 8 args v := fun args v h => by
  unfold e8 at h
  split at h
  · simp only [Option.bind_eq_some_iff] at h
    obtain ⟨l, hl, h⟩ := h
    obtain rfl := dXs_eq hl
    split at h
    · rename_i hh; injection h with h; subst h; exact p8 l hh
    · cases h
  · cases h
theorem t9 : ∀ args v, e8 args = some v → PureOk Tryd.prog cfg0 9 args v := fun args v h => by
  unfold e8 at h
  split at h
  · simp only [Option.bind_eq_some_iff] at h
    obtain ⟨l, hl, h⟩ := h
    obtain rfl := dXs_eq hl
    split at h
    · rename_i hh; injection h with h; subst h; exact p9 l hh
    · cases h
  · cases h
noncomputable def eR : List (FuncId × (List V → Option V)) := [(8, e8), (9, e8), (16, e16), (17, e16)]
theorem eR_ok : TabOk Tryd.prog cfg0 eR := .cons t8 (.cons t9 (.cons t16 (.cons t17 .nil)))
/-- What Valued gives. -/
noncomputable def vals (l : List Inst) : List Bool := if ckT l = 0 then vl l else []
theorem call8 {cf : CF} {l : List Inst} (hl : l.length ≤ 12) {s : S} : callOp (st eR []) cf 8 [.list (l.map eX)] s = some (.val (.int .i64 (ckT l)) s) := by
  refine callOp_tab ?_
  simp only [st_tab, eR, tabAt_cons, if_true]
  simp [e8, hl]
theorem call9 {cf : CF} {l : List Inst} (hl : l.length ≤ 12) {s : S} : callOp (st eR []) cf 9 [.list (l.map eX)] s = some (.val (.int .i64 (ckT l)) s) := by
  refine callOp_tab ?_
  simp only [st_tab, eR, tabAt_cons, show ¬ (8 : Nat) = 9 by decide, if_false, if_true]
  simp [e8, hl]
theorem call16 {cf : CF} {l : List Inst} (hl : l.length ≤ 12) (h : ckT l = 0) {s : S} : callOp (st eR []) cf 16 [.list (l.map eX)] s = some (.val (.list ((vl l).map V.bool)) s) := by
  refine callOp_tab ?_
  simp only [st_tab, eR, tabAt_cons, show ¬ (8 : Nat) = 16 by decide, show ¬ (9 : Nat) = 16 by decide, if_false, if_true]
  simp [e16, hl, ok_of_ck h]
theorem call17 {cf : CF} {l : List Inst} (hl : l.length ≤ 12) (h : ckT l = 0) {s : S} : callOp (st eR []) cf 17 [.list (l.map eX)] s = some (.val (.list ((vl l).map V.bool)) s) := by
  refine callOp_tab ?_
  simp only [st_tab, eR, tabAt_cons, show ¬ (8 : Nat) = 17 by decide, show ¬ (9 : Nat) = 17 by decide, show ¬ (16 : Nat) = 17 by decide, if_false, if_true]
  simp [e16, hl, ok_of_ck h]
theorem hcR : (st eR []).Ok Tryd.prog := st_ok eR_ok .nil
theorem vl_len {l : List Inst} : (vl l).length ≤ l.length := by
  unfold vl
  split
  · rename_i h
    rw [(Classical.choose_spec h).1.1]; exact Nat.le_refl _
  · simp
theorem laid_tup {s : S} {x : List Bool} {n : Int} (h : x.length ≤ 1000) : LaidK s (.tup [.list (x.map V.bool), .int .i64 n]) (.tup [.list (x.map V.bool), .int .i64 n]) := by
  refine ⟨?_, by simp⟩
  have h1 : seeL 99997 s (x.map V.bool) = some (x.map V.bool) := seeL_bool x 99997 (by omega)
  show see 100000 s _ = _
  simp only [see, seeL, h1]
theorem laid_tup0 {s : S} {n : Int} : LaidK s (.tup [.nils, .int .i64 n]) (.tup [.list [], .int .i64 n]) := by
  refine ⟨?_, by simp⟩
  show see 100000 s _ = _
  simp only [see, seeL]
theorem p6 (l : List Inst) (hl : l.length ≤ 12) : PureOk Tryd.prog cfg0 6 [.list (l.map eX)] (.tup [.list ((vals l).map V.bool), .int .i64 (ckT l)]) := by
  refine PureOk.cfg (cfg := st eR []) rfl ?_
  refine pure_of (sl := true) hcR (cf0_ok hcR) noSpE Tryd.func6 f6_eq f6_nt f6_fits (by simp) (by simp) ?_
  have q8 := fun s => call8 (cf := cf0 eR []) hl (s := s)
  have hv := vl_len (l := l)
  by_cases h : ckT l = 0
  · have q16 := fun s => call16 (cf := cf0 eR []) hl h (s := s)
    simp -implicitDefEqProofs (maxDischargeDepth := 9) (maxSteps := 1000000) [Nat.add_assoc, aFieldAddr, aField, aLoad, aStore, aIndexAddr, aIndex, aSlice, aLen, asInt, asIntO, cpOf, sub, splice, fillV, aBuildSlice, zerosV, aMakeSlice, aAppend, elemsOf, sliceOrStr, thaw, thawL, freshD, puresD, mapEnts, Int.natCast_inj, f6_ac, q8, q16, h, vals]
    exact laid_tup (by omega)
  · simp -implicitDefEqProofs (maxDischargeDepth := 9) (maxSteps := 1000000) [Nat.add_assoc, aFieldAddr, aField, aLoad, aStore, aIndexAddr, aIndex, aSlice, aLen, asInt, asIntO, cpOf, sub, splice, fillV, aBuildSlice, zerosV, aMakeSlice, aAppend, elemsOf, sliceOrStr, thaw, thawL, freshD, puresD, mapEnts, Int.natCast_inj, f6_ac, q8, h, vals]
    exact laid_tup0
theorem p7 (l : List Inst) (hl : l.length ≤ 12) : PureOk Tryd.prog cfg0 7 [.list (l.map eX)] (.tup [.list ((vals l).map V.bool), .int .i64 (ckT l)]) := by
  refine PureOk.cfg (cfg := st eR []) rfl ?_
  refine pure_of (sl := true) hcR (cf0_ok hcR) noSpE Tryd.func7 f7_eq f7_nt f7_fits (by simp) (by simp) ?_
  have q9 := fun s => call9 (cf := cf0 eR []) hl (s := s)
  have hv := vl_len (l := l)
  by_cases h : ckT l = 0
  · have q17 := fun s => call17 (cf := cf0 eR []) hl h (s := s)
    simp -implicitDefEqProofs (maxDischargeDepth := 9) (maxSteps := 1000000) [Nat.add_assoc, aFieldAddr, aField, aLoad, aStore, aIndexAddr, aIndex, aSlice, aLen, asInt, asIntO, cpOf, sub, splice, fillV, aBuildSlice, zerosV, aMakeSlice, aAppend, elemsOf, sliceOrStr, thaw, thawL, freshD, puresD, mapEnts, Int.natCast_inj, f7_ac, q9, q17, h, vals]
    exact laid_tup (by omega)
  · simp -implicitDefEqProofs (maxDischargeDepth := 9) (maxSteps := 1000000) [Nat.add_assoc, aFieldAddr, aField, aLoad, aStore, aIndexAddr, aIndex, aSlice, aLen, asInt, asIntO, cpOf, sub, splice, fillV, aBuildSlice, zerosV, aMakeSlice, aAppend, elemsOf, sliceOrStr, thaw, thawL, freshD, puresD, mapEnts, Int.natCast_inj, f7_ac, q9, h, vals]
    exact laid_tup0
def e4 : List V → Option V
  | [.list l] => (dXs l).map fun l => .bool (few l)
  | _ => none
theorem t4 : ∀ args v, e4 args = some v → PureOk Tryd.prog cfg0 4 args v := fun args v h => by
  unfold e4 at h
  split at h
  · simp only [Option.map_eq_some_iff] at h
    obtain ⟨l, hl, rfl⟩ := h
    obtain rfl := dXs_eq hl
    exact p4 l
  · cases h
noncomputable def e6 : List V → Option V
  | [.list l] => (dXs l).bind fun l => if l.length ≤ 12 then some (.tup [.list ((vals l).map V.bool), .int .i64 (ckT l)]) else none
  | _ => none
theorem t6 : ∀ args v, e6 args = some v → PureOk Tryd.prog cfg0 6 args v := fun args v h => by
  unfold e6 at h
  split at h
  · simp only [Option.bind_eq_some_iff] at h
    obtain ⟨l, hl, h⟩ := h
    obtain rfl := dXs_eq hl
    split at h
    · rename_i hh; injection h with h; subst h; exact p6 l hh
    · cases h
  · cases h
theorem t7 : ∀ args v, e6 args = some v → PureOk Tryd.prog cfg0 7 args v := fun args v h => by
  unfold e6 at h
  split at h
  · simp only [Option.bind_eq_some_iff] at h
    obtain ⟨l, hl, h⟩ := h
    obtain rfl := dXs_eq hl
    split at h
    · rename_i hh; injection h with h; subst h; exact p7 l hh
    · cases h
  · cases h
def e10 : List V → Option V
  | [.list a, .list b] => (dBs a).bind fun a => (dBs b).bind fun b => if a = b ∧ a.length ≤ 1000 then some (.bool true) else none
  | _ => none
theorem t10 : ∀ args v, e10 args = some v → PureOk Tryd.prog cfg0 10 args v := fun args v h => by
  unfold e10 at h
  split at h
  · simp only [Option.bind_eq_some_iff] at h
    obtain ⟨a, ha, b, hb, h⟩ := h
    obtain rfl := dBs_eq ha
    obtain rfl := dBs_eq hb
    split at h
    · rename_i hh
      injection h with h; subst h
      obtain ⟨rfl, hh⟩ := hh
      exact p10 a hh
    · cases h
  · cases h
noncomputable def eQ : List (FuncId × (List V → Option V)) := [(4, e4), (5, e5), (6, e6), (7, e6), (8, e8), (9, e8), (10, e10)]
theorem eQ_ok : TabOk Tryd.prog cfg0 eQ := .cons t4 (.cons t5 (.cons t6 (.cons t7 (.cons t8 (.cons t9 (.cons t10 .nil))))))
theorem hcQ : (st eQ []).Ok Tryd.prog := st_ok eQ_ok .nil
@[simp] theorem f5_isb : Tryd.f5.body.isNone = false := by kernel_rfl
/-- The law: true. -/
theorem p3 (l : List Inst) : PureOk Tryd.prog cfg0 3 [.list (l.map eX)] (.bool true) := by
  refine PureOk.cfg (cfg := st eQ []) rfl ?_
  refine pure_of (sl := true) hcQ (cf0_ok hcQ) noSpE Tryd.func3 f3_eq f3_nt f3_fits (by simp) (by simp) ?_
  have q4 : ∀ s, callOp (st eQ []) (cf0 eQ []) 4 [.list (l.map eX)] s = some (.val (.bool (few l)) s) := fun s => callOp_tab (by simp [eQ, tabAt_cons, e4])
  have q5 : ∀ s, callOp (st eQ []) (cf0 eQ []) 5 [] s = some (.val (.bool true) s) := fun s => callOp_tab (by simp [eQ, tabAt_cons, e5])
  cases hf : few l with
  | false =>
    rw [hf] at q4
    simp -implicitDefEqProofs (maxDischargeDepth := 9) (maxSteps := 1000000) [Nat.add_assoc, aFieldAddr, aField, aLoad, aStore, aIndexAddr, aIndex, aSlice, aLen, asInt, asIntO, cpOf, sub, splice, fillV, aBuildSlice, zerosV, aMakeSlice, aAppend, elemsOf, sliceOrStr, thaw, thawL, freshD, puresD, mapEnts, Int.natCast_inj, f3_ac, q4, q5]
  | true =>
    rw [hf] at q4
    have hl : l.length ≤ 12 := by
      unfold few at hf
      simp only [Bool.and_eq_true, decide_eq_true_eq] at hf
      exact hf.1
    have hv : (vals l).length ≤ 1000 := by
      unfold vals
      split
      · have := vl_len (l := l); omega
      · simp
    have q6 : ∀ s, callOp (st eQ []) (cf0 eQ []) 6 [.list (l.map eX)] s = some (.val (.tup [.list ((vals l).map V.bool), .int .i64 (ckT l)]) s) := fun s => callOp_tab (by simp [eQ, tabAt_cons, e6, hl])
    have q7 : ∀ s, callOp (st eQ []) (cf0 eQ []) 7 [.list (l.map eX)] s = some (.val (.tup [.list ((vals l).map V.bool), .int .i64 (ckT l)]) s) := fun s => callOp_tab (by simp [eQ, tabAt_cons, e6, hl])
    have q8 : ∀ s, callOp (st eQ []) (cf0 eQ []) 8 [.list (l.map eX)] s = some (.val (.int .i64 (ckT l)) s) := fun s => callOp_tab (by simp [eQ, tabAt_cons, e8, hl])
    have q9 : ∀ s, callOp (st eQ []) (cf0 eQ []) 9 [.list (l.map eX)] s = some (.val (.int .i64 (ckT l)) s) := fun s => callOp_tab (by simp [eQ, tabAt_cons, e8, hl])
    have q10 : ∀ s, callOp (st eQ []) (cf0 eQ []) 10 [.list ((vals l).map V.bool), .list ((vals l).map V.bool)] s = some (.val (.bool true) s) := fun s => callOp_tab (by simp [eQ, tabAt_cons, e10, hv])
    simp -implicitDefEqProofs (maxDischargeDepth := 9) (maxSteps := 1000000) [Nat.add_assoc, aFieldAddr, aField, aLoad, aStore, aIndexAddr, aIndex, aSlice, aLen, asInt, asIntO, cpOf, sub, splice, fillV, aBuildSlice, zerosV, aMakeSlice, aAppend, elemsOf, sliceOrStr, thaw, thawL, freshD, puresD, mapEnts, Int.natCast_inj, f3_ac, q4, q5, q6, q7, q8, q9, q10]
end Go.Proofs.YtedphjbgimkmlaaDoor.Ai

