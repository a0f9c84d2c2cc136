/- Part of a reckoning of a Go program over abstract values, proved sound against the model. -/
import Derived.Test.YtedphjbgimkmlaaDoorAiIA8
set_option linter.unusedSimpArgs false
set_option linter.unusedVariables false
namespace Go.Proofs.YtedphjbgimkmlaaDoor.Ai
open Go.Proofs
set_option maxRecDepth 100000
set_option maxHeartbeats 4000000

theorem InV.add {l : List Inst} {b : List Bool} {s : S} (h : InV l b s) (o : O) : InV l b (s.add s.next o) := by
  obtain ⟨hw, hn, hb, h1, h0⟩ := h
  have a1 : ¬ 1 = s.next := by omega
  have a0 : ¬ 0 = s.next := by omega
  exact ⟨S.wf_add hw _ _, by simp only [S.next_add]; omega, hb, by rw [S.get_add, if_neg a1]; exact h1, by rw [S.get_add, if_neg a0]; exact h0⟩
theorem InV.add2 {l : List Inst} {b : List Bool} {s : S} (h : InV l b s) (o p : O) : InV l b ((s.add s.next o).put s.next p) := by
  obtain ⟨hw, hn, hb, h1, h0⟩ := h
  have a1 : ¬ 1 = s.next := by omega
  have a0 : ¬ 0 = s.next := by omega
  exact ⟨S.wf_put (S.wf_add hw _ _) _ _ (by simp only [S.next_add]; omega), by simp only [S.next_put, S.next_add]; omega, hb, by rw [S.get_put, if_neg a1, S.get_add, if_neg a1]; exact h1, by rw [S.get_put, if_neg a0, S.get_add, if_neg a0]; exact h0⟩
theorem InV.set {l : List Inst} {b : List Bool} {s : S} (h : InV l b s) (i : Nat) (v : Bool) : InV l (b.set i v) (s.put 0 (.cells ((b.set i v).map V.bool) 0 4 true)) := by
  obtain ⟨hw, hn, hb, h1, h0⟩ := h
  exact ⟨S.wf_put hw _ _ (by omega), hn, by simpa using hb, by rw [S.get_put, if_neg (by omega)]; exact h1, by rw [S.get_put, if_pos rfl]⟩
theorem set_map_bool (b : List Bool) (i : Nat) (v : Bool) : (b.map V.bool).set i (.bool v) = (b.set i v).map V.bool := by rw [List.map_set]
theorem splice_bool (b : List Bool) (i : Nat) (v : Bool) (h : i < b.length) : (b.map V.bool).take i ++ V.bool v :: (b.map V.bool).drop (i + 1) = (b.set i v).map V.bool := by
  rw [← set_map_bool, List.set_eq_take_append_cons_drop, if_pos (by simpa using h)]
def g16_k2 : AC := (.seq (.reg 10 f16_r10o [0, 3, 4, 5, 12, 13, 14, 24, 25, 26, 33, 34, 35, 36, 37]) (.cond (.tmp 37) (.reg 11 f16_r11o [0, 3, 4, 12, 13, 14, 24, 25, 26, 33, 34, 35, 36]) .skip))
def g16_k1 : AC := (.seq (.seq (.reg 8 f16_r8o [0, 3, 4, 5, 6, 12, 13, 14, 24, 25, 26, 27, 33, 34, 35, 36]) (.cond (.tmp 27) (.exit 3) .skip)) (.seq (.reg 9 f16_r9o [0, 3, 4, 5, 6, 7, 12, 13, 14, 24, 25, 26, 33, 34, 35, 36]) g16_k2))
def g16_r12 : AC := (.reg 12 f16_r12o [0, 3, 4, 12, 13, 14, 24, 25, 26, 33, 34, 35, 36])
def g16_end : AC := (.seq (.block 3 (.seq (.reg 7 f16_r7o [0, 3, 4, 5, 6, 12, 13, 14, 24, 25, 26, 33, 34, 35, 36]) g16_k1)) g16_r12)
theorem g16_top : f16_l0 = (.seq (.reg 6 f16_r6o [0, 3, 4, 12, 13, 14, 15, 24, 25, 26, 33, 34, 35, 36]) (.seq (.cond (.tmp 15) .skip (.exit 2)) g16_end)) := rfl
def env16 (l : List Inst) (c : Bool) (i : Nat) : Env := [(0, .list (l.map eX)), (3, .ptr 1 0), (4, .bool c), (12, .list (l.map eX)), (13, .int .i64 l.length), (14, .int .i64 i)]
section
variable {l : List Inst} {b : List Bool} {i k : Nat} {c : Bool} {t : S} {P : AX → Env → S → Prop}
theorem r16 (h : i < 1000) {E : Env} (hE : SubE (env16 l c i) E) (hP : ∀ E', SubE (env16 l c (i + 1)) E' → P .normal E' t) : RunC (st eV []) (cf0 eV []) true [] 43 g16_r12 E t P := by
  have e3 : IntKind.i64.wrap ((i : Int) + 1) = ((i + 1 : Nat) : Int) := wrap_ok (by omega) (by omega)
  obtain ⟨h0, h3, h4, h12, h13, h14, _⟩ := hE
  simp only at h0 h3 h4 h12 h13 h14
  unfold g16_r12
  simp -implicitDefEqProofs (maxDischargeDepth := 9) (maxSteps := 1000000) [Nat.add_assoc, aFieldAddr, aField, aLoad, aStore, aIndexAddr, aIndex, aSlice, aLen, asInt, asIntO, cpOf, sub, splice, fillV, aBuildSlice, zerosV, aMakeSlice, aAppend, elemsOf, sliceOrStr, thaw, thawL, freshD, puresD, mapEnts, Int.natCast_inj, h0, h3, h4, h12, h13, h14, e3]
  exact hP _ (by simp [env16])
theorem q16 (hg : goodV l) (hl : l.length ≤ 12) {x : Inst} (hx : x ∈ l) (h : i < l.length) (hi : InV l b t) (hk : t.get k = some (.cells [vI x.kind, .list (x.alts.map eA), .list (x.modes.map eM), vI x.det] 0 35 true))
    (hE : bAt b i = true ∨ x.kind = 6 → ∀ E', SubE (env16 l c i) E' → P (.exit 3) E' t)
    (hN : bAt b i = false → ¬ x.kind = 6 → x.kind = 4 → x.alts.any (allB b) = false → ∀ E', SubE (env16 l c i) E' → P .normal E' t)
    (hS : bAt b i = false → ¬ x.kind = 6 → (¬ x.kind = 4 ∨ x.alts.any (allB b) = true) → ∀ E', SubE (env16 l true i) E' → P .normal E' (t.put 0 (.cells ((b.set i true).map V.bool) 0 4 true))) :
    RunC (st eV []) (cf0 eV []) true [] 43 g16_k1 [(0, .list (l.map eX)), (3, .ptr 1 0), (4, .bool c), (5, .int .i64 i), (6, .ptr k 0), (12, .list (l.map eX)), (13, .int .i64 l.length), (14, .int .i64 i)] t P := by
  have hc := call23 hg hl hi hx
  obtain ⟨hw, hn, hb, h1, h0⟩ := id hi
  have hn0 : 0 < t.next := by omega
  have hib : i < b.length := by omega
  have hib1 : i + 1 ≤ b.length := hib
  have hsp := splice_bool b i true hib
  have hba : bAt b i = b[i] := by rw [bAt_nat, List.getElem?_eq_getElem hib]; rfl
  unfold g16_k1 g16_k2
  cases hbi : b[i] with
  | true =>
    simp -implicitDefEqProofs (maxDischargeDepth := 9) (maxSteps := 1000000) [Nat.add_assoc, aFieldAddr, aField, aLoad, aStore, aIndexAddr, aIndex, aSlice, aLen, asInt, asIntO, cpOf, sub, splice, fillV, aBuildSlice, zerosV, aMakeSlice, aAppend, elemsOf, sliceOrStr, thaw, thawL, freshD, puresD, mapEnts, Int.natCast_inj, h, hw, hn, hn0, h1, h0, hib, hbi, hk]
    exact hE (.inl (by rw [hba, hbi])) _ (by simp [env16])
  | false =>
    rw [hbi] at hba
    by_cases k6 : x.kind = 6
    · simp -implicitDefEqProofs (maxDischargeDepth := 9) (maxSteps := 1000000) [Nat.add_assoc, aFieldAddr, aField, aLoad, aStore, aIndexAddr, aIndex, aSlice, aLen, asInt, asIntO, cpOf, sub, splice, fillV, aBuildSlice, zerosV, aMakeSlice, aAppend, elemsOf, sliceOrStr, thaw, thawL, freshD, puresD, mapEnts, Int.natCast_inj, h, hw, hn, hn0, h1, h0, hib, hbi, hk, k6, vI]
      exact hE (.inr k6) _ (by simp [env16])
    · by_cases k4 : x.kind = 4
      · cases hany : x.alts.any (allB b) with
        | true =>
          rw [hany] at hc
          simp -implicitDefEqProofs (maxDischargeDepth := 9) (maxSteps := 1000000) [Nat.add_assoc, aFieldAddr, aField, aLoad, aStore, aIndexAddr, aIndex, aSlice, aLen, asInt, asIntO, cpOf, sub, splice, fillV, aBuildSlice, zerosV, aMakeSlice, aAppend, elemsOf, sliceOrStr, thaw, thawL, freshD, puresD, mapEnts, Int.natCast_inj, h, hw, hn, hn0, h1, h0, hib, hib1, hbi, hk, k4, hc, hsp, vI]
          rw [set_map_bool]
          exact hS hba k6 (.inr hany) _ (by simp [env16])
        | false =>
          rw [hany] at hc
          simp -implicitDefEqProofs (maxDischargeDepth := 9) (maxSteps := 1000000) [Nat.add_assoc, aFieldAddr, aField, aLoad, aStore, aIndexAddr, aIndex, aSlice, aLen, asInt, asIntO, cpOf, sub, splice, fillV, aBuildSlice, zerosV, aMakeSlice, aAppend, elemsOf, sliceOrStr, thaw, thawL, freshD, puresD, mapEnts, Int.natCast_inj, h, hw, hn, hn0, h1, h0, hib, hib1, hbi, hk, k4, hc, vI]
          exact hN hba k6 k4 hany _ (by simp [env16])
      · simp -implicitDefEqProofs (maxDischargeDepth := 9) (maxSteps := 1000000) [Nat.add_assoc, aFieldAddr, aField, aLoad, aStore, aIndexAddr, aIndex, aSlice, aLen, asInt, asIntO, cpOf, sub, splice, fillV, aBuildSlice, zerosV, aMakeSlice, aAppend, elemsOf, sliceOrStr, thaw, thawL, freshD, puresD, mapEnts, Int.natCast_inj, h, hw, hn, hn0, h1, h0, hib, hib1, hbi, hk, k4, k6, hsp, vI]
        rw [set_map_bool]
        exact hS hba k6 (.inl k4) _ (by simp [env16])
/-- One inst. -/
theorem body16 {b0 : List Bool} (hg : goodV l) (hl : l.length ≤ 12) (h : i < l.length) {s : S} (hi : InV l (swG ruleV l b0 i).1 s) (hP : ∀ E' s', SubE (env16 l (swG ruleV l b0 (i + 1)).2 (i + 1)) E' → InV l (swG ruleV l b0 (i + 1)).1 s' → P .normal E' s') :
    RunC (st eV []) (cf0 eV []) true [] 43 f16_l0 (env16 l (swG ruleV l b0 i).2 i) s P := by
  have hs1 := sw_succ (r := ruleV) (b0 := b0) h rfl
  generalize (swG ruleV l b0 i).1 = b at hi hs1
  generalize (swG ruleV l b0 i).2 = c at hs1
  have hx := List.getElem_mem h
  have e1 := List.getElem?_eq_getElem h
  have ha := hi.add2
  obtain ⟨hw, hn, hb, h1, h0⟩ := id hi
  have hlt : i < 1000 := by omega
  rw [g16_top]
  simp -implicitDefEqProofs (maxDischargeDepth := 9) (maxSteps := 1000000) [Nat.add_assoc, aFieldAddr, aField, aLoad, aStore, aIndexAddr, aIndex, aSlice, aLen, asInt, asIntO, cpOf, sub, splice, fillV, aBuildSlice, zerosV, aMakeSlice, aAppend, elemsOf, sliceOrStr, thaw, thawL, freshD, puresD, mapEnts, Int.natCast_inj, env16, h]
  unfold g16_end
  simp -implicitDefEqProofs (maxDischargeDepth := 9) (maxSteps := 1000000) [Nat.add_assoc, aFieldAddr, aField, aLoad, aStore, aIndexAddr, aIndex, aSlice, aLen, asInt, asIntO, cpOf, sub, splice, fillV, aBuildSlice, zerosV, aMakeSlice, aAppend, elemsOf, sliceOrStr, thaw, thawL, freshD, puresD, mapEnts, Int.natCast_inj, env16, h, hw, e1, eX]
  have hbi : bAt b i = (b[i]?).getD false := bAt_nat b i
  refine q16 hg hl hx h (ha _ _) (by simp [S.get_put]) ?_ ?_ ?_
  · intro hh E' hE'
    have hs2 : swG ruleV l b0 (i + 1) = (b, c) := by
      rw [hs1]
      rcases hh with hh | hh
      · simp [stepG, hh]
      · simp [stepG, ruleV, hh]
    rw [hs2] at hP
    exact r16 hlt hE' fun E'' h'' => hP E'' _ h'' (ha _ _)
  · intro h1 h2 h3 h4 E' hE'
    have hs2 : swG ruleV l b0 (i + 1) = (b, c) := by rw [hs1]; simp [stepG, ruleV, h1, h3, h4]
    rw [hs2] at hP
    exact r16 hlt hE' fun E'' h'' => hP E'' _ h'' (ha _ _)
  · intro h1 h2 h3 E' hE'
    have hs2 : swG ruleV l b0 (i + 1) = (b.set i true, true) := by
      rw [hs1]
      have : ruleV b l[i] = true := by
        simp only [ruleV, Bool.and_eq_true, Bool.or_eq_true, Bool.not_eq_true', decide_eq_false_iff_not]
        exact ⟨h2, h3⟩
      simp [stepG, h1, this]
    rw [hs2] at hP
    exact r16 hlt hE' fun E'' h'' => hP E'' _ h'' ((ha _ _).set i true)
theorem x16 {c : Bool} {s : S} (hP : ∀ E', SubE (env16 l c l.length) E' → P (.exit 2) E' s) : RunC (st eV []) (cf0 eV []) true [] 43 f16_l0 (env16 l c l.length) s P := by
  rw [g16_top]
  simp -implicitDefEqProofs (maxDischargeDepth := 9) (maxSteps := 1000000) [Nat.add_assoc, aFieldAddr, aField, aLoad, aStore, aIndexAddr, aIndex, aSlice, aLen, asInt, asIntO, cpOf, sub, splice, fillV, aBuildSlice, zerosV, aMakeSlice, aAppend, elemsOf, sliceOrStr, thaw, thawL, freshD, puresD, mapEnts, Int.natCast_inj, env16]
  exact hP _ (by simp [env16])
end
structure BC where
  b : List Bool
  c : Bool
theorem vl_laid {l : List Inst} {b : List Bool} (hl : l.length ≤ 12) (h1 : Cl l b) (h2 : Lo l b) {s : S} (h0 : s.get 0 = some (.cells (b.map V.bool) 0 4 true)) : LaidK s (.arr 0 0 l.length 1 false (l.length + 1)) (.list ((vl l).map V.bool)) := by
  rw [vl_eq h1 h2]
  refine ⟨see_arrB h0 h1.1.symm ?_, by simp⟩
  have hf : FUEL = 100000 := rfl
  rw [hf, h1.1]; omega
theorem p16 (l : List Inst) (hl : l.length ≤ 12) (hg : goodV l) : PureOk Tryd.prog cfg0 16 [.list (l.map eX)] (.list ((vl l).map V.bool)) := by
  have hc := st_ok (e := eV) (f := []) eV_ok .nil
  refine PureOk.cfg (cfg := st eV []) rfl ?_
  refine pure_of (sl := true) hc (cf0_ok hc) noSpE Tryd.func16 f16_eq f16_nt f16_fits (by simp) (by simp) ?_
  have h8 : (l.length : Int) * 8 ≤ 140737488355328 := by omega
  have h9 : (l.length : Int) ≤ 140737488355328 := by omega
  have hz := zeros_bool l.length
  simp -implicitDefEqProofs (maxDischargeDepth := 9) (maxSteps := 1000000) [Nat.add_assoc, aFieldAddr, aField, aLoad, aStore, aIndexAddr, aIndex, aSlice, aLen, asInt, asIntO, cpOf, sub, splice, fillV, aBuildSlice, zerosV, aMakeSlice, aAppend, elemsOf, sliceOrStr, thaw, thawL, freshD, puresD, mapEnts, Int.natCast_inj, f16_ac, h8, h9, hz]
  refine e_loopK (α := BC) (fun a => [(0, .list (l.map eX)), (3, .ptr 1 0), (4, .bool a.c)]) (fun a s => InV l a.b s ∧ Lo l a.b ∧ (a.c = false → Cl l a.b)) (fun a => 2 * a.b.count false + (if a.c = true then 1 else 0)) ⟨List.replicate l.length false, true⟩ f16_l1_fits (by simp) ⟨⟨?_, ?_, by simp, ?_, ?_⟩, lo_none l _, fun h => by cases h⟩ ?_
  · exact S.wf_put (S.wf_add (S.wf_add S.wf_empty _ _) _ _) _ _ (by simp [S.empty, S.add])
  · simp [S.empty, S.add, S.put]
  · simp [S.get_put]
  · simp [S.get_put, S.get_add]
  · rintro ⟨b, c⟩ s ⟨hi, hlo, hcl⟩
    simp only at hi hlo hcl
    obtain ⟨hw, hn, hb, h1, h0⟩ := id hi
    cases c with
    | false =>
      have hv := vl_laid hl (hcl rfl) hlo h0
      simp -implicitDefEqProofs (maxDischargeDepth := 9) (maxSteps := 1000000) [Nat.add_assoc, aFieldAddr, aField, aLoad, aStore, aIndexAddr, aIndex, aSlice, aLen, asInt, asIntO, cpOf, sub, splice, fillV, aBuildSlice, zerosV, aMakeSlice, aAppend, elemsOf, sliceOrStr, thaw, thawL, freshD, puresD, mapEnts, Int.natCast_inj, f16_l1, hw, hn, h1, h0]
      exact hv
    | true =>
      simp -implicitDefEqProofs (maxDischargeDepth := 9) (maxSteps := 1000000) [Nat.add_assoc, aFieldAddr, aField, aLoad, aStore, aIndexAddr, aIndex, aSlice, aLen, asInt, asIntO, cpOf, sub, splice, fillV, aBuildSlice, zerosV, aMakeSlice, aAppend, elemsOf, sliceOrStr, thaw, thawL, freshD, puresD, mapEnts, Int.natCast_inj, f16_l1, hw, hn, h1, h0]
      refine e_loopK (α := Nat) (fun i => env16 l (swG ruleV l b i).2 i) (fun i s => i ≤ l.length ∧ InV l (swG ruleV l b i).1 s) (fun i => l.length - i) 0 f16_l0_fits (by simp [env16, swG]) ⟨Nat.zero_le _, hi⟩ ?_
      rintro i s ⟨hle, hi'⟩
      rcases Nat.lt_or_ge i l.length with h | h
      · exact body16 hg hl h hi' fun E'' s'' h1 h2 => ⟨i + 1, by omega, ⟨by omega, h2⟩, h1⟩
      · have : i = l.length := by omega
        subst this
        have hcnt := sw_count (r := ruleV) hb l.length
        have hcl' : (swG ruleV l b l.length).2 = false → Cl l (swG ruleV l b l.length).1 := fun h => by
          rw [(sw_still l.length h).1]
          exact cl_of_still hb h fun i x hx hv => .inl hv
        have hlo' := lo_sw (r := ruleV) (l := l) (fun b x _ h => h) hlo l.length
        generalize hbc : swG ruleV l b l.length = bc at *
        obtain ⟨b', c'⟩ := bc
        refine x16 fun E' hE' => ?_
        simp only [SeqK_exit, BlockK_exit, SeqK_normal, BlockK_normal, if_true]
        obtain ⟨g0, g3, g4, _⟩ := hE'
        refine ⟨⟨b', c'⟩, ?_, ⟨hi', hlo', hcl'⟩, g0, g3, g4⟩
        cases c' <;> simp at hcnt ⊢ <;> omega
end Go.Proofs.YtedphjbgimkmlaaDoor.Ai

