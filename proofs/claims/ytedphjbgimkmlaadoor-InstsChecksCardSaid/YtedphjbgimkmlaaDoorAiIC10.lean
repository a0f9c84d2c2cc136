/- Part of a reckoning of a Go program over abstract values, proved sound against the model. -/
import Derived.Test.YtedphjbgimkmlaaDoorAiIC9
set_option linter.unusedSimpArgs false
set_option linter.unusedVariables false
namespace Go.Proofs.YtedphjbgimkmlaaDoor.Ai
open Go.Proofs
set_option maxRecDepth 100000
set_option maxHeartbeats 4000000

section
variable {l : List Inst} {b : List Bool} {c : Bool} {i j k : Nat} {s : S} {E : Env} {P : AX → Env → S → Prop}
/-- The test of the loop over the alternatives. -/
theorem t17_13 (hi : InW l b s) (h : i < l.length) (hE : SubE (e17_2 l c i k) E) : Tst [] (cf0 [] []) 97 a17_13 E (e17_2 l c i k) s 57 (decide (k < l[i].alts.length) && !bAt b i) := by
  intro P hP
  obtain ⟨g0, g3, g5, g6, g7, _⟩ := hE
  simp only at g0 g3 g5 g6 g7
  have e1 := List.getElem?_eq_getElem h
  obtain ⟨hw, hn, hb, h0⟩ := id hi
  have hib : i < b.length := by omega
  have hba : bAt b i = b[i] := by rw [bAt_nat, List.getElem?_eq_getElem hib]; rfl
  unfold a17_13
  by_cases hk : k < l[i].alts.length
  · simp -implicitDefEqProofs (maxDischargeDepth := 9) (maxSteps := 1000000) [Nat.add_assoc, aFieldAddr, aField, aLoad, aStore, aIndexAddr, aIndex, aSlice, aLen, asInt, asIntO, cpOf, sub, splice, fillV, aBuildSlice, zerosV, aMakeSlice, aAppend, elemsOf, sliceOrStr, thaw, thawL, freshD, puresD, mapEnts, Int.natCast_inj, g0, g3, g5, g6, g7, h, e1, eX, hk, h0, hib]
    exact hP _ (by simp [e17_2]) (by simp [hk, hba])
  · simp -implicitDefEqProofs (maxDischargeDepth := 9) (maxSteps := 1000000) [Nat.add_assoc, aFieldAddr, aField, aLoad, aStore, aIndexAddr, aIndex, aSlice, aLen, asInt, asIntO, cpOf, sub, splice, fillV, aBuildSlice, zerosV, aMakeSlice, aAppend, elemsOf, sliceOrStr, thaw, thawL, freshD, puresD, mapEnts, Int.natCast_inj, g0, g3, g5, g6, g7, h, e1, eX, hk]
    exact hP _ (by simp [e17_2]) (by simp [hk])
theorem r17_14 (hl : k < 1000) (hE : SubE (e17_2 l c i k) E) (hP : ∀ E', SubE (e17_2 l c i (k + 1)) E' → P .normal E' s) : RunC (st [] []) (cf0 [] []) true [] 97 a17_14 E s P := by
  have e3 : IntKind.i64.wrap ((k : Int) + 1) = ((k + 1 : Nat) : Int) := wrap_ok (by omega) (by omega)
  obtain ⟨g0, g3, g5, g6, g7, _⟩ := hE
  simp only at g0 g3 g5 g6 g7
  unfold a17_14
  simp -implicitDefEqProofs (maxDischargeDepth := 9) (maxSteps := 1000000) [Nat.add_assoc, aFieldAddr, aField, aLoad, aStore, aIndexAddr, aIndex, aSlice, aLen, asInt, asIntO, cpOf, sub, splice, fillV, aBuildSlice, zerosV, aMakeSlice, aAppend, elemsOf, sliceOrStr, thaw, thawL, freshD, puresD, mapEnts, Int.natCast_inj, g0, g3, g5, g6, g7, e3]
  exact hP _ (by simp [e17_2])
theorem b17_2 (hg : goodV l) (hl : l.length ≤ 12) (hi : InW l b s) (h : i < l.length)
    (hX : (decide (k < l[i].alts.length) && !bAt b i) = false → ∀ E', SubE (e17_2 l c i k) E' → P (.exit 6) E' s)
    (hA : ∀ (hk : k < l[i].alts.length), bAt b i = false → allB b l[i].alts[k] = true → ∀ E', SubE (e17_2 l true i (k + 1)) E' → P .normal E' (s.put 0 (.cells ((b.set i true).map V.bool) 0 4 true)))
    (hB : ∀ (hk : k < l[i].alts.length), bAt b i = false → allB b l[i].alts[k] = false → ∀ E', SubE (e17_2 l c i (k + 1)) E' → P .normal E' s) :
    RunC (st [] []) (cf0 [] []) true [] 97 f17_l2 (e17_2 l c i k) s P := by
  rw [f17_l2_top, RunC_seq]
  refine test_seq (t17_13 (c := c) (k := k) hi h (by simp [e17_2])) (fun hb E' hE' => ?_) fun hb E' hE' => ?_
  · simp only [Bool.and_eq_true, decide_eq_true_eq, Bool.not_eq_true'] at hb
    obtain ⟨hk, hbf⟩ := hb
    have hk1 : k < 1000 := by have := (hg _ (List.getElem_mem h)).1; omega
    show RunC _ _ _ _ _ (.seq (.block 7 c17) a17_14) E' s P
    rw [RunC_seq, RunC_block]
    refine c17_ok hg hl hi h hk hE' (fun ha E2 hE2 => ?_) fun ha E2 hE2 => ?_
    · exact r17_14 hk1 hE2 fun E3 hE3 => hA hk hbf ha E3 hE3
    · exact r17_14 hk1 hE2 fun E3 hE3 => hB hk hbf ha E3 hE3
  · exact hX hb E' hE'
/-! an inst -/
def e17_3 (l : List Inst) (c : Bool) (i : Nat) : Env := [(0, .list (l.map eX)), (3, .arr 0 0 l.length 1 false (l.length + 1)), (5, .bool c), (6, .int .i64 i)]
structure KBC where
  k : Nat
  b : List Bool
  c : Bool
theorem stepR_none {x : Inst} (h : x.alts.any (allB b) = false) : stepG ruleR b i x = b := by simp [stepG, ruleR, h]
theorem b17_3 (hg : goodV l) (hl : l.length ≤ 12) {b0 : List Bool} (h : i < l.length) (hi : InW l (swG ruleR l b0 i).1 s) (hP : ∀ E' s', SubE (e17_3 l (swG ruleR l b0 (i + 1)).2 (i + 1)) E' → InW l (swG ruleR l b0 (i + 1)).1 s' → P .normal E' s') :
    RunC (st [] []) (cf0 [] []) true [] 97 f17_l3 (e17_3 l (swG ruleR l b0 i).2 i) s P := by
  have hs1 := sw_succ (r := ruleR) (b0 := b0) h rfl
  generalize (swG ruleR l b0 i).1 = b at hi hs1
  generalize (swG ruleR l b0 i).2 = c at hs1
  have hx := List.getElem_mem h
  have e3 : IntKind.i64.wrap ((i : Int) + 1) = ((i + 1 : Nat) : Int) := wrap_ok (by omega) (by omega)
  rw [f17_l3_top]
  unfold a17_10 a17_12
  simp -implicitDefEqProofs (maxDischargeDepth := 9) (maxSteps := 1000000) [Nat.add_assoc, aFieldAddr, aField, aLoad, aStore, aIndexAddr, aIndex, aSlice, aLen, asInt, asIntO, cpOf, sub, splice, fillV, aBuildSlice, zerosV, aMakeSlice, aAppend, elemsOf, sliceOrStr, thaw, thawL, freshD, puresD, mapEnts, Int.natCast_inj, e17_3, h]
  refine e_loopK (α := KBC) (fun a => e17_2 l a.c i a.k) (fun a t => a.k ≤ l[i].alts.length ∧ InW l a.b t ∧ ((a.b = b ∧ a.c = c ∧ ∀ y ∈ l[i].alts.take a.k, allB b y = false) ∨ (bAt a.b i = true ∧ swG ruleR l b0 (i + 1) = (a.b, a.c)))) (fun a => l[i].alts.length - a.k) ⟨0, b, c⟩ f17_l2_fits (by simp [e17_2]) ⟨Nat.zero_le _, hi, .inl ⟨rfl, rfl, by simp⟩⟩ ?_
  rintro ⟨k, b', c'⟩ t ⟨hk, hi', hor⟩
  simp only at hk hi' hor
  refine b17_2 hg hl hi' h (fun hx E' hE' => ?_) (fun hkl hbf hall E' hE' => ?_) fun hkl hbf hall E' hE' => ?_
  · -- the end
    have hfin : swG ruleR l b0 (i + 1) = (b', c') := by
      rcases hor with ⟨rfl, rfl, hno⟩ | ⟨_, h2⟩
      · rw [hs1]
        cases hbi : bAt b' i with
        | true => simp [stepG, hbi]
        | false =>
          simp only [hbi, Bool.not_false, Bool.and_true, decide_eq_false_iff_not] at hx
          have hke : k = l[i].alts.length := by omega
          rw [hke, List.take_length] at hno
          have hany : l[i].alts.any (allB b') = false := List.any_eq_false.2 fun y hy => by rw [hno y hy]; decide
          rw [stepR_none hany]
          simp [ruleR, hany]
      · exact h2
    obtain ⟨g0, g3, g5, g6, g7, _⟩ := hE'
    simp only at g0 g3 g5 g6 g7
    simp only [SeqK_exit, BlockK_exit, SeqK_normal, BlockK_normal, if_true]
    rw [hfin] at hP
    unfold a17_11
    simp -implicitDefEqProofs (maxDischargeDepth := 9) (maxSteps := 1000000) [Nat.add_assoc, aFieldAddr, aField, aLoad, aStore, aIndexAddr, aIndex, aSlice, aLen, asInt, asIntO, cpOf, sub, splice, fillV, aBuildSlice, zerosV, aMakeSlice, aAppend, elemsOf, sliceOrStr, thaw, thawL, freshD, puresD, mapEnts, Int.natCast_inj, g0, g3, g5, g6, e3]
    exact hP _ _ (by simp [e17_3]) hi'
  · replace hkl : k < l[i].alts.length := hkl
    rcases hor with ⟨rfl, rfl, hno⟩ | ⟨h1, _⟩
    · have hib : i < b'.length := by rw [hi'.2.2.1]; exact h
      have hany : l[i].alts.any (allB b') = true := List.any_eq_true.2 ⟨_, List.getElem_mem hkl, hall⟩
      refine ⟨⟨k + 1, b'.set i true, true⟩, by show l[i].alts.length - (k + 1) < l[i].alts.length - k; omega, ⟨by show k + 1 ≤ l[i].alts.length; omega, hi'.set i true, .inr ⟨?_, ?_⟩⟩, hE'⟩
      · rw [bAt_set]; simp [hib]
      · rw [hs1]; simp [stepG, ruleR, hbf, hany]
    · rw [h1] at hbf; cases hbf
  · replace hkl : k < l[i].alts.length := hkl
    rcases hor with ⟨rfl, rfl, hno⟩ | ⟨h1, _⟩
    · refine ⟨⟨k + 1, b', c'⟩, by show l[i].alts.length - (k + 1) < l[i].alts.length - k; omega, ⟨by show k + 1 ≤ l[i].alts.length; omega, hi', .inl ⟨rfl, rfl, ?_⟩⟩, hE'⟩
      intro y hy
      simp only at hy
      rw [List.take_succ_eq_append_getElem hkl] at hy
      rcases List.mem_append.1 hy with hy | hy
      · exact hno y hy
      · rw [List.mem_singleton.1 hy]; exact hall
    · rw [h1] at hbf; cases hbf
theorem x17_3 {b0 : List Bool} (hP : ∀ E', SubE [(0, .list (l.map eX)), (3, .arr 0 0 l.length 1 false (l.length + 1)), (5, .bool c)] E' → P (.exit 4) E' s) : RunC (st [] []) (cf0 [] []) true [] 97 f17_l3 (e17_3 l c l.length) s P := by
  rw [f17_l3_top]
  unfold a17_10
  simp -implicitDefEqProofs (maxDischargeDepth := 9) (maxSteps := 1000000) [Nat.add_assoc, aFieldAddr, aField, aLoad, aStore, aIndexAddr, aIndex, aSlice, aLen, asInt, asIntO, cpOf, sub, splice, fillV, aBuildSlice, zerosV, aMakeSlice, aAppend, elemsOf, sliceOrStr, thaw, thawL, freshD, puresD, mapEnts, Int.natCast_inj, e17_3]
  exact hP _ (by simp)
end
def e17_4 (l : List Inst) (c : Bool) : Env := [(0, .list (l.map eX)), (3, .arr 0 0 l.length 1 false (l.length + 1)), (5, .bool c)]
theorem p17 (l : List Inst) (hl : l.length ≤ 12) (hg : goodV l) (hk4 : ∀ x ∈ l, ¬ x.kind = 4 → x.alts = []) : PureOk Tryd.prog cfg0 17 [.list (l.map eX)] (.list ((vl l).map V.bool)) := by
  have hc := st_ok (e := []) (f := []) .nil .nil
  refine PureOk.cfg (cfg := st [] []) rfl ?_
  refine pure_of (sl := true) hc (cf0_ok hc) noSpE Tryd.func17 f17_eq f17_nt f17_fits (by simp) (by simp) ?_
  have h8 : (l.length : Int) * 8 ≤ 140737488355328 := by omega
  have h9 : (l.length : Int) ≤ 140737488355328 := by omega
  have hz := zeros_bool l.length
  have hrv : ∀ b, ∀ x ∈ l, ruleR b x = true → ruleV b x = true := fun b x hx hr => by
    have h4 : x.kind = 4 := by
      by_cases h : x.kind = 4
      · exact h
      · rw [ruleR, hk4 x hx h] at hr; cases hr
    unfold ruleR at hr
    simp [ruleV, h4, hr]
  rw [f17_ac_top]
  unfold a17_0 a17_1 a17_2
  simp -implicitDefEqProofs (maxDischargeDepth := 9) (maxSteps := 1000000) [Nat.add_assoc, aFieldAddr, aField, aLoad, aStore, aIndexAddr, aIndex, aSlice, aLen, asInt, asIntO, cpOf, sub, splice, fillV, aBuildSlice, zerosV, aMakeSlice, aAppend, elemsOf, sliceOrStr, thaw, thawL, freshD, puresD, mapEnts, Int.natCast_inj, h8, h9]
  refine e_loopK (α := Nat) (e17_0 l) (fun i s => i ≤ l.length ∧ InW l (fill17 l i) s) (fun i => l.length - i) 0 f17_l0_fits (by simp [e17_0]) ⟨Nat.zero_le _, ⟨S.wf_add S.wf_empty _ _, by simp [S.empty, S.add], fill_len l 0 (Nat.zero_le _), by rw [fill_zero]; simp [S.get_add, hz]⟩⟩ ?_
  rintro i s ⟨hle, hi⟩
  rcases Nat.lt_or_ge i l.length with h | h
  · refine b17_0 hl h hi fun E' hE' => ⟨i + 1, by omega, ⟨by omega, ?_⟩, hE'⟩
    have := hi.set i (!decide (l[i].kind = 4) && !decide (l[i].kind = 6))
    rw [fill_set l i h] at this
    rw [fill_set l i h]
    exact this
  · have : i = l.length := by omega
    subst this
    rw [fill_end] at hi
    refine x17_0 fun E' hE' => ?_
    simp only [SeqK_exit, BlockK_exit, SeqK_normal, BlockK_normal, if_true]
    obtain ⟨g0, g3, _⟩ := hE'
    simp only at g0 g3
    unfold a17_6
    simp -implicitDefEqProofs (maxDischargeDepth := 9) (maxSteps := 1000000) [Nat.add_assoc, aFieldAddr, aField, aLoad, aStore, aIndexAddr, aIndex, aSlice, aLen, asInt, asIntO, cpOf, sub, splice, fillV, aBuildSlice, zerosV, aMakeSlice, aAppend, elemsOf, sliceOrStr, thaw, thawL, freshD, puresD, mapEnts, Int.natCast_inj, g0, g3]
    refine e_loopK (α := BC) (fun a => e17_4 l a.c) (fun a s => InW l a.b s ∧ Lo l a.b ∧ (∀ j : Int, bAt (start17 l) j = true → bAt a.b j = true) ∧ (a.c = false → Cl l a.b)) (fun a => 2 * a.b.count false + (if a.c = true then 1 else 0)) ⟨start17 l, true⟩ f17_l4_fits (by simp [e17_4]) ⟨hi, lo_start l, fun _ h => h, fun h => by cases h⟩ ?_
    rintro ⟨b, c⟩ s ⟨hi, hlo, hst, hcl⟩
    simp only at hi hlo hst hcl
    obtain ⟨hw, hn, hb, h0⟩ := id hi
    rw [f17_l4_top]
    unfold a17_7 a17_8 a17_9
    cases c with
    | false =>
      have hv := vl_laid hl (hcl rfl) hlo h0
      unfold a17_22
      simp -implicitDefEqProofs (maxDischargeDepth := 9) (maxSteps := 1000000) [Nat.add_assoc, aFieldAddr, aField, aLoad, aStore, aIndexAddr, aIndex, aSlice, aLen, asInt, asIntO, cpOf, sub, splice, fillV, aBuildSlice, zerosV, aMakeSlice, aAppend, elemsOf, sliceOrStr, thaw, thawL, freshD, puresD, mapEnts, Int.natCast_inj, e17_4]
      exact hv
    | true =>
      simp -implicitDefEqProofs (maxDischargeDepth := 9) (maxSteps := 1000000) [Nat.add_assoc, aFieldAddr, aField, aLoad, aStore, aIndexAddr, aIndex, aSlice, aLen, asInt, asIntO, cpOf, sub, splice, fillV, aBuildSlice, zerosV, aMakeSlice, aAppend, elemsOf, sliceOrStr, thaw, thawL, freshD, puresD, mapEnts, Int.natCast_inj, e17_4]
      refine e_loopK (α := Nat) (fun i => e17_3 l (swG ruleR l b i).2 i) (fun i s => i ≤ l.length ∧ InW l (swG ruleR l b i).1 s) (fun i => l.length - i) 0 f17_l3_fits (by simp [e17_3, swG]) ⟨Nat.zero_le _, hi⟩ ?_
      rintro i s ⟨hle, hi'⟩
      rcases Nat.lt_or_ge i l.length with h | h
      · exact b17_3 hg hl h hi' fun E'' s'' h1 h2 => ⟨i + 1, by omega, ⟨by omega, h2⟩, h1⟩
      · have : i = l.length := by omega
        subst this
        have hcnt := sw_count (r := ruleR) hb l.length
        have hcl' : (swG ruleR l b l.length).2 = false → Cl l (swG ruleR l b l.length).1 := fun h => by
          rw [(sw_still l.length h).1]
          refine cl_of_still hb h fun i x hx hv => ?_
          by_cases h4 : x.kind = 4
          · left
            simpa [ruleV, h4, ruleR] using hv
          · right
            refine hst i ?_
            rw [bAt_start l i x hx]
            have h6 : ¬ x.kind = 6 := by simp [ruleV, h4] at hv; exact hv
            simp [h4, h6]
        have hlo' := lo_sw (r := ruleR) (l := l) hrv hlo l.length
        have hst' : ∀ j : Int, bAt (start17 l) j = true → bAt (swG ruleR l b l.length).1 j = true := fun j hj => sw_up (hst j hj) _
        generalize hbc : swG ruleR l b l.length = bc at *
        obtain ⟨b', c'⟩ := bc
        refine x17_3 (b0 := b) fun E' hE' => ?_
        simp only [SeqK_exit, BlockK_exit, SeqK_normal, BlockK_normal, if_true]
        obtain ⟨g0, g3, g5, _⟩ := hE'
        refine ⟨⟨b', c'⟩, ?_, ⟨hi', hlo', hst', hcl'⟩, g0, g3, g5⟩
        cases c' <;> simp at hcnt ⊢ <;> omega
end Go.Proofs.YtedphjbgimkmlaaDoor.Ai

