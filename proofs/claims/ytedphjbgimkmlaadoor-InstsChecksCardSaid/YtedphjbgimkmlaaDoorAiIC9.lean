/- Part of a reckoning of a Go program over abstract values, proved sound against the model. -/
import Derived.Test.YtedphjbgimkmlaaDoorAiIC7
import Derived.Test.YtedphjbgimkmlaaDoorAiIA9
set_option linter.unusedSimpArgs false
set_option linter.unusedVariables false
namespace Go.Proofs.YtedphjbgimkmlaaDoor.Ai
open Go.Proofs
set_option maxRecDepth 100000
set_option maxHeartbeats 4000000

def a17_0 : AC := (.reg 0 f17_r0o [0, 28, 29, 30, 31, 32, 33, 52, 53, 54, 55, 56, 76, 77, 78, 79, 80, 81, 82, 83, 84, 85, 86, 87, 88, 89, 90])
def a17_1 : AC := (.reg 1 f17_r1o [0, 3, 28, 29, 30, 31, 32, 33, 52, 53, 54, 55, 56, 76, 77, 78, 79, 80, 81, 82, 83, 84, 85, 86, 87, 88, 89, 90])
def a17_2 : AC := (.reg 2 f17_r2o [0, 3, 4, 28, 29, 30, 31, 32, 33, 52, 53, 54, 55, 56, 76, 77, 78, 79, 80, 81, 82, 83, 84, 85, 86, 87, 88, 89, 90])
def a17_3 : AC := (.reg 3 f17_r3o [0, 3, 4, 16, 28, 29, 30, 31, 32, 33, 52, 53, 54, 55, 56, 76, 77, 78, 79, 80, 81, 82, 83, 84, 85, 86, 87, 88, 89, 90])
def a17_4 : AC := (.reg 4 f17_r4o [0, 3, 4, 28, 29, 30, 31, 32, 33, 52, 53, 54, 55, 56, 76, 77, 78, 79, 80, 81, 82, 83, 84, 85, 86, 87, 88, 89, 90])
def a17_5 : AC := (.reg 5 f17_r5o [0, 3, 4, 28, 29, 30, 31, 32, 33, 52, 53, 54, 55, 56, 76, 77, 78, 79, 80, 81, 82, 83, 84, 85, 86, 87, 88, 89, 90])
def a17_6 : AC := (.reg 6 f17_r6o [0, 3, 5, 52, 53, 54, 55, 56, 76, 77, 78, 79, 80, 81, 82, 83, 84, 85, 86, 87, 88, 89, 90])
def a17_7 : AC := (.reg 7 f17_r7o [0, 3, 36, 52, 53, 54, 55, 56, 76, 77, 78, 79, 80, 81, 82, 83, 84, 85, 86, 87, 88, 89, 90])
def a17_8 : AC := (.reg 8 f17_r8o [0, 3, 5, 52, 53, 54, 55, 56, 76, 77, 78, 79, 80, 81, 82, 83, 84, 85, 86, 87, 88, 89, 90])
def a17_9 : AC := (.reg 9 f17_r9o [0, 3, 5, 6, 52, 53, 54, 55, 56, 76, 77, 78, 79, 80, 81, 82, 83, 84, 85, 86, 87, 88, 89, 90])
def a17_10 : AC := (.reg 10 f17_r10o [0, 3, 5, 6, 40, 52, 53, 54, 55, 56, 76, 77, 78, 79, 80, 81, 82, 83, 84, 85, 86, 87, 88, 89, 90])
def a17_11 : AC := (.reg 11 f17_r11o [0, 3, 5, 6, 52, 53, 54, 55, 56, 76, 77, 78, 79, 80, 81, 82, 83, 84, 85, 86, 87, 88, 89, 90])
def a17_12 : AC := (.reg 12 f17_r12o [0, 3, 5, 6, 7, 52, 53, 54, 55, 56, 76, 77, 78, 79, 80, 81, 82, 83, 84, 85, 86, 87, 88, 89, 90])
def a17_13 : AC := (.reg 13 f17_r13o [0, 3, 5, 6, 7, 52, 53, 54, 55, 56, 57, 76, 77, 78, 79, 80, 81, 82, 83, 84, 85, 86, 87, 88, 89, 90])
def a17_14 : AC := (.reg 14 f17_r14o [0, 3, 5, 6, 7, 52, 53, 54, 55, 56, 76, 77, 78, 79, 80, 81, 82, 83, 84, 85, 86, 87, 88, 89, 90])
def a17_15 : AC := (.reg 15 f17_r15o [0, 3, 5, 6, 7, 8, 52, 53, 54, 55, 56, 76, 77, 78, 79, 80, 81, 82, 83, 84, 85, 86, 87, 88, 89, 90])
def a17_16 : AC := (.reg 16 f17_r16o [0, 3, 5, 6, 7, 8, 9, 52, 53, 54, 55, 56, 76, 77, 78, 79, 80, 81, 82, 83, 84, 85, 86, 87, 88, 89, 90])
def a17_17 : AC := (.reg 17 f17_r17o [0, 3, 5, 6, 7, 8, 9, 52, 53, 54, 55, 56, 71, 76, 77, 78, 79, 80, 81, 82, 83, 84, 85, 86, 87, 88, 89, 90])
def a17_18 : AC := (.reg 18 f17_r18o [0, 3, 5, 6, 7, 8, 9, 52, 53, 54, 55, 56, 76, 77, 78, 79, 80, 81, 82, 83, 84, 85, 86, 87, 88, 89, 90])
def a17_19 : AC := (.reg 19 f17_r19o [0, 3, 5, 6, 7, 8, 9, 52, 53, 54, 55, 56, 76, 77, 78, 79, 80, 81, 82, 83, 84, 85, 86, 87, 88, 89, 90])
def a17_20 : AC := (.reg 20 f17_r20o [0, 3, 5, 6, 7, 52, 53, 54, 55, 56, 76, 77, 78, 79, 80, 81, 82, 83, 84, 85, 86, 87, 88, 89, 90, 92])
def a17_21 : AC := (.reg 21 f17_r21o [0, 3, 5, 6, 7, 52, 53, 54, 55, 56, 76, 77, 78, 79, 80, 81, 82, 83, 84, 85, 86, 87, 88, 89, 90])
def a17_22 : AC := (.reg 22 f17_r22o [2])
def c17 : AC := (.seq a17_15 (.seq (.seq a17_16 (.block 8 (.loop f17_l1))) (.seq a17_20 (.cond (.tmp 92) a17_21 .skip))))
theorem f17_l2_top : f17_l2 = (.seq (.seq a17_13 (.cond (.tmp 57) .skip (.exit 6))) (.seq (.block 7 c17) a17_14)) := rfl
theorem f17_l0_top : f17_l0 = (.seq (.seq a17_3 (.cond (.tmp 16) .skip (.exit 0))) (.seq (.block 1 a17_5) a17_4)) := rfl
theorem f17_l1_top : f17_l1 = (.seq (.seq a17_17 (.cond (.tmp 71) .skip (.exit 8))) (.seq (.block 9 a17_19) a17_18)) := rfl
theorem f17_l3_top : f17_l3 = (.seq (.seq a17_10 (.cond (.tmp 40) .skip (.exit 4))) (.seq (.block 5 (.seq a17_12 (.block 6 (.loop f17_l2)))) a17_11)) := rfl
theorem f17_l4_top : f17_l4 = (.seq (.seq a17_7 (.cond (.tmp 36) .skip (.exit 2))) (.block 3 (.seq a17_8 (.seq a17_9 (.block 4 (.loop f17_l3)))))) := rfl
theorem f17_ac_top : f17_ac = (.seq a17_0 (.seq a17_1 (.seq (.seq a17_2 (.block 0 (.loop f17_l0))) (.seq (.seq a17_6 (.block 2 (.loop f17_l4))) (.seq a17_22 .ret))))) := rfl
def fill17 (l : List Inst) (i : Nat) : List Bool := (start17 l).take i ++ List.replicate (l.length - i) false
theorem fill_len (l : List Inst) (i : Nat) (h : i ≤ l.length) : (fill17 l i).length = l.length := by
  simp [fill17, start17]; omega
theorem fill_set (l : List Inst) (i : Nat) (h : i < l.length) : (fill17 l i).set i (!decide (l[i].kind = 4) && !decide (l[i].kind = 6)) = fill17 l (i + 1) := by
  have hs : (start17 l).length = l.length := by simp [start17]
  have h1 : i < (start17 l).length := by omega
  have he : (start17 l)[i] = (!decide (l[i].kind = 4) && !decide (l[i].kind = 6)) := by simp [start17]
  have hr : l.length - i = (l.length - (i + 1)) + 1 := by omega
  unfold fill17
  rw [hr, List.replicate_succ, List.take_succ_eq_append_getElem h1, he, List.set_append_right _ _ (by simp [hs]; omega)]
  have : i - ((start17 l).take i).length = 0 := by simp [hs]; omega
  rw [this]
  simp
theorem fill_zero (l : List Inst) : fill17 l 0 = List.replicate l.length false := by simp [fill17]
theorem fill_end (l : List Inst) : fill17 l l.length = start17 l := by
  have hs : (start17 l).length = l.length := by simp [start17]
  unfold fill17
  rw [List.take_of_length_le (by omega)]; simp
def InW (l : List Inst) (b : List Bool) (s : S) : Prop := s.wf ∧ 0 < s.next ∧ b.length = l.length ∧ s.get 0 = some (.cells (b.map V.bool) 0 4 true)
theorem InW.set {l : List Inst} {b : List Bool} {s : S} (h : InW l b s) (i : Nat) (v : Bool) : InW l (b.set i v) (s.put 0 (.cells ((b.set i v).map V.bool) 0 4 true)) := by
  obtain ⟨hw, hn, hb, h0⟩ := h
  exact ⟨S.wf_put hw _ _ (by omega), hn, by simpa using hb, by rw [S.get_put, if_pos rfl]⟩
section
variable {l : List Inst} {b : List Bool} {c : Bool} {i j k : Nat} {s : S} {E : Env} {P : AX → Env → S → Prop}
def arrW (l : List Inst) : V := .arr 0 0 l.length 1 false (l.length + 1)
def e17_0 (l : List Inst) (i : Nat) : Env := [(0, .list (l.map eX)), (3, .arr 0 0 l.length 1 false (l.length + 1)), (4, .int .i64 i)]
theorem b17_0 (hl : l.length ≤ 12) (h : i < l.length) (hi : InW l b s) (hP : ∀ E', SubE (e17_0 l (i + 1)) E' → P .normal E' (s.put 0 (.cells ((b.set i (!decide (l[i].kind = 4) && !decide (l[i].kind = 6))).map V.bool) 0 4 true))) : RunC (st [] []) (cf0 [] []) true [] 97 f17_l0 (e17_0 l i) s P := by
  have e1 := List.getElem?_eq_getElem h
  have e3 : IntKind.i64.wrap ((i : Int) + 1) = ((i + 1 : Nat) : Int) := wrap_ok (by omega) (by omega)
  obtain ⟨hw, hn, hb, h0⟩ := id hi
  have hib : i < b.length := by omega
  have hib1 : i + 1 ≤ b.length := hib
  rw [f17_l0_top]
  unfold a17_3 a17_5 a17_4
  by_cases k4 : l[i].kind = 4
  · have hsp := splice_bool b i false hib
    simp only [k4, decide_true, Bool.not_true, Bool.false_and] at hP
    simp -implicitDefEqProofs (maxDischargeDepth := 9) (maxSteps := 1000000) [Nat.add_assoc, aFieldAddr, aField, aLoad, aStore, aIndexAddr, aIndex, aSlice, aLen, asInt, asIntO, cpOf, sub, splice, fillV, aBuildSlice, zerosV, aMakeSlice, aAppend, elemsOf, sliceOrStr, thaw, thawL, freshD, puresD, mapEnts, Int.natCast_inj, e17_0, h, hw, hn, h0, e1, e3, eX, hib, hib1, k4, hsp, vI]
    rw [set_map_bool]
    exact hP _ (by simp [e17_0])
  · by_cases k6 : l[i].kind = 6
    · have hsp := splice_bool b i false hib
      simp only [k4, k6, decide_true, decide_false, Bool.not_true, Bool.and_false] at hP
      simp -implicitDefEqProofs (maxDischargeDepth := 9) (maxSteps := 1000000) [Nat.add_assoc, aFieldAddr, aField, aLoad, aStore, aIndexAddr, aIndex, aSlice, aLen, asInt, asIntO, cpOf, sub, splice, fillV, aBuildSlice, zerosV, aMakeSlice, aAppend, elemsOf, sliceOrStr, thaw, thawL, freshD, puresD, mapEnts, Int.natCast_inj, e17_0, h, hw, hn, h0, e1, e3, eX, hib, hib1, k4, k6, hsp, vI]
      rw [set_map_bool]
      exact hP _ (by simp [e17_0])
    · have hsp := splice_bool b i true hib
      simp only [k4, k6, decide_false, Bool.not_false, Bool.and_true] at hP
      simp -implicitDefEqProofs (maxDischargeDepth := 9) (maxSteps := 1000000) [Nat.add_assoc, aFieldAddr, aField, aLoad, aStore, aIndexAddr, aIndex, aSlice, aLen, asInt, asIntO, cpOf, sub, splice, fillV, aBuildSlice, zerosV, aMakeSlice, aAppend, elemsOf, sliceOrStr, thaw, thawL, freshD, puresD, mapEnts, Int.natCast_inj, e17_0, h, hw, hn, h0, e1, e3, eX, hib, hib1, k4, k6, hsp, vI]
      rw [set_map_bool]
      exact hP _ (by simp [e17_0])
theorem x17_0 (hP : ∀ E', SubE [(0, .list (l.map eX)), (3, .arr 0 0 l.length 1 false (l.length + 1))] E' → P (.exit 0) E' s) : RunC (st [] []) (cf0 [] []) true [] 97 f17_l0 (e17_0 l l.length) s P := by
  rw [f17_l0_top]
  unfold a17_3
  simp -implicitDefEqProofs (maxDischargeDepth := 9) (maxSteps := 1000000) [Nat.add_assoc, aFieldAddr, aField, aLoad, aStore, aIndexAddr, aIndex, aSlice, aLen, asInt, asIntO, cpOf, sub, splice, fillV, aBuildSlice, zerosV, aMakeSlice, aAppend, elemsOf, sliceOrStr, thaw, thawL, freshD, puresD, mapEnts, Int.natCast_inj, e17_0]
  exact hP _ (by simp)
/-! the arguments -/
def e17_2 (l : List Inst) (c : Bool) (i k : Nat) : Env := [(0, .list (l.map eX)), (3, .arr 0 0 l.length 1 false (l.length + 1)), (5, .bool c), (6, .int .i64 i), (7, .int .i64 k)]
def e17_1 (l : List Inst) (c : Bool) (i k : Nat) (a : Bool) (j : Nat) : Env := [(0, .list (l.map eX)), (3, .arr 0 0 l.length 1 false (l.length + 1)), (5, .bool c), (6, .int .i64 i), (7, .int .i64 k), (8, .bool a), (9, .int .i64 j)]
def upTo (b : List Bool) (a : Alt) (j : Nat) : Bool := !(a.args.take j).any (noB b)
theorem upTo_succ {a : Alt} (h : j < a.args.length) : upTo b a (j + 1) = (upTo b a j && bAt b a.args[j]) := by
  unfold upTo
  rw [List.take_succ_eq_append_getElem h, List.any_append]
  simp [noB]
theorem b17_1 (hg : goodV l) (hl : l.length ≤ 12) (hi : InW l b s) (h : i < l.length) (hk : k < l[i].alts.length) (hj : j < l[i].alts[k].args.length) (hP : ∀ E', SubE (e17_1 l c i k (upTo b l[i].alts[k] (j + 1)) (j + 1)) E' → P .normal E' s) :
    RunC (st [] []) (cf0 [] []) true [] 97 f17_l1 (e17_1 l c i k (upTo b l[i].alts[k] j) j) s P := by
  have e1 := List.getElem?_eq_getElem h
  have e2 := List.getElem?_eq_getElem hk
  have e3 := List.getElem?_eq_getElem hj
  have hx := hg _ (List.getElem_mem h)
  have ha := hx.2 _ (List.getElem_mem hk)
  have hm := ha.2 _ (List.getElem_mem hj)
  have e4 : IntKind.i64.wrap ((j : Int) + 1) = ((j + 1 : Nat) : Int) := wrap_ok (by omega) (by omega)
  obtain ⟨hw, hn, hb, h0⟩ := id hi
  have hu := upTo_succ (b := b) hj
  rw [hu] at hP
  obtain ⟨n, hn2⟩ : ∃ n : Nat, l[i].alts[k].args[j] = n := ⟨l[i].alts[k].args[j].toNat, by omega⟩
  have hnb : n < b.length := by omega
  have e5 := List.getElem?_eq_getElem hnb
  have e6 : bAt b (n : Int) = b[n] := by rw [bAt_nat, e5]; rfl
  rw [hn2, e6] at hP
  have hnl : n < l.length := by omega
  rw [f17_l1_top]
  unfold a17_17 a17_19 a17_18
  cases hua : upTo b l[i].alts[k] j with
  | true =>
    rw [hua] at hP
    simp -implicitDefEqProofs (maxDischargeDepth := 9) (maxSteps := 1000000) [Nat.add_assoc, aFieldAddr, aField, aLoad, aStore, aIndexAddr, aIndex, aSlice, aLen, asInt, asIntO, cpOf, sub, splice, fillV, aBuildSlice, zerosV, aMakeSlice, aAppend, elemsOf, sliceOrStr, thaw, thawL, freshD, puresD, mapEnts, Int.natCast_inj, e17_1, h, hk, hj, e1, e2, e3, e4, eX, eA, eI, h0, hn2, hnb, hnl, vI]
    exact hP _ (by simp [e17_1])
  | false =>
    rw [hua] at hP
    simp -implicitDefEqProofs (maxDischargeDepth := 9) (maxSteps := 1000000) [Nat.add_assoc, aFieldAddr, aField, aLoad, aStore, aIndexAddr, aIndex, aSlice, aLen, asInt, asIntO, cpOf, sub, splice, fillV, aBuildSlice, zerosV, aMakeSlice, aAppend, elemsOf, sliceOrStr, thaw, thawL, freshD, puresD, mapEnts, Int.natCast_inj, e17_1, h, hk, hj, e1, e2, e3, e4, eX, eA, eI]
    exact hP _ (by simp [e17_1])
theorem x17_1 (h : i < l.length) (hk : k < l[i].alts.length) {a : Bool} (hP : ∀ E', SubE ((8, .bool a) :: e17_2 l c i k) E' → P (.exit 8) E' s) : RunC (st [] []) (cf0 [] []) true [] 97 f17_l1 (e17_1 l c i k a l[i].alts[k].args.length) s P := by
  have e1 := List.getElem?_eq_getElem h
  have e2 := List.getElem?_eq_getElem hk
  rw [f17_l1_top]
  unfold a17_17
  simp -implicitDefEqProofs (maxDischargeDepth := 9) (maxSteps := 1000000) [Nat.add_assoc, aFieldAddr, aField, aLoad, aStore, aIndexAddr, aIndex, aSlice, aLen, asInt, asIntO, cpOf, sub, splice, fillV, aBuildSlice, zerosV, aMakeSlice, aAppend, elemsOf, sliceOrStr, thaw, thawL, freshD, puresD, mapEnts, Int.natCast_inj, e17_1, h, hk, e1, e2, eX, eA, eI]
  exact hP _ (by simp [e17_2])
/-! an alternative -/
theorem c17_ok (hg : goodV l) (hl : l.length ≤ 12) (hi : InW l b s) (h : i < l.length) (hk : k < l[i].alts.length) (hE : SubE (e17_2 l c i k) E)
    (hA : allB b l[i].alts[k] = true → ∀ E', SubE (e17_2 l true i k) E' → P .normal E' (s.put 0 (.cells ((b.set i true).map V.bool) 0 4 true)))
    (hB : allB b l[i].alts[k] = false → ∀ E', SubE (e17_2 l c i k) E' → P .normal E' s) : RunC (st [] []) (cf0 [] []) true [] 97 c17 E s P := by
  obtain ⟨g0, g3, g5, g6, g7, _⟩ := hE
  simp only at g0 g3 g5 g6 g7
  unfold c17 a17_15 a17_16
  simp -implicitDefEqProofs (maxDischargeDepth := 9) (maxSteps := 1000000) [Nat.add_assoc, aFieldAddr, aField, aLoad, aStore, aIndexAddr, aIndex, aSlice, aLen, asInt, asIntO, cpOf, sub, splice, fillV, aBuildSlice, zerosV, aMakeSlice, aAppend, elemsOf, sliceOrStr, thaw, thawL, freshD, puresD, mapEnts, Int.natCast_inj, g0, g3, g5, g6, g7]
  refine e_loopK (α := Nat) (fun j => e17_1 l c i k (upTo b l[i].alts[k] j) j) (fun j t => t = s ∧ j ≤ l[i].alts[k].args.length) (fun j => l[i].alts[k].args.length - j) 0 f17_l1_fits (by simp [e17_1, upTo]) ⟨rfl, Nat.zero_le _⟩ ?_
  rintro j t ⟨rfl, hj⟩
  rcases Nat.lt_or_ge j l[i].alts[k].args.length with hjl | hjl
  · exact b17_1 hg hl hi h hk hjl fun E' hE' => ⟨j + 1, by omega, ⟨rfl, by omega⟩, hE'⟩
  · have : j = l[i].alts[k].args.length := by omega
    subst this
    have hua : upTo b l[i].alts[k] l[i].alts[k].args.length = allB b l[i].alts[k] := by simp [upTo, allB]
    rw [hua]
    refine x17_1 h hk fun E' hE' => ?_
    simp only [SeqK_exit, BlockK_exit, SeqK_normal, BlockK_normal, if_true]
    obtain ⟨g8, g0, g3, g5, g6, g7, _⟩ := hE'
    simp only at g8 g0 g3 g5 g6 g7
    obtain ⟨hw, hn, hb, h0⟩ := id hi
    have hib : i < b.length := by omega
    have hib1 : i + 1 ≤ b.length := hib
    have hsp := splice_bool b i true hib
    unfold a17_20 a17_21
    cases hall : allB b l[i].alts[k] with
    | true =>
      rw [hall] at g8
      simp -implicitDefEqProofs (maxDischargeDepth := 9) (maxSteps := 1000000) [Nat.add_assoc, aFieldAddr, aField, aLoad, aStore, aIndexAddr, aIndex, aSlice, aLen, asInt, asIntO, cpOf, sub, splice, fillV, aBuildSlice, zerosV, aMakeSlice, aAppend, elemsOf, sliceOrStr, thaw, thawL, freshD, puresD, mapEnts, Int.natCast_inj, g8, g0, g3, g5, g6, g7, h, hw, hn, h0, hib, hib1, hsp]
      rw [set_map_bool]
      exact hA hall _ (by simp [e17_2])
    | false =>
      rw [hall] at g8
      simp -implicitDefEqProofs (maxDischargeDepth := 9) (maxSteps := 1000000) [Nat.add_assoc, aFieldAddr, aField, aLoad, aStore, aIndexAddr, aIndex, aSlice, aLen, asInt, asIntO, cpOf, sub, splice, fillV, aBuildSlice, zerosV, aMakeSlice, aAppend, elemsOf, sliceOrStr, thaw, thawL, freshD, puresD, mapEnts, Int.natCast_inj, g8, g0, g3, g5, g6, g7]
      exact hB hall _ (by simp [e17_2])
end
end Go.Proofs.YtedphjbgimkmlaaDoor.Ai


