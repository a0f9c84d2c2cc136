/- Part of a reckoning of a Go program over abstract values, proved sound against the model. -/
import Derived.Test.YtcmcedphaipgkaaGreatDoorAiVA9
set_option linter.unusedSimpArgs false
set_option linter.unusedVariables false
namespace Go.Proofs.YtcmcedphaipgkaaGreatDoor.Ai
noncomputable section
open Go.Proofs
set_option maxRecDepth 100000
set_option maxHeartbeats 2000000

def f3_k5 : AC :=
  (.seq (.reg 18 f3_r18o [8, 11, 12, 138, 139, 140, 141, 142, 145, 146, 147, 148, 149]) (.seq (.reg 19 f3_r19o [2]) .ret))
def f3_k4 : AC :=
  (.seq (.seq (.reg 16 f3_r16o [1, 11, 12, 127, 138, 139, 140, 141, 142, 145, 146, 147, 148, 149]) (.cond (.tmp 127) (.seq (.reg 17 f3_r17o [2]) .ret) .skip)) f3_k5)
def f3_k3 : AC :=
  (.seq (.reg 14 f3_r14o [1, 6, 11, 105, 106, 109, 110, 111, 112, 113, 114, 115, 116, 117, 120, 121, 122, 123, 124, 125, 126, 138, 139, 140, 141, 142, 145, 146, 147, 148, 149]) (.seq (.reg 15 f3_r15o [1, 6, 8, 11, 12, 105, 106, 109, 110, 111, 112, 113, 114, 115, 116, 117, 120, 121, 122, 123, 124, 125, 126, 138, 139, 140, 141, 142, 145, 146, 147, 148, 149]) f3_k4))
def f3_k2 : AC :=
  (.seq (.seq (.reg 12 f3_r12o [1, 5, 86, 105, 106, 109, 110, 111, 112, 113, 114, 115, 116, 117, 120, 121, 122, 123, 124, 125, 126, 138, 139, 140, 141, 142, 145, 146, 147, 148, 149]) (.cond (.tmp 86) (.seq (.reg 13 f3_r13o [2]) .ret) .skip)) f3_k3)
def f3_k1 : AC :=
  (.seq (.reg 9 f3_r9o [1, 5, 6, 52, 53, 54, 55, 56, 59, 60, 61, 62, 63, 64, 67, 68, 71, 72, 73, 74, 75, 76, 79, 80, 81, 82, 83, 84, 85, 105, 106, 109, 110, 111, 112, 113, 114, 115, 116, 117, 120, 121, 122, 123, 124, 125, 126, 138, 139, 140, 141, 142, 145, 146, 147, 148, 149]) (.seq (.reg 10 f3_r10o [1, 5, 6, 7, 8, 52, 53, 54, 55, 56, 59, 60, 61, 62, 63, 64, 67, 68, 71, 72, 73, 74, 75, 76, 79, 80, 81, 82, 83, 84, 85, 105, 106, 109, 110, 111, 112, 113, 114, 115, 116, 117, 120, 121, 122, 123, 124, 125, 126, 138, 139, 140, 141, 142, 145, 146, 147, 148, 149]) (.seq (.reg 11 f3_r11o [1, 5, 6, 7, 8, 9, 10, 52, 53, 54, 55, 56, 59, 60, 61, 62, 63, 64, 67, 68, 71, 72, 73, 74, 75, 76, 79, 80, 81, 82, 83, 84, 85, 105, 106, 109, 110, 111, 112, 113, 114, 115, 116, 117, 120, 121, 122, 123, 124, 125, 126, 138, 139, 140, 141, 142, 145, 146, 147, 148, 149]) f3_k2)))
theorem f3_top : f3_ac = (.seq (.reg 0 f3_r0o [1, 52, 53, 54, 55, 56, 59, 60, 61, 62, 63, 64, 67, 68, 71, 72, 73, 74, 75, 76, 79, 80, 81, 82, 83, 84, 85, 105, 106, 109, 110, 111, 112, 113, 114, 115, 116, 117, 120, 121, 122, 123, 124, 125, 126, 138, 139, 140, 141, 142, 145, 146, 147, 148, 149]) (.seq (.seq (.reg 1 f3_r1o [1, 14, 52, 53, 54, 55, 56, 59, 60, 61, 62, 63, 64, 67, 68, 71, 72, 73, 74, 75, 76, 79, 80, 81, 82, 83, 84, 85, 105, 106, 109, 110, 111, 112, 113, 114, 115, 116, 117, 120, 121, 122, 123, 124, 125, 126, 138, 139, 140, 141, 142, 145, 146, 147, 148, 149]) (.cond (.tmp 14) (.seq (.reg 2 f3_r2o [2]) .ret) .skip)) (.seq (.seq (.reg 3 f3_r3o [1, 15, 16, 52, 53, 54, 55, 56, 59, 60, 61, 62, 63, 64, 67, 68, 71, 72, 73, 74, 75, 76, 79, 80, 81, 82, 83, 84, 85, 105, 106, 109, 110, 111, 112, 113, 114, 115, 116, 117, 120, 121, 122, 123, 124, 125, 126, 138, 139, 140, 141, 142, 145, 146, 147, 148, 149]) (.block 0 (.loop f3_l0))) f3_k1))) := rfl

section
variable {A B : Prop}
@[simp high] theorem GuardK_tt : GuardK (some (.bool true)) true A B = A := by simp
@[simp high] theorem GuardK_ff : GuardK (some (.bool false)) false A B = A := by simp
@[simp high] theorem GuardK_tf : GuardK (some (.bool true)) false A B = B := by simp
@[simp high] theorem GuardK_ft : GuardK (some (.bool false)) true A B = B := by simp
@[simp high] theorem CondK_tt : CondK (some (.bool true)) A B = A := by simp
@[simp high] theorem CondK_ff : CondK (some (.bool false)) A B = B := by simp
end
@[simp] theorem beq07 : Nat.beq 0 7 = false := rfl
@[simp] theorem f4_isb : Tryz.f4.body.isNone = false := by kernel_rfl
@[simp] theorem agg_array (n : Nat) (t : TypeId) : isAggD (.array n t) = true := rfl
def cells3 (xs ys zs : List Int) (o p q : Int) : List V := [.list (xs.map vI), .int .i64 o, .list (ys.map vI), .int .i64 p, .list (zs.map vI), .int .i64 q]
def Fin3 : AX → Env → S → Prop := FinK (st eJ []) [ResultVar.tmp 2] (fun w s => LaidK s w (V.bool true)) fun _ _ => False


theorem k2 {xs ys zs bs : List Int} {o p q ao n : Int} {i j k : Nat} (hx : xs.length ≤ 100) (ha : bs.length ≤ 100) {s : S} (hw : s.wf) (h0 : s.get 0 = some (.cells (cells3 xs ys zs o p q) 0 25 true))
    (h5 : s.get i = some (.cells [.list (bs.map vI), .int .i64 ao] 0 24 true)) (h7 : s.get j = some (.cells [.list (bs.map vI), .int .i64 ao] 0 24 true)) (h9 : s.get k = some (.cells [.list (xs.map vI), .int .i64 o] 0 24 true))
    (hk : RunC (st eJ []) (cf0 eJ []) true [] 151 f3_k3 [(1, .ptr 0 0), (5, .ptr i 0), (86, .bool false)] s Fin3) :
    RunC (st eJ []) (cf0 eJ []) true [] 151 f3_k2 [(1, .ptr 0 0), (5, .ptr i 0), (6, .int .i64 n), (7, .ptr j 0), (8, .int .i64 n), (9, .ptr k 0), (10, .int .i64 0)] s Fin3 := by
  have a6 := et6_at (xs := xs) (ys := xs) (by omega) (by omega)
  have a7 := et6_at (xs := bs) (ys := bs) (by omega) (by omega)
  unfold f3_k2
  simp -implicitDefEqProofs (maxDischargeDepth := 9) [Nat.add_assoc, aFieldAddr, aField, aLoad, aStore, aIndexAddr, aIndex, aSlice, aLen, asInt, asIntO, cpOf, sub, splice, fillV, aBuildSlice, zerosV, aMakeSlice, aAppend, elemsOf, sliceOrStr, thaw, thawL, freshD, puresD, mapEnts, Int.natCast_inj, eJ, aUn, callOp, cells3, h0, hw, h5, h7, h9, a6, a7]
  exact hk
theorem k4 {xs ys zs : List Int} {o p q n m : Int} {s : S} (h0 : s.get 0 = some (.cells (cells3 xs ys zs o p q) 0 25 true)) (hw : s.wf)  {i j : Nat}
    (h : ¬ n = 0 ∨ ¬ m = 0 ∨ ¬ xs.length = ys.length ∨ ¬ o = p) : RunC (st eJ []) (cf0 eJ []) true [] 151 f3_k4 [(1, .ptr 0 0), (6, .int .i64 n), (8, .int .i64 m), (11, .ptr i 0), (12, .ptr j 0)] s Fin3 := by
  unfold f3_k4
  by_cases e1 : n = 0
  · by_cases e2 : m = 0
    · by_cases e3 : xs.length = ys.length
      · have e4 : ¬ o = p := by rcases h with h | h | h | h <;> first | exact absurd ‹_› h | exact h
        simp -implicitDefEqProofs (maxDischargeDepth := 9) [Nat.add_assoc, aFieldAddr, aField, aLoad, aStore, aIndexAddr, aIndex, aSlice, aLen, asInt, asIntO, cpOf, sub, splice, fillV, aBuildSlice, zerosV, aMakeSlice, aAppend, elemsOf, sliceOrStr, thaw, thawL, freshD, puresD, mapEnts, Int.natCast_inj, eJ, aUn, callOp, cells3, h0, hw, e1, e2, e3, e4, Fin3]
      · simp -implicitDefEqProofs (maxDischargeDepth := 9) [Nat.add_assoc, aFieldAddr, aField, aLoad, aStore, aIndexAddr, aIndex, aSlice, aLen, asInt, asIntO, cpOf, sub, splice, fillV, aBuildSlice, zerosV, aMakeSlice, aAppend, elemsOf, sliceOrStr, thaw, thawL, freshD, puresD, mapEnts, Int.natCast_inj, eJ, aUn, callOp, cells3, h0, hw, e1, e2, e3, Fin3]
    · simp -implicitDefEqProofs (maxDischargeDepth := 9) [Nat.add_assoc, aFieldAddr, aField, aLoad, aStore, aIndexAddr, aIndex, aSlice, aLen, asInt, asIntO, cpOf, sub, splice, fillV, aBuildSlice, zerosV, aMakeSlice, aAppend, elemsOf, sliceOrStr, thaw, thawL, freshD, puresD, mapEnts, Int.natCast_inj, eJ, aUn, callOp, cells3, h0, hw, e1, e2, Fin3]
  · simp -implicitDefEqProofs (maxDischargeDepth := 9) [Nat.add_assoc, aFieldAddr, aField, aLoad, aStore, aIndexAddr, aIndex, aSlice, aLen, asInt, asIntO, cpOf, sub, splice, fillV, aBuildSlice, zerosV, aMakeSlice, aAppend, elemsOf, sliceOrStr, thaw, thawL, freshD, puresD, mapEnts, Int.natCast_inj, eJ, aUn, callOp, cells3, h0, hw, e1, Fin3]

theorem k5 {xs ys zs ps rs : List Int} {o p q po ro : Int} {i j : Nat} (hx : xs.length ≤ 100) (hr : rs.length ≤ 100) (hp : ps.length ≤ 100) {s : S} (hw : s.wf) (hn : 0 < s.next) (hi : i < s.next) (hj : j < s.next) (hij : ¬ i = j) (hj0 : ¬ 0 = j) (h0 : s.get 0 = some (.cells (cells3 xs ys zs o p q) 0 25 true))
    (h11 : s.get i = some (.cells [.list (ps.map vI), .int .i64 po] 0 24 true)) (h12 : s.get j = some (.cells [.list (rs.map vI), .int .i64 ro] 0 24 true)) (hq : jq ⟨xs, o⟩ ⟨rs, ro⟩ = (⟨ps, po⟩, 0)) {w127 : V} :
    RunC (st eJ []) (cf0 eJ []) true [] 151 f3_k5 [(1, .ptr 0 0), (11, .ptr i 0), (12, .ptr j 0), (127, w127)] s Fin3 := by
  have a4 := et5_at (by omega) (by omega) hq
  have a7 := et6_at (xs := ps) (ys := ps) (by omega) (by omega)
  have hij' : ¬ j = i := fun h => hij h.symm
  unfold f3_k5
  simp -implicitDefEqProofs (maxDischargeDepth := 9) [Nat.add_assoc, aFieldAddr, aField, aLoad, aStore, aIndexAddr, aIndex, aSlice, aLen, asInt, asIntO, cpOf, sub, splice, fillV, aBuildSlice, zerosV, aMakeSlice, aAppend, elemsOf, sliceOrStr, thaw, thawL, freshD, puresD, mapEnts, Int.natCast_inj, eJ, aUn, callOp, cells3, h0, hw, h11, h12, hn, hi, hj, a4, a7, hij, hij', hj0, Fin3]
theorem k4go {xs ys zs ps rs : List Int} {o q po ro : Int} {i j : Nat} (hx : xs.length ≤ 100) (hr : rs.length ≤ 100) (hp : ps.length ≤ 100) (e : xs.length = ys.length) {s : S} (hw : s.wf) (hn : 0 < s.next) (hi : i < s.next) (hj : j < s.next) (hij : ¬ i = j) (hj0 : ¬ 0 = j) (h0 : s.get 0 = some (.cells (cells3 xs ys zs o o q) 0 25 true))
    (h11 : s.get i = some (.cells [.list (ps.map vI), .int .i64 po] 0 24 true)) (h12 : s.get j = some (.cells [.list (rs.map vI), .int .i64 ro] 0 24 true)) (hq : jq ⟨xs, o⟩ ⟨rs, ro⟩ = (⟨ps, po⟩, 0)) :
    RunC (st eJ []) (cf0 eJ []) true [] 151 f3_k4 [(1, .ptr 0 0), (6, .int .i64 0), (8, .int .i64 0), (11, .ptr i 0), (12, .ptr j 0)] s Fin3 := by
  have hk := fun w => k5 (w127 := w) hx hr hp hw hn hi hj hij hj0 h0 h11 h12 hq
  unfold f3_k4
  simp only [cells3] at h0
  simp -implicitDefEqProofs (maxDischargeDepth := 9) [Nat.add_assoc, aFieldAddr, aField, aLoad, aStore, aIndexAddr, aIndex, aSlice, aLen, asInt, asIntO, cpOf, sub, splice, fillV, aBuildSlice, zerosV, aMakeSlice, aAppend, elemsOf, sliceOrStr, thaw, thawL, freshD, puresD, mapEnts, Int.natCast_inj, eJ, aUn, callOp, h0, hw, e]
  exact hk _
theorem jq_swap (a b : St) : jq a b = jq b a := by
  simp only [jq]
  by_cases h1 : a.slots.length = b.slots.length
  · by_cases h2 : a.opn = b.opn
    · simp [h1, h2, jl_comm a.slots]
    · have h2' : ¬ b.opn = a.opn := fun h => h2 h.symm
      simp [h1, h2, h2']
  · have h1' : ¬ b.slots.length = a.slots.length := fun h => h1 h.symm
    simp [h1, h1']
theorem jq_law {x y z a c d : St} {n pn rn : Int} (hq : jq x y = (a, n)) (hr : jq a z = (c, pn)) (ht : jq y z = (d, rn)) (e : x.slots.length = y.slots.length) (e' : x.opn = y.opn) (e1 : pn = 0) (e2 : rn = 0) : jq x d = (c, 0) := by
  subst e1 e2
  obtain ⟨xs, o⟩ := x
  obtain ⟨ys, p⟩ := y
  obtain ⟨zs, q⟩ := z
  simp only at e e'
  subst e'
  rw [jq_ok e.symm] at hq
  obtain ⟨rfl, rfl⟩ := Prod.mk.inj hq
  have hl : (jl xs ys).length = xs.length := jl_length e.symm
  by_cases h1 : ys.length = zs.length
  · by_cases h2 : o = q
    · subst h2
      rw [jq_ok h1.symm] at ht
      rw [jq_ok (by rw [hl, e, h1])] at hr
      obtain ⟨rfl, _⟩ := Prod.mk.inj ht
      obtain ⟨rfl, _⟩ := Prod.mk.inj hr
      rw [jq_ok (by rw [jl_length h1.symm, e]), jl_assoc]
    · rw [jq_opn h1 h2] at ht
      cases (Prod.mk.inj ht).2
  · rw [jq_len h1] at ht
    cases (Prod.mk.inj ht).2
theorem k3 {xs ys zs bs ps rs : List Int} {o p q ao po pn ro rn : Int} {i : Nat} (hx : xs.length ≤ 100) (hy : ys.length ≤ 100) (hz : zs.length ≤ 100) (ha : bs.length ≤ 100) {s : S} (hw : s.wf) (hn : 0 < s.next) (hi : i < s.next) (h0 : s.get 0 = some (.cells (cells3 xs ys zs o p q) 0 25 true))
    (h5 : s.get i = some (.cells [.list (bs.map vI), .int .i64 ao] 0 24 true)) (hq : jq ⟨bs, ao⟩ ⟨zs, q⟩ = (⟨ps, po⟩, pn)) (hr : jq ⟨ys, p⟩ ⟨zs, q⟩ = (⟨rs, ro⟩, rn)) (hc : xs.length = ys.length → o = p → pn = 0 → rn = 0 → jq ⟨xs, o⟩ ⟨rs, ro⟩ = (⟨ps, po⟩, 0)) :
    RunC (st eJ []) (cf0 eJ []) true [] 151 f3_k3 [(1, .ptr 0 0), (5, .ptr i 0), (86, .bool false)] s Fin3 := by
  have a4 := et5_at (by omega) (by omega) hq
  have a5 := et5_at (by omega) (by omega) hr
  have hn' : ¬ 0 = s.next := by omega
  have hi' : ¬ i = s.next := by omega
  unfold f3_k3
  simp -implicitDefEqProofs (maxDischargeDepth := 9) [Nat.add_assoc, aFieldAddr, aField, aLoad, aStore, aIndexAddr, aIndex, aSlice, aLen, asInt, asIntO, cpOf, sub, splice, fillV, aBuildSlice, zerosV, aMakeSlice, aAppend, elemsOf, sliceOrStr, thaw, thawL, freshD, puresD, mapEnts, Int.natCast_inj, eJ, aUn, callOp, cells3, h0, hw, h5, hn, hn', hi', a4, a5]
  by_cases hs : ¬ pn = 0 ∨ ¬ rn = 0 ∨ ¬ xs.length = ys.length ∨ ¬ o = p
  · exact k4 (zs := zs) (q := q) (by simp (maxDischargeDepth := 9) [h0, hn']) (by simp (maxDischargeDepth := 9) [hw]) hs
  · simp only [not_or, Classical.not_not] at hs
    obtain ⟨rfl, rfl, e, rfl⟩ := hs
    have hps := jq_short ⟨bs, ao⟩ ⟨zs, q⟩
    have hrs := jq_short ⟨ys, o⟩ ⟨zs, q⟩
    rw [hq] at hps; rw [hr] at hrs
    simp only at hps hrs
    refine k4go (zs := zs) (q := q) (o := o) (ps := ps) (po := po) (rs := rs) (ro := ro) hx (by omega) (by omega) e (by simp (maxDischargeDepth := 9) [hw]) (by simp) (by simp; omega) (by simp) (by omega) (by omega) (by simp (maxDischargeDepth := 9) [h0, hn']) (by simp) (by simp) ?_
    exact hc e rfl rfl rfl

theorem tail1 {xs ys zs : List Int} {o p q : Int} (hx : xs.length ≤ 100) (hy : ys.length ≤ 100) (hz : zs.length ≤ 100) {s : S} (hn : 0 < s.next) (hw : s.wf) (h0 : s.get 0 = some (.cells (cells3 xs ys zs o p q) 0 25 true)) :
    RunC (st eJ []) (cf0 eJ []) true [] 151 f3_k1 [(1, .ptr 0 0), (15, .agg (cells3 xs ys zs o p q)), (16, .int .i64 3), (17, .bool false)] s Fin3 := by
  have hn' : ¬ 0 = s.next := by omega
  obtain ⟨⟨bs, ao⟩, n, hq⟩ : ∃ a b, jq ⟨xs, o⟩ ⟨ys, p⟩ = (a, b) := ⟨_, _, rfl⟩
  have hb := jq_short ⟨xs, o⟩ ⟨ys, p⟩
  rw [hq] at hb; simp only at hb
  have hq' : jq ⟨ys, p⟩ ⟨xs, o⟩ = (⟨bs, ao⟩, n) := by rw [← hq, jq_swap]
  have a1 := et5_at (by omega) (by omega) hq
  have a2 := et5_at (by omega) (by omega) hq'
  have a3 := et5_at (xs := xs) (o := o) (by omega) (by omega) (jq_self xs o)
  obtain ⟨⟨ps, po⟩, pn, hr⟩ : ∃ a b, jq ⟨bs, ao⟩ ⟨zs, q⟩ = (a, b) := ⟨_, _, rfl⟩
  obtain ⟨⟨rs, ro⟩, rn, ht⟩ : ∃ a b, jq ⟨ys, p⟩ ⟨zs, q⟩ = (a, b) := ⟨_, _, rfl⟩
  have hc : xs.length = ys.length → o = p → pn = 0 → rn = 0 → jq ⟨xs, o⟩ ⟨rs, ro⟩ = (⟨ps, po⟩, 0) := jq_law hq hr ht
  unfold f3_k1
  simp -implicitDefEqProofs (maxDischargeDepth := 9) [Nat.add_assoc, aFieldAddr, aField, aLoad, aStore, aIndexAddr, aIndex, aSlice, aLen, asInt, asIntO, cpOf, sub, splice, fillV, aBuildSlice, zerosV, aMakeSlice, aAppend, elemsOf, sliceOrStr, thaw, thawL, freshD, puresD, mapEnts, Int.natCast_inj, eJ, aUn, callOp, cells3, h0, hw, hn, hn', a1, a2, a3]
  refine k2 (xs := xs) (ys := ys) (zs := zs) (o := o) (p := p) (q := q) (bs := bs) (ao := ao) hx (by omega) (by simp (maxDischargeDepth := 9) [hw]) (by simp (maxDischargeDepth := 9) [h0, hn', cells3]) (by simp) (by simp) (by simp) ?_
  exact k3 (xs := xs) (ys := ys) (zs := zs) (o := o) (p := p) (q := q) (bs := bs) (ao := ao) hx hy hz (by omega) (by simp (maxDischargeDepth := 9) [hw]) (by simp) (by simp; omega) (by simp (maxDischargeDepth := 9) [h0, hn', cells3]) (by simp) hr ht hc
end
end Go.Proofs.YtcmcedphaipgkaaGreatDoor.Ai

