/- Part of a reckoning of a Go program over abstract values, proved sound against the model. -/
import Derived.Test.YtcmcedphaipgkaaGreatDoorAiVA6
set_option linter.unusedSimpArgs false
set_option linter.unusedVariables false
namespace Go.Proofs.YtcmcedphaipgkaaGreatDoor.Ai
noncomputable section
open Go.Proofs
set_option maxRecDepth 100000
set_option maxHeartbeats 1000000

def ft17 : List V → Option V := fun args => (arg1 dT args).bind fun x => if x.slots.length ≤ 1000 then some (eS x) else none
theorem ft17_ok : ∀ args v, ft17 args = some v → FreshOk Tryz.prog (st [] []) 17 args v := fun args v h => by
  unfold ft17 at h
  simp only [Option.bind_eq_some_iff] at h
  obtain ⟨x, hx, h⟩ := h
  obtain ⟨a, rfl, ha⟩ := arg1_eq hx
  split at h
  · rename_i hl
    injection h with h; subst h
    rcases dT_eq ha with rfl | ⟨rfl, h0⟩
    · exact fr17 x hl
    · have := fr17n x.opn
      rwa [show (⟨[], x.opn⟩ : St) = x by cases x; simp at h0; subst h0; rfl] at this
  · cases h
def f2 : List (FuncId × (List V → Option V)) := [(17, ft17)]
theorem f2_ok : FtOk Tryz.prog (st [] []) f2 := .cons ft17_ok .nil

def jn (a b : Int) : Int := if a = b then a else 0
def jl (a b : List Int) : List Int := a.zipWith jn b

theorem jl_length {a b : List Int} (h : b.length = a.length) : (jl a b).length = a.length := by simp [jl, h]
def mix (a b : List Int) (i : Nat) : List Int := (jl a b).take i ++ a.drop i
theorem mix_zero (a b : List Int) : mix a b 0 = a := rfl
theorem mix_length {a b : List Int} (h : b.length = a.length) (i : Nat) : (mix a b i).length = a.length := by
  simp only [mix, List.length_append, List.length_take, List.length_drop, jl_length h]; omega
theorem mix_all {a b : List Int} (h : b.length = a.length) : mix a b a.length = jl a b := by
  simp only [mix, List.drop_length, List.append_nil]
  exact List.take_of_length_le (by rw [jl_length h]; omega)
theorem mix_get {a b : List Int} (h : b.length = a.length) {i : Nat} (hi : i < a.length) : (mix a b i)[i]? = some a[i] := by
  simp only [mix]
  rw [List.getElem?_append_right (by rw [List.length_take]; omega)]
  have : i - (List.take i (jl a b)).length = 0 := by rw [List.length_take, jl_length h]; omega
  rw [this, List.getElem?_drop]
  simp [hi]
theorem mix_succ {a b : List Int} (h : b.length = a.length) {i : Nat} (hi : i < a.length) (hb : i < b.length) : mix a b (i + 1) = (mix a b i).take i ++ jn a[i] b[i] :: (mix a b i).drop (i + 1) := by
  have hl : i < (jl a b).length := by rw [jl_length h]; exact hi
  have h1 : (mix a b i).take i = (jl a b).take i := by
    simp only [mix]; rw [List.take_append_of_le_length (by rw [List.length_take, jl_length h]; omega), List.take_take, Nat.min_self]
  have h2 : (mix a b i).drop (i + 1) = a.drop (i + 1) := by
    simp only [mix]
    rw [List.drop_append, List.drop_of_length_le (by rw [List.length_take]; omega), List.nil_append, List.drop_drop, List.length_take, jl_length h]
    congr 1; omega
  rw [h1, h2, mix, List.take_succ_eq_append_getElem hl]
  have : (jl a b)[i] = jn a[i] b[i] := by simp [jl]
  rw [this, List.append_assoc]; rfl
theorem mix_same {a b : List Int} (h : b.length = a.length) {i : Nat} (hi : i < a.length) (hb : i < b.length) (e : a[i] = b[i]) : mix a b (i + 1) = mix a b i := by
  rw [mix_succ h hi hb, jn, if_pos e]
  have h0 := mix_get h hi
  have hl : i < (mix a b i).length := by rw [mix_length h]; exact hi
  have h1 : (mix a b i)[i] = a[i] := by
    rw [List.getElem?_eq_getElem hl] at h0; exact Option.some.inj h0
  rw [← h1, List.getElem_cons_drop, List.take_append_drop]
theorem mix_diff {a b : List Int} (h : b.length = a.length) {i : Nat} (hi : i < a.length) (hb : i < b.length) (e : ¬ a[i] = b[i]) : (mix a b (i + 1)).map vI = ((mix a b i).map vI).take i ++ ([vI 0] ++ ((mix a b i).map vI).drop (i + 1)) := by
  rw [mix_succ h hi hb, jn, if_neg e]
  simp [List.map_take, List.map_drop]

/-- verify.join. -/
theorem fr10 (x y : St) (hD : x.slots.length ≤ 1000) (he : y.slots.length = x.slots.length) : FreshOk Tryz.prog (st [] []) 10 [eS x, eS y] (eS ⟨jl x.slots y.slots, x.opn⟩) := by
  have hc := st_ok (e := []) (f := f2) .nil f2_ok
  refine FreshOk.cfg (cfg := st [] f2) ?_ rfl rfl rfl
  refine fresh_run (sl := true) hc (cf0_ok hc) noSpE Tryz.func10 f10_eq f10_nt f10_fits (by simp) rfl ty_3 ?_
  intro s hw
  have h87 : Nat.beq 8 7 = false := rfl
  have hft : ft17 [.agg [.list (x.slots.map vI), vI x.opn]] = some (.agg [.list (x.slots.map vI), vI x.opn]) := by
    have : ft17 [eS x] = some (eS x) := by simp [ft17, hD]
    simpa [eS, eI] using this
  by_cases h0 : x.slots = []
  · have h1 : y.slots = [] := List.eq_nil_of_length_eq_zero (by rw [he, h0]; rfl)
    rw [h0] at hft
    simp only [List.map_nil] at hft
    simp -implicitDefEqProofs (maxDischargeDepth := 9) [Nat.add_assoc, aFieldAddr, aField, aLoad, aStore, aIndexAddr, aIndex, aSlice, aLen, asInt, asIntO, cpOf, sub, splice, fillV, aBuildSlice, zerosV, aMakeSlice, aAppend, elemsOf, sliceOrStr, thaw, thawL, freshD, puresD, mapEnts, Int.natCast_inj, f10_ac, eS, eI, hw, f2, hft, h0, h1, h87]
    refine e_loopK (α := Unit) (fun i => [(4, .ptr (s.next + 2) 0), (5, .ptr (s.next + 3) 0), (11, .list []), (12, .int .i64 0), (13, .int .i64 0)])
      (fun _ s' => s'.wf ∧ s.keeps s' ∧ s.next + 3 < s'.next ∧ s'.get (s.next + 3) = some (.cells [.list [], vI x.opn] 0 24 true) ∧ s'.get (s.next + 2) = some (.cells [.nils, .int .i64 0] 0 24 true)) (fun _ => 0) () f10_l0_fits (by simp) (by simp (maxDischargeDepth := 9) [hw]) ?_
    rintro _ s' ⟨hw', hk, hn, g3, g2⟩
    simp -implicitDefEqProofs (maxDischargeDepth := 9) [Nat.add_assoc, aFieldAddr, aField, aLoad, aStore, aIndexAddr, aIndex, aSlice, aLen, asInt, asIntO, cpOf, sub, splice, fillV, aBuildSlice, zerosV, aMakeSlice, aAppend, elemsOf, sliceOrStr, thaw, thawL, freshD, puresD, mapEnts, Int.natCast_inj, f10_l0, hw', hk, hn, g3, g2, h87]
    exact ⟨keeps_put' hk (by omega) (by omega) _, FreshV_agg0 (rest := [vI x.opn]) (es := []) (by simp [Own]) rfl (fun w h => by rw [List.mem_singleton.1 h]; rfl)⟩
  · simp -implicitDefEqProofs (maxDischargeDepth := 9) [Nat.add_assoc, aFieldAddr, aField, aLoad, aStore, aIndexAddr, aIndex, aSlice, aLen, asInt, asIntO, cpOf, sub, splice, fillV, aBuildSlice, zerosV, aMakeSlice, aAppend, elemsOf, sliceOrStr, thaw, thawL, freshD, puresD, mapEnts, Int.natCast_inj, f10_ac, eS, eI, hw, f2, hft, h0, he, h87]
    refine e_loopK (α := Nat) (fun i => [(4, .ptr (s.next + 2) 0), (5, .ptr (s.next + 4) 0), (11, .list (y.slots.map vI)), (12, .int .i64 x.slots.length), (13, .int .i64 i)])
      (fun i s' => i ≤ x.slots.length ∧ s'.wf ∧ s.keeps s' ∧ s.next + 4 < s'.next ∧ s'.get (s.next + 4) = some (.cells [.arr (s.next + 3) 0 x.slots.length 1 false 0, vI x.opn] 0 24 true) ∧ s'.get (s.next + 3) = some (.cells ((mix x.slots y.slots i).map vI) 0 3 false) ∧ s'.get (s.next + 2) = some (.cells [.nils, .int .i64 0] 0 24 true)) (fun i => x.slots.length - i) 0 f10_l0_fits (by simp) (by simp (maxDischargeDepth := 9) [hw, mix_zero]) ?_
    rintro i s' ⟨hi, hw', hk, hn, g4, g3, g2⟩
    rcases Nat.lt_or_ge i x.slots.length with h | h
    · have hy' : i < y.slots.length := by omega
      have e1 := mix_get he h
      have e2 := List.getElem?_eq_getElem hy'
      have e3 : IntKind.i64.wrap ((i : Int) + 1) = ((i + 1 : Nat) : Int) := wrap_ok (by omega) (by omega)
      have e4 := mix_length he i
      have e5 : (mix x.slots y.slots i)[i]'(by rw [e4]; exact h) = x.slots[i] := by
        rw [List.getElem?_eq_getElem (by rw [e4]; exact h)] at e1; exact Option.some.inj e1
      have h' : i + 1 ≤ x.slots.length := h
      simp -implicitDefEqProofs (maxDischargeDepth := 9) [Nat.add_assoc, aFieldAddr, aField, aLoad, aStore, aIndexAddr, aIndex, aSlice, aLen, asInt, asIntO, cpOf, sub, splice, fillV, aBuildSlice, zerosV, aMakeSlice, aAppend, elemsOf, sliceOrStr, thaw, thawL, freshD, puresD, mapEnts, Int.natCast_inj, f10_l0, h, hy', hw', hk, hn, g4, g3, g2, h87, e1, e2, e3, vI, e4, e5, h']
      refine ⟨fun e => ⟨i + 1, by omega, ⟨h', wf_put' hw' (by omega) _, keeps_put' hk (by omega) (by omega) _, ?_⟩, by simp⟩, fun e => ⟨i + 1, by omega, ⟨h', ?_⟩, by simp⟩⟩
      · rw [mix_diff he h hy' e]; rfl
      · rw [mix_same he h hy' e]
    · have : i = x.slots.length := by omega
      subst this
      simp -implicitDefEqProofs (maxDischargeDepth := 9) [Nat.add_assoc, aFieldAddr, aField, aLoad, aStore, aIndexAddr, aIndex, aSlice, aLen, asInt, asIntO, cpOf, sub, splice, fillV, aBuildSlice, zerosV, aMakeSlice, aAppend, elemsOf, sliceOrStr, thaw, thawL, freshD, puresD, mapEnts, Int.natCast_inj, f10_l0, hw', hk, hn, g4, g3, g2, h87]
      refine ⟨keeps_put' hk (by omega) (by omega) _, FreshV_agg0 (rest := [vI x.opn]) (es := (jl x.slots y.slots).map vI) (.inr ⟨s.next + 3, 0, false, ?_⟩) (by simp) (fun w h => by rw [List.mem_singleton.1 h]; rfl)⟩
      have := mix_all he
      simp (maxDischargeDepth := 9) [hn, g3, this, jl_length he]
      omega
theorem fr10n (o : Int) (y : St) (h1 : y.slots = []) : FreshOk Tryz.prog (st [] []) 10 [.agg [.nils, vI o], eS y] (eS ⟨[], o⟩) := by
  have hc := st_ok (e := []) (f := f2) .nil f2_ok
  refine FreshOk.cfg (cfg := st [] f2) ?_ rfl rfl rfl
  refine fresh_run (sl := true) hc (cf0_ok hc) noSpE Tryz.func10 f10_eq f10_nt f10_fits (by simp) rfl ty_3 ?_
  intro s hw
  have h87 : Nat.beq 8 7 = false := rfl
  have hft : ft17 [.agg [.nils, vI o]] = some (.agg [.list [], vI o]) := by
    have : ft17 [.agg [.nils, vI o]] = some (eS ⟨[], o⟩) := by simp [ft17]
    simpa [eS, eI] using this
  simp -implicitDefEqProofs (maxDischargeDepth := 9) [Nat.add_assoc, aFieldAddr, aField, aLoad, aStore, aIndexAddr, aIndex, aSlice, aLen, asInt, asIntO, cpOf, sub, splice, fillV, aBuildSlice, zerosV, aMakeSlice, aAppend, elemsOf, sliceOrStr, thaw, thawL, freshD, puresD, mapEnts, Int.natCast_inj, f10_ac, eS, eI, hw, f2, hft, h1, h87]
  refine e_loopK (α := Unit) (fun i => [(4, .ptr (s.next + 2) 0), (5, .ptr (s.next + 3) 0), (11, .list []), (12, .int .i64 0), (13, .int .i64 0)])
    (fun _ s' => s'.wf ∧ s.keeps s' ∧ s.next + 3 < s'.next ∧ s'.get (s.next + 3) = some (.cells [.list [], vI o] 0 24 true) ∧ s'.get (s.next + 2) = some (.cells [.nils, .int .i64 0] 0 24 true)) (fun _ => 0) () f10_l0_fits (by simp) (by simp (maxDischargeDepth := 9) [hw]) ?_
  rintro _ s' ⟨hw', hk, hn, g3, g2⟩
  simp -implicitDefEqProofs (maxDischargeDepth := 9) [Nat.add_assoc, aFieldAddr, aField, aLoad, aStore, aIndexAddr, aIndex, aSlice, aLen, asInt, asIntO, cpOf, sub, splice, fillV, aBuildSlice, zerosV, aMakeSlice, aAppend, elemsOf, sliceOrStr, thaw, thawL, freshD, puresD, mapEnts, Int.natCast_inj, f10_l0, hw', hk, hn, g3, g2, h87]
  exact ⟨keeps_put' hk (by omega) (by omega) _, FreshV_agg0 (rest := [vI o]) (es := []) (by simp [Own]) rfl (fun w h => by rw [List.mem_singleton.1 h]; rfl)⟩
def ft10 : List V → Option V := fun args => (arg2 dT dS args).bind fun p => if p.1.slots.length ≤ 1000 ∧ p.2.slots.length = p.1.slots.length then some (eS ⟨jl p.1.slots p.2.slots, p.1.opn⟩) else none
theorem ft10_ok : ∀ args v, ft10 args = some v → FreshOk Tryz.prog (st [] []) 10 args v := fun args v h => by
  unfold ft10 at h
  simp only [Option.bind_eq_some_iff] at h
  obtain ⟨⟨x, y⟩, hx, h⟩ := h
  obtain ⟨a, b, rfl, ha, hb⟩ := arg2_eq hx
  obtain rfl := dS_eq hb
  split at h
  · rename_i hl
    injection h with h; subst h
    rcases dT_eq ha with rfl | ⟨rfl, h0⟩
    · exact fr10 x y hl.1 hl.2
    · simp only at h0 hl ⊢
      rw [h0] at hl ⊢
      have := fr10n x.opn y (List.eq_nil_of_length_eq_zero hl.2)
      simpa [jl] using this
  · cases h
end
end Go.Proofs.YtcmcedphaipgkaaGreatDoor.Ai

namespace Go.Proofs.YtcmcedphaipgkaaGreatDoor.Ai
noncomputable section
open Go.Proofs
set_option maxRecDepth 100000
set_option maxHeartbeats 1000000

theorem seeL_vI {s : S} : ∀ (x : List Int) (k : Nat), x.length + 2 ≤ k → seeL k s (x.map vI) = some (x.map vI)
  | [], k + 1, _ => by simp [seeL]
  | a :: x, k + 1, h => by
    simp only [List.length_cons] at h
    obtain ⟨k, rfl⟩ : ∃ m, k = m + 1 := ⟨k - 1, by omega⟩
    rw [List.map_cons]
    unfold seeL
    rw [seeL_vI x (k + 1) (by omega)]
    rfl
theorem chunk_vI : ∀ x : List Int, chunk false 1 x.length (x.map vI) = x.map vI
  | [] => rfl
  | a :: x => by simp [chunk, chunk_vI x]
theorem see_arrI {s : S} {id n cp : Nat} {t : TypeId} {ex : Bool} {x : List Int} {k : Nat} (hg : s.get id = some (.cells (x.map vI) 0 t ex)) (hn : n = x.length) (hk : x.length + 3 ≤ k) : see k s (.arr id 0 n 1 false cp) = some (.list (x.map vI)) := by
  obtain ⟨k, rfl⟩ : ∃ m, k = m + 1 := ⟨k - 1, by omega⟩
  subst hn
  unfold see
  rw [hg]
  simp only [Nat.mul_one, List.drop_zero, List.length_map, Nat.zero_add]
  rw [List.take_of_length_le (by simp), seeL_vI x k (by omega)]
  simp [chunk_vI]
theorem laid_pair {s : S} {l l' : V} {o n : Int} (h : see 99996 s l = some l') (hf : l'.free = true) : LaidK s (.tup [.agg [l, .int .i64 o], .int .i64 n]) (.tup [.agg [l', .int .i64 o], .int .i64 n]) := by
  refine ⟨?_, by simp [hf]⟩
  have : see FUEL s (.tup [.agg [l, .int .i64 o], .int .i64 n]) = (see 99996 s l).map fun l' => .tup [.agg [l', .int .i64 o], .int .i64 n] := by
    show see 100000 s _ = _
    simp only [see, seeL]
    cases see 99996 s l <;> rfl
  rw [this, h]; rfl

def f3 : List (FuncId × (List V → Option V)) := [(10, ft10)]
theorem f3_ok : FtOk Tryz.prog (st [] []) f3 := .cons ft10_ok .nil

def jq (a b : St) : St × Int := if a.slots.length ≠ b.slots.length then (⟨[], 0⟩, 4) else if a.opn ≠ b.opn then (⟨[], 0⟩, 13) else (⟨jl a.slots b.slots, a.opn⟩, 0)

/-- verify.Join. -/
theorem jn5 (x y : St) (hD : x.slots.length ≤ 1000) (hE : y.slots.length ≤ 1000) : PureOk Tryz.prog cfg0 5 [eS x, eS y] (.tup [eS (jq x y).1, vI (jq x y).2]) := by
  have hc := st_ok (e := []) (f := f3) .nil f3_ok
  refine PureOk.cfg (cfg := st [] f3) rfl ?_
  refine pure_of (sl := true) hc (cf0_ok hc) noSpE Tryz.func5 f5_eq f5_nt f5_fits (by simp) (by simp) ?_
  have h87 : Nat.beq 8 7 = false := rfl
  obtain ⟨xs, o⟩ := x
  obtain ⟨ys, o'⟩ := y
  simp only at hD hE
  by_cases h1 : xs.length = ys.length
  · by_cases h2 : o = o'
    · subst h2
      have hft : ft10 [.agg [.list (xs.map vI), .int .i64 o], .agg [.list (ys.map vI), .int .i64 o]] = some (.agg [.list ((jl xs ys).map vI), .int .i64 o]) := by
        have : ft10 [eS ⟨xs, o⟩, eS ⟨ys, o⟩] = some (eS ⟨jl xs ys, o⟩) := by simp [ft10, arg2, hE, h1]
        simpa [eS, eI, vI] using this
      by_cases h0 : jl xs ys = []
      · rw [h0] at hft
        simp only [List.map_nil] at hft
        simp -implicitDefEqProofs (maxDischargeDepth := 9) [Nat.add_assoc, aFieldAddr, aField, aLoad, aStore, aIndexAddr, aIndex, aSlice, aLen, asInt, asIntO, cpOf, sub, splice, fillV, aBuildSlice, zerosV, aMakeSlice, aAppend, elemsOf, sliceOrStr, thaw, thawL, freshD, puresD, mapEnts, Int.natCast_inj, f5_ac, eS, eI, f3, hft, h1, jq, h0, vI, h87]
        exact laid_pair rfl rfl
      · have hl := jl_length h1.symm
        simp -implicitDefEqProofs (maxDischargeDepth := 9) [Nat.add_assoc, aFieldAddr, aField, aLoad, aStore, aIndexAddr, aIndex, aSlice, aLen, asInt, asIntO, cpOf, sub, splice, fillV, aBuildSlice, zerosV, aMakeSlice, aAppend, elemsOf, sliceOrStr, thaw, thawL, freshD, puresD, mapEnts, Int.natCast_inj, f5_ac, eS, eI, f3, hft, h1, jq, h0, vI, hl, h87]
        refine laid_pair (see_arrI (t := 3) (ex := false) (x := jl xs ys) ?_ (by rw [hl, h1]) (by omega)) (by simp)
        simp
    · simp -implicitDefEqProofs (maxDischargeDepth := 9) [Nat.add_assoc, aFieldAddr, aField, aLoad, aStore, aIndexAddr, aIndex, aSlice, aLen, asInt, asIntO, cpOf, sub, splice, fillV, aBuildSlice, zerosV, aMakeSlice, aAppend, elemsOf, sliceOrStr, thaw, thawL, freshD, puresD, mapEnts, Int.natCast_inj, f5_ac, eS, eI, f3, h1, h2, jq, vI]
      exact laid_pair rfl rfl
  · simp -implicitDefEqProofs (maxDischargeDepth := 9) [Nat.add_assoc, aFieldAddr, aField, aLoad, aStore, aIndexAddr, aIndex, aSlice, aLen, asInt, asIntO, cpOf, sub, splice, fillV, aBuildSlice, zerosV, aMakeSlice, aAppend, elemsOf, sliceOrStr, thaw, thawL, freshD, puresD, mapEnts, Int.natCast_inj, f5_ac, eS, eI, f3, h1, jq, vI]
    exact laid_pair rfl rfl
def et5 : List V → Option V := fun args => (arg2 dS dS args).bind fun p => if p.1.slots.length ≤ 1000 ∧ p.2.slots.length ≤ 1000 then some (.tup [eS (jq p.1 p.2).1, vI (jq p.1 p.2).2]) else none
theorem et5_ok : ∀ args v, et5 args = some v → PureOk Tryz.prog cfg0 5 args v := fun args v h => by
  unfold et5 at h
  simp only [Option.bind_eq_some_iff] at h
  obtain ⟨⟨x, y⟩, hx, h⟩ := h
  obtain ⟨a, b, rfl, ha, hb⟩ := arg2_eq hx
  obtain rfl := dS_eq hb
  obtain rfl := dS_eq ha
  split at h
  · rename_i hl
    injection h with h; subst h
    exact jn5 x y hl.1 hl.2
  · cases h
def et6 : List V → Option V := fun args => (arg2 dI dI args).bind fun p => if p.1.length ≤ 1000 ∧ p.2.length ≤ 1000 then some (.bool (decide (p.1 = p.2))) else none
theorem et6_ok : ∀ args v, et6 args = some v → PureOk Tryz.prog cfg0 6 args v := fun args v h => by
  unfold et6 at h
  simp only [Option.bind_eq_some_iff] at h
  obtain ⟨⟨x, y⟩, hx, h⟩ := h
  obtain ⟨a, b, rfl, ha, hb⟩ := arg2_eq hx
  obtain rfl := dI_eq hb
  obtain rfl := dI_eq ha
  split at h
  · rename_i hl
    injection h with h; subst h
    exact eq6 x y hl.1 hl.2
  · cases h
end
end Go.Proofs.YtcmcedphaipgkaaGreatDoor.Ai

