/- Part of a reckoning of a Go program over abstract values, proved sound against the model. -/
import Derived.Test.YtedphjbgimkmlaaDoorAiIA3
set_option linter.unusedSimpArgs false
set_option linter.unusedVariables false
namespace Go.Proofs.YtedphjbgimkmlaaDoor.Ai
open Go.Proofs
set_option maxRecDepth 100000
set_option maxHeartbeats 1000000

section
variable {A B : Prop}
@[simp high] theorem GuardK_tt : GuardK (some (.bool true)) true A B = A := by simp
@[simp high] theorem GuardK_ff : GuardK (some (.bool false)) false A B = A := by simp
@[simp high] theorem GuardK_tf : GuardK (some (.bool true)) false A B = B := by simp
@[simp high] theorem GuardK_ft : GuardK (some (.bool false)) true A B = B := by simp
@[simp high] theorem CondK_tt : CondK (some (.bool true)) A B = A := by simp
@[simp high] theorem CondK_ff : CondK (some (.bool false)) A B = B := by simp
end
@[simp] theorem beq07 : Nat.beq 0 7 = false := rfl
@[simp] theorem beq27 : Nat.beq 2 7 = false := rfl
@[simp] theorem beq37 : Nat.beq 3 7 = false := rfl
@[simp] theorem beq17 : Nat.beq 1 7 = false := rfl
@[simp] theorem beq87 : Nat.beq 8 7 = false := rfl
structure Alt where
  name : ByteArray
  args : List Int
structure Inst where
  kind : Int
  alts : List Alt
  modes : List (Int × Int)
  det : Int
def eM (m : Int × Int) : V := .agg [vI m.1, vI m.2]
def eA (a : Alt) : V := .agg [.str a.name, eI a.args]
def eX (x : Inst) : V := .agg [vI x.kind, .list (x.alts.map eA), .list (x.modes.map eM), vI x.det]
@[simp] theorem free_eA (a : Alt) : (eA a).free = true := by simp [eA]
@[simp] theorem free_eM (a : Int × Int) : (eM a).free = true := by simp [eM]
@[simp] theorem freeL_eA (l : List Alt) : V.freeL (l.map eA) = true := freeL_map eA free_eA l
@[simp] theorem freeL_eM (l : List (Int × Int)) : V.freeL (l.map eM) = true := freeL_map eM free_eM l
@[simp] theorem free_eX (a : Inst) : (eX a).free = true := by simp [eX]
@[simp] theorem freeL_eX (l : List Inst) : V.freeL (l.map eX) = true := freeL_map eX free_eX l

def dA : V → Option Alt
  | .agg [.str n, l] => (dI l).map (⟨n, ·⟩)
  | _ => none
def dAs : List V → Option (List Alt)
  | [] => some []
  | v :: l => match dA v, dAs l with
    | some a, some r => some (a :: r)
    | _, _ => none
theorem dA_eq {v : V} {a : Alt} (h : dA v = some a) : v = eA a := by
  unfold dA at h
  split at h
  · simp only [Option.map_eq_some_iff] at h
    obtain ⟨x, hx, rfl⟩ := h
    rw [dI_eq hx]; rfl
  · cases h
@[simp] theorem dA_eA (a : Alt) : dA (eA a) = some a := by simp [dA, eA]
theorem dAs_eq : ∀ {l : List V} {r : List Alt}, dAs l = some r → l = r.map eA
  | [], r, h => by injection h with h; subst h; rfl
  | v :: l, r, h => by
    unfold dAs at h
    split at h
    · rename_i a r' h1 h2
      injection h with h; subst h
      rw [dA_eq h1, dAs_eq h2]; rfl
    · cases h
@[simp] theorem dAs_map : ∀ l : List Alt, dAs (l.map eA) = some l
  | [] => rfl
  | a :: l => by simp [dAs, dAs_map l]

def wideA (a : Alt) : Bool := decide (4 < a.args.length) || decide (100 < a.name.size)
theorem p24 (a : Alt) : PureOk Tryd.prog cfg0 24 [eA a] (.bool (wideA a)) := by
  have hc := st_ok (e := []) (f := []) .nil .nil
  refine PureOk.cfg (cfg := st [] []) rfl ?_
  refine pure_of (sl := true) hc (cf0_ok hc) noSpE Tryd.func24 f24_eq f24_nt f24_fits (by simp) (by simp) ?_
  by_cases h : 4 < a.args.length
  · simp -implicitDefEqProofs (maxDischargeDepth := 9) [Nat.add_assoc, aFieldAddr, aField, aLoad, aStore, aIndexAddr, aIndex, aSlice, aLen, asInt, asIntO, cpOf, sub, splice, fillV, aBuildSlice, zerosV, aMakeSlice, aAppend, elemsOf, sliceOrStr, thaw, thawL, freshD, puresD, mapEnts, Int.natCast_inj, f24_ac, eA, eI, h, wideA]
    omega
  · simp -implicitDefEqProofs (maxDischargeDepth := 9) [Nat.add_assoc, aFieldAddr, aField, aLoad, aStore, aIndexAddr, aIndex, aSlice, aLen, asInt, asIntO, cpOf, sub, splice, fillV, aBuildSlice, zerosV, aMakeSlice, aAppend, elemsOf, sliceOrStr, thaw, thawL, freshD, puresD, mapEnts, Int.natCast_inj, f24_ac, eA, eI, h, wideA]
    omega
/-- How far the first one is. -/
def idxOf {α : Type} (p : α → Bool) (l : List α) : Int := if l.any p then (l.findIdx p : Int) else -1
theorem idx_hit {α : Type} {p : α → Bool} : ∀ {l : List α} {i : Nat} (h : i < l.length), (∀ a ∈ l.take i, p a = false) → p l[i] = true → idxOf p l = i
  | a :: l, 0, _, _, hp => by
    simp only [List.getElem_cons_zero] at hp
    simp [idxOf, List.findIdx_cons, hp]
  | a :: l, i + 1, h, ht, hp => by
    have h0 : p a = false := ht a (by simp)
    have ih := idx_hit (p := p) (l := l) (i := i) (by simpa using h) (fun b hb => ht b (by simp [hb])) (by simpa using hp)
    unfold idxOf at ih ⊢
    by_cases hany : l.any p = true
    · rw [if_pos hany] at ih
      rw [if_pos (by simp [hany]), List.findIdx_cons, h0]
      simp only [cond_false]
      omega
    · rw [if_neg hany] at ih
      omega
theorem idx_none {α : Type} {p : α → Bool} {l : List α} (h : ∀ a ∈ l, p a = false) : idxOf p l = -1 := by
  unfold idxOf
  rw [if_neg]
  intro h'
  obtain ⟨a, ha, hp⟩ := List.any_eq_true.1 h'
  rw [h a ha] at hp
  cases hp
theorem idx_nonneg {α : Type} (p : α → Bool) (l : List α) : decide (0 ≤ idxOf p l) = l.any p := by
  unfold idxOf
  split
  · rename_i h; rw [h]; simp
  · rename_i h; simp only [Bool.not_eq_true] at h; rw [h]; rfl
theorem take_no {α : Type} {p : α → Bool} {l : List α} {i : Nat} (h : i < l.length) (ht : ∀ a ∈ l.take i, p a = false) (hp : p l[i] = false) : ∀ a ∈ l.take (i + 1), p a = false := by
  intro a ha
  rw [List.take_succ_eq_append_getElem h] at ha
  rcases List.mem_append.1 ha with ha | ha
  · exact ht a ha
  · rw [List.mem_singleton.1 ha]; exact hp
def e24 : List V → Option V
  | [.agg [.str n, l]] => (dI l).map fun x => .bool (wideA ⟨n, x⟩)
  | _ => none
theorem t24 : ∀ args v, e24 args = some v → PureOk Tryd.prog cfg0 24 args v := fun args v h => by
  unfold e24 at h
  split at h
  · simp only [Option.map_eq_some_iff] at h
    obtain ⟨x, hx, rfl⟩ := h
    rw [dI_eq hx]
    exact p24 ⟨_, x⟩
  · cases h
theorem e24_at (a : Alt) : e24 [.agg [.str a.name, .list (a.args.map vI)]] = some (.bool (wideA a)) := by simp [e24]
theorem p41 (l : List Alt) (hl : l.length ≤ 1000) : PureOk Tryd.prog cfg0 41 [.list (l.map eA), .func (.func 24) [] []] (.int .i64 (idxOf wideA l)) := by
  have hc := st_ok (e := [(24, e24)]) (f := []) (.cons t24 .nil) .nil
  refine PureOk.cfg (cfg := st [(24, e24)] []) rfl ?_
  refine pure_of (sl := true) hc (cf0_ok hc) noSpE Tryd.func41 f41_eq f41_nt f41_fits (by simp) (by simp) ?_
  simp -implicitDefEqProofs (maxDischargeDepth := 9) [Nat.add_assoc, aFieldAddr, aField, aLoad, aStore, aIndexAddr, aIndex, aSlice, aLen, asInt, asIntO, cpOf, sub, splice, fillV, aBuildSlice, zerosV, aMakeSlice, aAppend, elemsOf, sliceOrStr, thaw, thawL, freshD, puresD, mapEnts, Int.natCast_inj, f41_ac]
  refine e_loopK (α := Nat) (fun i => [(0, .list (l.map eA)), (1, .func (.func 24) [] []), (7, .int .i64 l.length), (8, .int .i64 i)]) (fun i s => s.wf ∧ i ≤ l.length ∧ (∀ a ∈ l.take i, wideA a = false)) (fun i => l.length - i) 0 f41_l0_fits (by simp) (by simp) ?_
  rintro i s ⟨hw, hi, ht⟩
  rcases Nat.lt_or_ge i l.length with h | h
  · have e1 := List.getElem?_eq_getElem h
    have e3 : IntKind.i64.wrap ((i : Int) + 1) = ((i + 1 : Nat) : Int) := wrap_ok (by omega) (by omega)
    have e4 := e24_at l[i]
    simp -implicitDefEqProofs (maxDischargeDepth := 9) [Nat.add_assoc, aFieldAddr, aField, aLoad, aStore, aIndexAddr, aIndex, aSlice, aLen, asInt, asIntO, cpOf, sub, splice, fillV, aBuildSlice, zerosV, aMakeSlice, aAppend, elemsOf, sliceOrStr, thaw, thawL, freshD, puresD, mapEnts, Int.natCast_inj, f41_l0, h, hw, e1, e3, e4, eA, eI, callOp]
    exact ⟨fun hp => idx_hit h ht hp, fun hp => ⟨i + 1, by omega, ⟨by omega, take_no h ht hp⟩, by simp⟩⟩
  · have : i = l.length := by omega
    subst this
    simp -implicitDefEqProofs (maxDischargeDepth := 9) [Nat.add_assoc, aFieldAddr, aField, aLoad, aStore, aIndexAddr, aIndex, aSlice, aLen, asInt, asIntO, cpOf, sub, splice, fillV, aBuildSlice, zerosV, aMakeSlice, aAppend, elemsOf, sliceOrStr, thaw, thawL, freshD, puresD, mapEnts, Int.natCast_inj, f41_l0, hw]
    exact idx_none (by simpa using ht)
def e41 : List V → Option V
  | [.list l, .func (.func 24) [] []] => (dAs l).bind fun l => if l.length ≤ 1000 then some (.int .i64 (idxOf wideA l)) else none
  | _ => none
theorem t41 : ∀ args v, e41 args = some v → PureOk Tryd.prog cfg0 41 args v := fun args v h => by
  unfold e41 at h
  split at h
  · simp only [Option.bind_eq_some_iff] at h
    obtain ⟨l, hl, h⟩ := h
    obtain rfl := dAs_eq hl
    split at h
    · rename_i h1; injection h with h; subst h; exact p41 l h1
    · cases h
  · cases h
/-- ContainsFunc of alternatives. -/
theorem p23 (l : List Alt) (hl : l.length ≤ 1000) : PureOk Tryd.prog cfg0 23 [.list (l.map eA), .func (.func 24) [] []] (.bool (l.any wideA)) := by
  have hc := st_ok (e := [(41, e41)]) (f := []) (.cons t41 .nil) .nil
  refine PureOk.cfg (cfg := st [(41, e41)] []) rfl ?_
  refine pure_of (sl := true) hc (cf0_ok hc) noSpE Tryd.func23 f23_eq f23_nt f23_fits (by simp) (by simp) ?_
  have h1 : e41 [.list (l.map eA), .func (.func 24) [] []] = some (.int .i64 (idxOf wideA l)) := by simp [e41, hl]
  have h2 := idx_nonneg wideA l
  simp -implicitDefEqProofs (maxDischargeDepth := 9) [Nat.add_assoc, aFieldAddr, aField, aLoad, aStore, aIndexAddr, aIndex, aSlice, aLen, asInt, asIntO, cpOf, sub, splice, fillV, aBuildSlice, zerosV, aMakeSlice, aAppend, elemsOf, sliceOrStr, thaw, thawL, freshD, puresD, mapEnts, Int.natCast_inj, f23_ac, callOp, h1]
  exact h2.symm
def e23 : List V → Option V
  | [.list l, .func (.func 24) [] []] => (dAs l).bind fun l => if l.length ≤ 1000 then some (.bool (l.any wideA)) else none
  | _ => none
theorem t23 : ∀ args v, e23 args = some v → PureOk Tryd.prog cfg0 23 args v := fun args v h => by
  unfold e23 at h
  split at h
  · simp only [Option.bind_eq_some_iff] at h
    obtain ⟨l, hl, h⟩ := h
    obtain rfl := dAs_eq hl
    split at h
    · rename_i h1; injection h with h; subst h; exact p23 l h1
    · cases h
  · cases h
def oneX (x : Inst) : Bool := decide (x.alts.length ≤ 4) && (decide (x.modes.length ≤ 4) && !x.alts.any wideA)
theorem p13 (x : Inst) : PureOk Tryd.prog cfg0 13 [eX x] (.bool (oneX x)) := by
  have hc := st_ok (e := [(23, e23)]) (f := []) (.cons t23 .nil) .nil
  refine PureOk.cfg (cfg := st [(23, e23)] []) rfl ?_
  refine pure_of (sl := true) hc (cf0_ok hc) noSpE Tryd.func13 f13_eq f13_nt f13_fits (by simp) (by simp) ?_
  by_cases h1 : x.alts.length ≤ 4
  · have h3 : e23 [.list (x.alts.map eA), .func (.func 24) [] []] = some (.bool (x.alts.any wideA)) := by
      have : x.alts.length ≤ 1000 := by omega
      simp [e23, this]
    have h1' : (x.alts.length : Int) ≤ 4 := by omega
    by_cases h2 : x.modes.length ≤ 4
    · have h2' : (x.modes.length : Int) ≤ 4 := by omega
      simp -implicitDefEqProofs (maxDischargeDepth := 9) [Nat.add_assoc, aFieldAddr, aField, aLoad, aStore, aIndexAddr, aIndex, aSlice, aLen, asInt, asIntO, cpOf, sub, splice, fillV, aBuildSlice, zerosV, aMakeSlice, aAppend, elemsOf, sliceOrStr, thaw, thawL, freshD, puresD, mapEnts, Int.natCast_inj, f13_ac, eX, callOp, h1, h2, h1', h2', h3, oneX]
    · have h2' : ¬ (x.modes.length : Int) ≤ 4 := by omega
      simp -implicitDefEqProofs (maxDischargeDepth := 9) [Nat.add_assoc, aFieldAddr, aField, aLoad, aStore, aIndexAddr, aIndex, aSlice, aLen, asInt, asIntO, cpOf, sub, splice, fillV, aBuildSlice, zerosV, aMakeSlice, aAppend, elemsOf, sliceOrStr, thaw, thawL, freshD, puresD, mapEnts, Int.natCast_inj, f13_ac, eX, callOp, h1, h2, h1', h2', h3, oneX]
  · have h1' : ¬ (x.alts.length : Int) ≤ 4 := by omega
    simp -implicitDefEqProofs (maxDischargeDepth := 9) [Nat.add_assoc, aFieldAddr, aField, aLoad, aStore, aIndexAddr, aIndex, aSlice, aLen, asInt, asIntO, cpOf, sub, splice, fillV, aBuildSlice, zerosV, aMakeSlice, aAppend, elemsOf, sliceOrStr, thaw, thawL, freshD, puresD, mapEnts, Int.natCast_inj, f13_ac, eX, callOp, h1, h1', oneX]
end Go.Proofs.YtedphjbgimkmlaaDoor.Ai

namespace Go.Proofs.YtedphjbgimkmlaaDoor.Ai
open Go.Proofs
set_option maxRecDepth 100000
set_option maxHeartbeats 1000000

def dM : V → Option (Int × Int)
  | .agg [.int .i64 a, .int .i64 b] => some (a, b)
  | _ => none
def dMs : List V → Option (List (Int × Int))
  | [] => some []
  | v :: l => match dM v, dMs l with
    | some a, some r => some (a :: r)
    | _, _ => none
theorem dM_eq {v : V} {a : Int × Int} (h : dM v = some a) : v = eM a := by
  unfold dM at h
  split at h
  · injection h with h; subst h; rfl
  · cases h
@[simp] theorem dM_eM (a : Int × Int) : dM (eM a) = some a := rfl
theorem dMs_eq : ∀ {l : List V} {r : List (Int × Int)}, dMs l = some r → l = r.map eM
  | [], r, h => by injection h with h; subst h; rfl
  | v :: l, r, h => by
    unfold dMs at h
    split at h
    · rename_i a r' h1 h2
      injection h with h; subst h
      rw [dM_eq h1, dMs_eq h2]; rfl
    · cases h
@[simp] theorem dMs_map : ∀ l : List (Int × Int), dMs (l.map eM) = some l
  | [] => rfl
  | a :: l => by simp [dMs, dMs_map l]
def dX : V → Option Inst
  | .agg [.int .i64 k, .list al, .list ml, .int .i64 d] => match dAs al, dMs ml with
    | some a, some m => some ⟨k, a, m, d⟩
    | _, _ => none
  | _ => none
theorem dX_eq {v : V} {x : Inst} (h : dX v = some x) : v = eX x := by
  unfold dX at h
  split at h
  · split at h
    · rename_i h1 h2
      injection h with h; subst h
      rw [dAs_eq h1, dMs_eq h2]; rfl
    · cases h
  · cases h
@[simp] theorem dX_eX (x : Inst) : dX (eX x) = some x := by simp [dX, eX, vI]
def dXs : List V → Option (List Inst)
  | [] => some []
  | v :: l => match dX v, dXs l with
    | some a, some r => some (a :: r)
    | _, _ => none
theorem dXs_eq : ∀ {l : List V} {r : List Inst}, dXs l = some r → l = r.map eX
  | [], r, h => by injection h with h; subst h; rfl
  | v :: l, r, h => by
    unfold dXs at h
    split at h
    · rename_i a r' h1 h2
      injection h with h; subst h
      rw [dX_eq h1, dXs_eq h2]; rfl
    · cases h
@[simp] theorem dXs_map : ∀ l : List Inst, dXs (l.map eX) = some l
  | [] => rfl
  | a :: l => by simp [dXs, dXs_map l]

def e13 : List V → Option V := fun args => (arg1 dX args).map fun x => .bool (oneX x)
theorem t13 : ∀ args v, e13 args = some v → PureOk Tryd.prog cfg0 13 args v := fun args v h => by
  unfold e13 at h
  simp only [Option.map_eq_some_iff] at h
  obtain ⟨x, hx, rfl⟩ := h
  obtain ⟨a, rfl, ha⟩ := arg1_eq hx
  rw [dX_eq ha]
  exact p13 x
theorem e13_at (x : Inst) : e13 [.agg [vI x.kind, .list (x.alts.map eA), .list (x.modes.map eM), vI x.det]] = some (.bool (oneX x)) := by
  have : e13 [eX x] = some (.bool (oneX x)) := by simp [e13]
  exact this
theorem p12 (x : Inst) : PureOk Tryd.prog cfg0 12 [eX x] (.bool (!oneX x)) := by
  have hc := st_ok (e := [(13, e13)]) (f := []) (.cons t13 .nil) .nil
  refine PureOk.cfg (cfg := st [(13, e13)] []) rfl ?_
  refine pure_of (sl := true) hc (cf0_ok hc) noSpE Tryd.func12 f12_eq f12_nt f12_fits (by simp) (by simp) ?_
  have h := e13_at x
  simp -implicitDefEqProofs (maxDischargeDepth := 9) [Nat.add_assoc, aFieldAddr, aField, aLoad, aStore, aIndexAddr, aIndex, aSlice, aLen, asInt, asIntO, cpOf, sub, splice, fillV, aBuildSlice, zerosV, aMakeSlice, aAppend, elemsOf, sliceOrStr, thaw, thawL, freshD, puresD, mapEnts, Int.natCast_inj, f12_ac, eX, callOp, h]
def e12 : List V → Option V := fun args => (arg1 dX args).map fun x => .bool (!oneX x)
theorem t12 : ∀ args v, e12 args = some v → PureOk Tryd.prog cfg0 12 args v := fun args v h => by
  unfold e12 at h
  simp only [Option.map_eq_some_iff] at h
  obtain ⟨x, hx, rfl⟩ := h
  obtain ⟨a, rfl, ha⟩ := arg1_eq hx
  rw [dX_eq ha]
  exact p12 x
theorem e12_at (x : Inst) : e12 [.agg [vI x.kind, .list (x.alts.map eA), .list (x.modes.map eM), vI x.det]] = some (.bool (!oneX x)) := by
  have : e12 [eX x] = some (.bool (!oneX x)) := by simp [e12]
  exact this
def badX (x : Inst) : Bool := !oneX x
theorem p22 (l : List Inst) (hl : l.length ≤ 1000) : PureOk Tryd.prog cfg0 22 [.list (l.map eX), .func (.func 12) [] []] (.int .i64 (idxOf badX l)) := by
  have hc := st_ok (e := [(12, e12)]) (f := []) (.cons t12 .nil) .nil
  refine PureOk.cfg (cfg := st [(12, e12)] []) rfl ?_
  refine pure_of (sl := true) hc (cf0_ok hc) noSpE Tryd.func22 f22_eq f22_nt f22_fits (by simp) (by simp) ?_
  simp -implicitDefEqProofs (maxDischargeDepth := 9) [Nat.add_assoc, aFieldAddr, aField, aLoad, aStore, aIndexAddr, aIndex, aSlice, aLen, asInt, asIntO, cpOf, sub, splice, fillV, aBuildSlice, zerosV, aMakeSlice, aAppend, elemsOf, sliceOrStr, thaw, thawL, freshD, puresD, mapEnts, Int.natCast_inj, f22_ac]
  refine e_loopK (α := Nat) (fun i => [(0, .list (l.map eX)), (1, .func (.func 12) [] []), (7, .int .i64 l.length), (8, .int .i64 i)]) (fun i s => s.wf ∧ i ≤ l.length ∧ (∀ a ∈ l.take i, badX a = false)) (fun i => l.length - i) 0 f22_l0_fits (by simp) (by simp) ?_
  rintro i s ⟨hw, hi, ht⟩
  rcases Nat.lt_or_ge i l.length with h | h
  · have e1 := List.getElem?_eq_getElem h
    have e3 : IntKind.i64.wrap ((i : Int) + 1) = ((i + 1 : Nat) : Int) := wrap_ok (by omega) (by omega)
    have e4 := e12_at l[i]
    simp -implicitDefEqProofs (maxDischargeDepth := 9) [Nat.add_assoc, aFieldAddr, aField, aLoad, aStore, aIndexAddr, aIndex, aSlice, aLen, asInt, asIntO, cpOf, sub, splice, fillV, aBuildSlice, zerosV, aMakeSlice, aAppend, elemsOf, sliceOrStr, thaw, thawL, freshD, puresD, mapEnts, Int.natCast_inj, f22_l0, h, hw, e1, e3, e4, eX, callOp]
    refine ⟨fun hp => idx_hit h ht (by simp [badX, hp]), fun hp => ⟨i + 1, by omega, ⟨by omega, take_no h ht (by simp [badX, hp])⟩, by simp⟩⟩
  · have : i = l.length := by omega
    subst this
    simp -implicitDefEqProofs (maxDischargeDepth := 9) [Nat.add_assoc, aFieldAddr, aField, aLoad, aStore, aIndexAddr, aIndex, aSlice, aLen, asInt, asIntO, cpOf, sub, splice, fillV, aBuildSlice, zerosV, aMakeSlice, aAppend, elemsOf, sliceOrStr, thaw, thawL, freshD, puresD, mapEnts, Int.natCast_inj, f22_l0, hw]
    exact idx_none (by simpa using ht)
def e22 : List V → Option V
  | [.list l, .func (.func 12) [] []] => (dXs l).bind fun l => if l.length ≤ 1000 then some (.int .i64 (idxOf badX l)) else none
  | _ => none
theorem t22 : ∀ args v, e22 args = some v → PureOk Tryd.prog cfg0 22 args v := fun args v h => by
  unfold e22 at h
  split at h
  · simp only [Option.bind_eq_some_iff] at h
    obtain ⟨l, hl, h⟩ := h
    obtain rfl := dXs_eq hl
    split at h
    · rename_i h1; injection h with h; subst h; exact p22 l h1
    · cases h
  · cases h
theorem p11 (l : List Inst) (hl : l.length ≤ 1000) : PureOk Tryd.prog cfg0 11 [.list (l.map eX), .func (.func 12) [] []] (.bool (l.any badX)) := by
  have hc := st_ok (e := [(22, e22)]) (f := []) (.cons t22 .nil) .nil
  refine PureOk.cfg (cfg := st [(22, e22)] []) rfl ?_
  refine pure_of (sl := true) hc (cf0_ok hc) noSpE Tryd.func11 f11_eq f11_nt f11_fits (by simp) (by simp) ?_
  have h1 : e22 [.list (l.map eX), .func (.func 12) [] []] = some (.int .i64 (idxOf badX l)) := by simp [e22, hl]
  have h2 := idx_nonneg badX l
  simp -implicitDefEqProofs (maxDischargeDepth := 9) [Nat.add_assoc, aFieldAddr, aField, aLoad, aStore, aIndexAddr, aIndex, aSlice, aLen, asInt, asIntO, cpOf, sub, splice, fillV, aBuildSlice, zerosV, aMakeSlice, aAppend, elemsOf, sliceOrStr, thaw, thawL, freshD, puresD, mapEnts, Int.natCast_inj, f11_ac, callOp, h1]
  exact h2.symm
def e11 : List V → Option V
  | [.list l, .func (.func 12) [] []] => (dXs l).bind fun l => if l.length ≤ 1000 then some (.bool (l.any badX)) else none
  | _ => none
theorem t11 : ∀ args v, e11 args = some v → PureOk Tryd.prog cfg0 11 args v := fun args v h => by
  unfold e11 at h
  split at h
  · simp only [Option.bind_eq_some_iff] at h
    obtain ⟨l, hl, h⟩ := h
    obtain rfl := dXs_eq hl
    split at h
    · rename_i h1; injection h with h; subst h; exact p11 l h1
    · cases h
  · cases h
def few (l : List Inst) : Bool := decide (l.length ≤ 12) && !l.any badX
theorem p4 (l : List Inst) : PureOk Tryd.prog cfg0 4 [.list (l.map eX)] (.bool (few l)) := by
  have hc := st_ok (e := [(11, e11)]) (f := []) (.cons t11 .nil) .nil
  refine PureOk.cfg (cfg := st [(11, e11)] []) rfl ?_
  refine pure_of (sl := true) hc (cf0_ok hc) noSpE Tryd.func4 f4_eq f4_nt f4_fits (by simp) (by simp) ?_
  by_cases h : l.length ≤ 12
  · have h' : (l.length : Int) ≤ 12 := by omega
    have h1 : e11 [.list (l.map eX), .func (.func 12) [] []] = some (.bool (l.any badX)) := by
      have : l.length ≤ 1000 := by omega
      simp [e11, this]
    simp -implicitDefEqProofs (maxDischargeDepth := 9) [Nat.add_assoc, aFieldAddr, aField, aLoad, aStore, aIndexAddr, aIndex, aSlice, aLen, asInt, asIntO, cpOf, sub, splice, fillV, aBuildSlice, zerosV, aMakeSlice, aAppend, elemsOf, sliceOrStr, thaw, thawL, freshD, puresD, mapEnts, Int.natCast_inj, f4_ac, callOp, h1, h, h', few]
  · have h' : ¬ (l.length : Int) ≤ 12 := by omega
    simp -implicitDefEqProofs (maxDischargeDepth := 9) [Nat.add_assoc, aFieldAddr, aField, aLoad, aStore, aIndexAddr, aIndex, aSlice, aLen, asInt, asIntO, cpOf, sub, splice, fillV, aBuildSlice, zerosV, aMakeSlice, aAppend, elemsOf, sliceOrStr, thaw, thawL, freshD, puresD, mapEnts, Int.natCast_inj, f4_ac, h, h', few]
end Go.Proofs.YtedphjbgimkmlaaDoor.Ai

