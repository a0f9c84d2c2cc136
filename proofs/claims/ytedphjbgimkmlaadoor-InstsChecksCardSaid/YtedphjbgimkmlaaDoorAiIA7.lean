/- Part of a reckoning of a Go program over abstract values, proved sound against the model. -/
import Derived.Test.YtedphjbgimkmlaaDoorAiIA5
set_option linter.unusedSimpArgs false
set_option linter.unusedVariables false
namespace Go.Proofs.YtedphjbgimkmlaaDoor.Ai
open Go.Proofs
set_option maxRecDepth 100000
set_option maxHeartbeats 1000000

def eB (l : List Bool) : V := .list (l.map V.bool)
@[simp] theorem freeL_bool (l : List Bool) : V.freeL (l.map V.bool) = true := freeL_map V.bool (fun _ => rfl) l
def bAt (b : List Bool) (k : Int) : Bool := (b[k.toNat]?).getD false
theorem p34 (b : List Bool) (k : Int) (h0 : 0 ≤ k) (h1 : k < b.length) : PureOk Tryd.prog cfg0 34 [vI k, .cptr [eB b] 0] (.bool (!bAt b k)) := by
  have hc := st_ok (e := []) (f := []) .nil .nil
  refine PureOk.cfg (cfg := st [] []) rfl ?_
  refine pure_of (sl := true) hc (cf0_ok hc) noSpE Tryd.func34 f34_eq f34_nt f34_fits (by simp) (by simp [eB]) ?_
  obtain ⟨n, rfl⟩ : ∃ n : Nat, k = n := ⟨k.toNat, by omega⟩
  have hn : n < b.length := by omega
  have e1 := List.getElem?_eq_getElem hn
  simp -implicitDefEqProofs (maxDischargeDepth := 9) [Nat.add_assoc, aFieldAddr, aField, aLoad, aStore, aIndexAddr, aIndex, aSlice, aLen, asInt, asIntO, cpOf, sub, splice, fillV, aBuildSlice, zerosV, aMakeSlice, aAppend, elemsOf, sliceOrStr, thaw, thawL, freshD, puresD, mapEnts, Int.natCast_inj, f34_ac, eB, vI, e1, hn, bAt]
def dBs : List V → Option (List Bool)
  | [] => some []
  | .bool b :: l => (dBs l).map (b :: ·)
  | _ => none
theorem dBs_eq : ∀ {l : List V} {r : List Bool}, dBs l = some r → l = r.map V.bool
  | [], r, h => by injection h with h; subst h; rfl
  | .bool b :: l, r, h => by
    simp only [dBs, Option.map_eq_some_iff] at h
    obtain ⟨y, h1, rfl⟩ := h
    rw [dBs_eq h1]; rfl
@[simp] theorem dBs_map : ∀ l : List Bool, dBs (l.map V.bool) = some l
  | [] => rfl
  | a :: l => by simp [dBs, dBs_map l]
def inB (b : List Bool) (k : Int) : Bool := decide (0 ≤ k) && decide (k < b.length)
def e34 : List V → Option V
  | [.int .i64 k, .cptr [.list l] 0] => (dBs l).bind fun b => if inB b k then some (.bool (!bAt b k)) else none
  | _ => none
theorem t34 : ∀ args v, e34 args = some v → PureOk Tryd.prog cfg0 34 args v := fun args v h => by
  unfold e34 at h
  split at h
  · simp only [Option.bind_eq_some_iff] at h
    obtain ⟨b, hb, h⟩ := h
    obtain rfl := dBs_eq hb
    split at h
    · rename_i h1
      injection h with h; subst h
      simp only [inB, Bool.and_eq_true, decide_eq_true_eq] at h1
      exact p34 b _ h1.1 h1.2
    · cases h
  · cases h
/-- What is not yet known to have values. -/
def noB (b : List Bool) (k : Int) : Bool := !bAt b k
theorem p60 (b : List Bool) (l : List Int) (hl : l.length ≤ 1000) (hb : ∀ k ∈ l, inB b k = true) : PureOk Tryd.prog cfg0 60 [.list (l.map vI), .func (.func 34) [] [.cptr [eB b] 0]] (.int .i64 (idxOf (noB b) l)) := by
  have hc := st_ok (e := [(34, e34)]) (f := []) (.cons t34 .nil) .nil
  refine PureOk.cfg (cfg := st [(34, e34)] []) rfl ?_
  refine pure_of (sl := true) hc (cf0_ok hc) noSpE Tryd.func60 f60_eq f60_nt f60_fits (by simp) (by simp [eB]) ?_
  simp -implicitDefEqProofs (maxDischargeDepth := 9) [Nat.add_assoc, aFieldAddr, aField, aLoad, aStore, aIndexAddr, aIndex, aSlice, aLen, asInt, asIntO, cpOf, sub, splice, fillV, aBuildSlice, zerosV, aMakeSlice, aAppend, elemsOf, sliceOrStr, thaw, thawL, freshD, puresD, mapEnts, Int.natCast_inj, f60_ac, eB]
  refine e_loopK (α := Nat) (fun i => [(0, .list (l.map vI)), (1, .func (.func 34) [] [.cptr [.list (b.map V.bool)] 0]), (7, .int .i64 l.length), (8, .int .i64 i)]) (fun i s => s.wf ∧ i ≤ l.length ∧ (∀ a ∈ l.take i, noB b a = false)) (fun i => l.length - i) 0 f60_l0_fits (by simp) (by simp) ?_
  rintro i s ⟨hw, hi, ht⟩
  rcases Nat.lt_or_ge i l.length with h | h
  · have e1 := List.getElem?_eq_getElem h
    have e3 : IntKind.i64.wrap ((i : Int) + 1) = ((i + 1 : Nat) : Int) := wrap_ok (by omega) (by omega)
    have e4 : e34 [vI l[i], .cptr [.list (b.map V.bool)] 0] = some (.bool (noB b l[i])) := by
      simp [e34, vI, hb _ (List.getElem_mem h), noB]
    simp -implicitDefEqProofs (maxDischargeDepth := 9) [Nat.add_assoc, aFieldAddr, aField, aLoad, aStore, aIndexAddr, aIndex, aSlice, aLen, asInt, asIntO, cpOf, sub, splice, fillV, aBuildSlice, zerosV, aMakeSlice, aAppend, elemsOf, sliceOrStr, thaw, thawL, freshD, puresD, mapEnts, Int.natCast_inj, f60_l0, h, hw, e1, e3, e4, callOp]
    refine ⟨fun hp => idx_hit h ht hp, fun hp => ⟨i + 1, by omega, ⟨by omega, take_no h ht hp⟩, by simp⟩⟩
  · have : i = l.length := by omega
    subst this
    simp -implicitDefEqProofs (maxDischargeDepth := 9) [Nat.add_assoc, aFieldAddr, aField, aLoad, aStore, aIndexAddr, aIndex, aSlice, aLen, asInt, asIntO, cpOf, sub, splice, fillV, aBuildSlice, zerosV, aMakeSlice, aAppend, elemsOf, sliceOrStr, thaw, thawL, freshD, puresD, mapEnts, Int.natCast_inj, f60_l0, hw]
    exact idx_none (by simpa using ht)
/-- All these are indices. -/
def inBs (b : List Bool) (l : List Int) : Bool := l.all (inB b)
theorem inBs_mem {b : List Bool} {l : List Int} (h : inBs b l = true) : ∀ k ∈ l, inB b k = true := List.all_eq_true.1 h
def e60 : List V → Option V
  | [.list l, .func (.func 34) [] [.cptr [.list c] 0]] => (dIL l).bind fun l => (dBs c).bind fun b => if l.length ≤ 1000 ∧ inBs b l = true then some (.int .i64 (idxOf (noB b) l)) else none
  | _ => none
theorem t60 : ∀ args v, e60 args = some v → PureOk Tryd.prog cfg0 60 args v := fun args v h => by
  unfold e60 at h
  split at h
  · simp only [Option.bind_eq_some_iff] at h
    obtain ⟨l, hl, b, hb, h⟩ := h
    obtain rfl := dIL_eq hl
    obtain rfl := dBs_eq hb
    split at h
    · rename_i h1; injection h with h; subst h; exact p60 b l h1.1 (inBs_mem h1.2)
    · cases h
  · cases h
theorem p33 (b : List Bool) (l : List Int) (hl : l.length ≤ 1000) (hb : inBs b l = true) : PureOk Tryd.prog cfg0 33 [.list (l.map vI), .func (.func 34) [] [.cptr [eB b] 0]] (.bool (l.any (noB b))) := by
  have hc := st_ok (e := [(60, e60)]) (f := []) (.cons t60 .nil) .nil
  refine PureOk.cfg (cfg := st [(60, e60)] []) rfl ?_
  refine pure_of (sl := true) hc (cf0_ok hc) noSpE Tryd.func33 f33_eq f33_nt f33_fits (by simp) (by simp [eB]) ?_
  have h1 : e60 [.list (l.map vI), .func (.func 34) [] [.cptr [.list (b.map V.bool)] 0]] = some (.int .i64 (idxOf (noB b) l)) := by simp [e60, hl, hb]
  have h2 := idx_nonneg (noB b) l
  simp -implicitDefEqProofs (maxDischargeDepth := 9) [Nat.add_assoc, aFieldAddr, aField, aLoad, aStore, aIndexAddr, aIndex, aSlice, aLen, asInt, asIntO, cpOf, sub, splice, fillV, aBuildSlice, zerosV, aMakeSlice, aAppend, elemsOf, sliceOrStr, thaw, thawL, freshD, puresD, mapEnts, Int.natCast_inj, f33_ac, callOp, h1, eB]
  exact h2.symm
def e33 : List V → Option V
  | [.list l, .func (.func 34) [] [.cptr [.list c] 0]] => (dIL l).bind fun l => (dBs c).bind fun b => if l.length ≤ 1000 ∧ inBs b l = true then some (.bool (l.any (noB b))) else none
  | _ => none
theorem t33 : ∀ args v, e33 args = some v → PureOk Tryd.prog cfg0 33 args v := fun args v h => by
  unfold e33 at h
  split at h
  · simp only [Option.bind_eq_some_iff] at h
    obtain ⟨l, hl, b, hb, h⟩ := h
    obtain rfl := dIL_eq hl
    obtain rfl := dBs_eq hb
    split at h
    · rename_i h1; injection h with h; subst h; exact p33 b l h1.1 h1.2
    · cases h
  · cases h
/-- All arguments of an alternative have values. -/
def allB (b : List Bool) (a : Alt) : Bool := !a.args.any (noB b)
theorem p32 (b : List Bool) (a : Alt) (hl : a.args.length ≤ 1000) (hb : inBs b a.args = true) : PureOk Tryd.prog cfg0 32 [eA a, .cptr [eB b] 0] (.bool (allB b a)) := by
  have hc := st_ok (e := [(33, e33)]) (f := []) (.cons t33 .nil) .nil
  refine PureOk.cfg (cfg := st [(33, e33)] []) rfl ?_
  refine pure_of (sl := true) hc (cf0_ok hc) noSpE Tryd.func32 f32_eq f32_nt f32_fits (by simp) (by simp [eB]) ?_
  have h1 : e33 [.list (a.args.map vI), .func (.func 34) [] [.cptr [.list (b.map V.bool)] 0]] = some (.bool (a.args.any (noB b))) := by simp [e33, hl, hb]
  simp -implicitDefEqProofs (maxDischargeDepth := 9) [Nat.add_assoc, aFieldAddr, aField, aLoad, aStore, aIndexAddr, aIndex, aSlice, aLen, asInt, asIntO, cpOf, sub, splice, fillV, aBuildSlice, zerosV, aMakeSlice, aAppend, elemsOf, sliceOrStr, thaw, thawL, freshD, puresD, mapEnts, Int.natCast_inj, f32_ac, callOp, h1, eB, eA, eI, allB]
def goodA (b : List Bool) (a : Alt) : Bool := decide (a.args.length ≤ 1000) && inBs b a.args
def e32 : List V → Option V
  | [v, .cptr [.list c] 0] => (dA v).bind fun a => (dBs c).bind fun b => if goodA b a = true then some (.bool (allB b a)) else none
  | _ => none
theorem t32 : ∀ args v, e32 args = some v → PureOk Tryd.prog cfg0 32 args v := fun args v h => by
  unfold e32 at h
  split at h
  · simp only [Option.bind_eq_some_iff] at h
    obtain ⟨l, hl, b, hb, h⟩ := h
    obtain rfl := dA_eq hl
    obtain rfl := dBs_eq hb
    split at h
    · rename_i h1
      injection h with h; subst h
      simp only [goodA, Bool.and_eq_true, decide_eq_true_eq] at h1
      exact p32 b l h1.1 h1.2
    · cases h
  · cases h
theorem p41b (b : List Bool) (l : List Alt) (hl : l.length ≤ 1000) (hb : ∀ a ∈ l, goodA b a = true) : PureOk Tryd.prog cfg0 41 [.list (l.map eA), .func (.func 32) [] [.cptr [eB b] 0]] (.int .i64 (idxOf (allB b) l)) := by
  have hc := st_ok (e := [(32, e32)]) (f := []) (.cons t32 .nil) .nil
  refine PureOk.cfg (cfg := st [(32, e32)] []) rfl ?_
  refine pure_of (sl := true) hc (cf0_ok hc) noSpE Tryd.func41 f41_eq f41_nt f41_fits (by simp) (by simp [eB]) ?_
  simp -implicitDefEqProofs (maxDischargeDepth := 9) [Nat.add_assoc, aFieldAddr, aField, aLoad, aStore, aIndexAddr, aIndex, aSlice, aLen, asInt, asIntO, cpOf, sub, splice, fillV, aBuildSlice, zerosV, aMakeSlice, aAppend, elemsOf, sliceOrStr, thaw, thawL, freshD, puresD, mapEnts, Int.natCast_inj, f41_ac, eB]
  refine e_loopK (α := Nat) (fun i => [(0, .list (l.map eA)), (1, .func (.func 32) [] [.cptr [.list (b.map V.bool)] 0]), (7, .int .i64 l.length), (8, .int .i64 i)]) (fun i s => s.wf ∧ i ≤ l.length ∧ (∀ a ∈ l.take i, allB b a = false)) (fun i => l.length - i) 0 f41_l0_fits (by simp) (by simp) ?_
  rintro i s ⟨hw, hi, ht⟩
  rcases Nat.lt_or_ge i l.length with h | h
  · have e1 := List.getElem?_eq_getElem h
    have e3 : IntKind.i64.wrap ((i : Int) + 1) = ((i + 1 : Nat) : Int) := wrap_ok (by omega) (by omega)
    have e4 : e32 [.agg [.str l[i].name, .list (l[i].args.map vI)], .cptr [.list (b.map V.bool)] 0] = some (.bool (allB b l[i])) := by
      have : e32 [eA l[i], .cptr [.list (b.map V.bool)] 0] = some (.bool (allB b l[i])) := by simp [e32, hb _ (List.getElem_mem h)]
      exact this
    simp -implicitDefEqProofs (maxDischargeDepth := 9) [Nat.add_assoc, aFieldAddr, aField, aLoad, aStore, aIndexAddr, aIndex, aSlice, aLen, asInt, asIntO, cpOf, sub, splice, fillV, aBuildSlice, zerosV, aMakeSlice, aAppend, elemsOf, sliceOrStr, thaw, thawL, freshD, puresD, mapEnts, Int.natCast_inj, f41_l0, h, hw, e1, e3, e4, callOp, eA, eI]
    refine ⟨fun hp => idx_hit h ht hp, fun hp => ⟨i + 1, by omega, ⟨by omega, take_no h ht hp⟩, by simp⟩⟩
  · have : i = l.length := by omega
    subst this
    simp -implicitDefEqProofs (maxDischargeDepth := 9) [Nat.add_assoc, aFieldAddr, aField, aLoad, aStore, aIndexAddr, aIndex, aSlice, aLen, asInt, asIntO, cpOf, sub, splice, fillV, aBuildSlice, zerosV, aMakeSlice, aAppend, elemsOf, sliceOrStr, thaw, thawL, freshD, puresD, mapEnts, Int.natCast_inj, f41_l0, hw]
    exact idx_none (by simpa using ht)
def e41b : List V → Option V
  | [.list l, .func (.func 32) [] [.cptr [.list c] 0]] => (dAs l).bind fun l => (dBs c).bind fun b => if l.length ≤ 1000 ∧ l.all (goodA b) = true then some (.int .i64 (idxOf (allB b) l)) else none
  | _ => none
theorem t41b : ∀ args v, e41b args = some v → PureOk Tryd.prog cfg0 41 args v := fun args v h => by
  unfold e41b at h
  split at h
  · simp only [Option.bind_eq_some_iff] at h
    obtain ⟨l, hl, b, hb, h⟩ := h
    obtain rfl := dAs_eq hl
    obtain rfl := dBs_eq hb
    split at h
    · rename_i h1; injection h with h; subst h; exact p41b b l h1.1 (List.all_eq_true.1 h1.2)
    · cases h
  · cases h
theorem p23b (b : List Bool) (l : List Alt) (hl : l.length ≤ 1000) (hb : l.all (goodA b) = true) : PureOk Tryd.prog cfg0 23 [.list (l.map eA), .func (.func 32) [] [.cptr [eB b] 0]] (.bool (l.any (allB b))) := by
  have hc := st_ok (e := [(41, e41b)]) (f := []) (.cons t41b .nil) .nil
  refine PureOk.cfg (cfg := st [(41, e41b)] []) rfl ?_
  refine pure_of (sl := true) hc (cf0_ok hc) noSpE Tryd.func23 f23_eq f23_nt f23_fits (by simp) (by simp [eB]) ?_
  have h1 : e41b [.list (l.map eA), .func (.func 32) [] [.cptr [.list (b.map V.bool)] 0]] = some (.int .i64 (idxOf (allB b) l)) := by simp only [e41b, dAs_map, dBs_map, Option.bind_some, hl, hb, and_self, if_true]
  have h2 := idx_nonneg (allB b) l
  simp -implicitDefEqProofs (maxDischargeDepth := 9) [Nat.add_assoc, aFieldAddr, aField, aLoad, aStore, aIndexAddr, aIndex, aSlice, aLen, asInt, asIntO, cpOf, sub, splice, fillV, aBuildSlice, zerosV, aMakeSlice, aAppend, elemsOf, sliceOrStr, thaw, thawL, freshD, puresD, mapEnts, Int.natCast_inj, f23_ac, callOp, h1, eB]
  exact h2.symm
def e23b : List V → Option V
  | [.list l, .func (.func 32) [] [.cptr [.list c] 0]] => (dAs l).bind fun l => (dBs c).bind fun b => if l.length ≤ 1000 ∧ l.all (goodA b) = true then some (.bool (l.any (allB b))) else none
  | _ => none
theorem t23b : ∀ args v, e23b args = some v → PureOk Tryd.prog cfg0 23 args v := fun args v h => by
  unfold e23b at h
  split at h
  · simp only [Option.bind_eq_some_iff] at h
    obtain ⟨l, hl, b, hb, h⟩ := h
    obtain rfl := dAs_eq hl
    obtain rfl := dBs_eq hb
    split at h
    · rename_i h1; injection h with h; subst h; exact p23b b l h1.1 h1.2
    · cases h
  · cases h
end Go.Proofs.YtedphjbgimkmlaaDoor.Ai

namespace Go.Proofs.YtedphjbgimkmlaaDoor.Ai
open Go.Proofs
set_option maxRecDepth 100000
set_option maxHeartbeats 1000000

theorem seeL_bool {s : S} : ∀ (x : List Bool) (k : Nat), x.length + 2 ≤ k → seeL k s (x.map V.bool) = some (x.map V.bool)
  | [], k + 1, _ => by simp [seeL]
  | a :: x, k + 1, h => by
    simp only [List.length_cons] at h
    obtain ⟨k, rfl⟩ : ∃ m, k = m + 1 := ⟨k - 1, by omega⟩
    rw [List.map_cons]
    unfold seeL
    rw [seeL_bool x (k + 1) (by omega)]
    rfl
theorem chunk_bool : ∀ x : List Bool, chunk false 1 x.length (x.map V.bool) = x.map V.bool
  | [] => rfl
  | a :: x => by simp [chunk, chunk_bool x]
theorem see_arrB {s : S} {id n cp : Nat} {t : TypeId} {ex : Bool} {x : List Bool} {k : Nat} (hg : s.get id = some (.cells (x.map V.bool) 0 t ex)) (hn : n = x.length) (hk : x.length + 3 ≤ k) : see k s (.arr id 0 n 1 false cp) = some (.list (x.map V.bool)) := by
  obtain ⟨k, rfl⟩ : ∃ m, k = m + 1 := ⟨k - 1, by omega⟩
  subst hn
  unfold see
  rw [hg]
  simp only [Nat.mul_one, List.drop_zero, List.length_map, Nat.zero_add]
  rw [List.take_of_length_le (by simp), seeL_bool x k (by omega)]
  have : (x.map V.bool).all V.one = true := by simp [V.one]
  simp [chunk_bool, V.one]
theorem see_clos {s : S} {p id n cp : Nat} {t t' : TypeId} {ex ex' : Bool} {b : List Bool} {l : List V} {f : Fn} (hp : s.get p = some (.cells [.arr id 0 n 1 false cp] 0 t' ex')) (hg : s.get id = some (.cells (b.map V.bool) 0 t ex)) (hn : n = b.length) (hb : b.length ≤ 1000) :
    seeL FUEL s [.list l, .func f [] [.ptr p 0]] = some [.list l, .func f [] [.cptr [.list (b.map V.bool)] 0]] := by
  subst hn
  have h2 : seeL 99993 s (List.take (b.length * 1) (List.drop 0 (b.map V.bool))) = some (b.map V.bool) := by
    rw [Nat.mul_one, List.drop_zero, List.take_of_length_le (by simp), seeL_bool b 99993 (by omega)]
  have h3 : (b.map V.bool).all V.one = true := by simp [V.one]
  show seeL 100000 s _ = _
  simp only [seeL, see, hp, hg, h2, h3, chunk_bool]
  simp
theorem callOp_lent {cfg : Cfg} {cf : CF} {f : FuncId} {args args' : List V} {s : S} {v : V} (ht : cfg.tab f args = none) (hp : cfg.pure f = 2) (hs : seeL FUEL s args = some args') (hf : V.freeL args' = true) (h2 : cfg.tab f args' = some v) (hv : v.flatv = true) : callOp cfg cf f args s = some (.val v s) := by
  unfold callOp lentCall
  simp [ht, hp, hs, hf, h2, hv]
end Go.Proofs.YtedphjbgimkmlaaDoor.Ai

