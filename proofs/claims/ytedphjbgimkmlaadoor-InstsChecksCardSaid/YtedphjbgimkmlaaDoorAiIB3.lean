/- Part of a reckoning of a Go program over abstract values, proved sound against the model. -/
import Derived.Test.YtedphjbgimkmlaaDoorAiIB2
set_option linter.unusedSimpArgs false
set_option linter.unusedVariables false
namespace Go.Proofs.YtedphjbgimkmlaaDoor.Ai
open Go.Proofs
set_option maxRecDepth 100000
set_option maxHeartbeats 4000000

def e39 : List V → Option V := fun args => (arg1 dX args).bind fun x => if x.modes.length ≤ 400 then some (.list ((endsX x).map vI)) else none
theorem t39 : ∀ args v, e39 args = some v → PureOk Tryd.prog cfg0 39 args v := fun args v h => by
  unfold e39 at h
  simp only [Option.bind_eq_some_iff] at h
  obtain ⟨x, hx, h⟩ := h
  obtain ⟨a, rfl, ha⟩ := arg1_eq hx
  rw [dX_eq ha]
  split at h
  · injection h with h; subst h; exact p39 x ‹_›
  · cases h
theorem e39_at (x : Inst) (h : x.modes.length ≤ 400) : e39 [.agg [vI x.kind, .list (x.alts.map eA), .list (x.modes.map eM), vI x.det]] = some (.list ((endsX x).map vI)) := by
  have : e39 [eX x] = some (.list ((endsX x).map vI)) := by simp [e39, h]
  exact this
def eC : List (FuncId × (List V → Option V)) := [(39, e39)]
theorem eC_ok : TabOk Tryd.prog cfg0 eC := .cons t39 .nil
theorem hcC : (st eC []).Ok Tryd.prog := st_ok eC_ok .nil

def stO (b : List Int) : O := .cells (b.map vI) 0 3 true
/-- The store of the search. -/
def InC (l : List Inst) (b : List Int) (s : S) : Prop := s.wf ∧ 3 < s.next ∧ b.length = l.length ∧ s.get 0 = some (.cells [.list (l.map eX)] 0 22 true) ∧ s.get 1 = some (stO b) ∧
  s.get 2 = some (.cells [.arr 1 0 l.length 1 false (l.length + 1)] 0 37 true) ∧ s.get 3 = some (.cells [.func (.func 38) [] [.ptr 0 0, .ptr 2 0, .ptr 3 0]] 0 66 true)
theorem InC.uniq {l : List Inst} {b b' : List Int} {s : S} (h : InC l b s) (h' : InC l b' s) : b = b' := by
  have := h.2.2.2.2.1.symm.trans h'.2.2.2.2.1
  simp only [stO, Option.some.injEq, O.cells.injEq, and_true] at this
  exact vI_map_inj this
theorem InC.put {l : List Inst} {b b' : List Int} {s : S} (h : InC l b s) (hb : b'.length = l.length) : InC l b' (s.put 1 (stO b')) := by
  obtain ⟨h1, h2, h3, h4, h5, h6, h7⟩ := h
  refine ⟨wf_put' h1 (by omega) _, h2, hb, ?_, ?_, ?_, ?_⟩ <;> rw [S.get_put] <;> simp [*]
theorem InC.bump {l : List Inst} {b : List Int} {s : S} (h : InC l b s) (n : Nat) : InC l b ⟨s.next + n, s.tr⟩ := by
  obtain ⟨h1, h2, h3, h4, h5, h6, h7⟩ := h
  exact ⟨wf_bump' h1 n, by simp only; omega, h3, h4, h5, h6, h7⟩
theorem Kp.put {j : Nat} {s t : S} (h : Kp j s t) (o : O) : Kp j s (t.put j o) := ⟨h.1, fun i p hi hs => by rw [S.get_put, if_neg hi]; exact h.2 i p hi hs⟩
theorem Kp.bump {j : Nat} {s t : S} (h : Kp j s t) (n : Nat) : Kp j s ⟨t.next + n, t.tr⟩ := ⟨by have := h.1; simp only; omega, h.2⟩
theorem Kp.dropC {l : List Inst} {b : List Int} {s t : S} (hk : Kp 1 s t) (hw : s.wf) (hn : 3 < s.next) (h : InC l b t) : DropK s (s.put 1 (stO b)) t := drop_of hw hk (by omega) h.2.2.2.2.1

def D38 (l : List Inst) (n : Nat) (args : List V) (s : S) (v : V) (s2 : S) : Prop := ∃ (b : List Int) (i : Nat), args = [.int .i64 i, .ptr 0 0, .ptr 2 0, .ptr 3 0] ∧ InC l b s ∧ Sn l b ∧ b.count 0 < n ∧ i < l.length ∧ v = .bool (lk l n b i).1 ∧ s2 = s.put 1 (stO (lk l n b i).2)
def inds (l : List Inst) (ks : List Int) : Prop := ks.length ≤ 1000 ∧ ∀ k ∈ ks, 0 ≤ k ∧ k < l.length
def D60 (l : List Inst) (n : Nat) (args : List V) (s : S) (v : V) (s2 : S) : Prop := ∃ (b ks : List Int), args = [.list (ks.map vI), .func (.func 38) [] [.ptr 0 0, .ptr 2 0, .ptr 3 0]] ∧ InC l b s ∧ Sn l b ∧ b.count 0 < n ∧ inds l ks ∧ v = .int .i64 (lkL (lk l n) ks 0 b).1 ∧ s2 = s.put 1 (stO (lkL (lk l n) ks 0 b).2)
def D33 (l : List Inst) (n : Nat) (args : List V) (s : S) (v : V) (s2 : S) : Prop := ∃ (b ks : List Int), args = [.list (ks.map vI), .func (.func 38) [] [.ptr 0 0, .ptr 2 0, .ptr 3 0]] ∧ InC l b s ∧ Sn l b ∧ b.count 0 < n ∧ inds l ks ∧ v = .bool (decide (0 ≤ (lkL (lk l n) ks 0 b).1)) ∧ s2 = s.put 1 (stO (lkL (lk l n) ks 0 b).2)
theorem D38_u {l : List Inst} {n : Nat} : ∀ args s v s2 v' s2', D38 l n args s v s2 → D38 l n args s v' s2' → v = v' ∧ s2 = s2' := by
  rintro args s v s2 v' s2' ⟨b, i, rfl, h, _, _, _, rfl, rfl⟩ ⟨b', i', e, h', _, _, _, rfl, rfl⟩
  obtain rfl := h.uniq h'
  have : i = i' := by simp only [List.cons.injEq, V.int.injEq, true_and] at e; omega
  subst this
  exact ⟨rfl, rfl⟩
theorem D60_u {l : List Inst} {n : Nat} : ∀ args s v s2 v' s2', D60 l n args s v s2 → D60 l n args s v' s2' → v = v' ∧ s2 = s2' := by
  rintro args s v s2 v' s2' ⟨b, i, rfl, h, _, _, _, rfl, rfl⟩ ⟨b', i', e, h', _, _, _, rfl, rfl⟩
  obtain rfl := h.uniq h'
  simp only [List.cons.injEq, V.list.injEq, and_true] at e
  obtain rfl := vI_map_inj e
  exact ⟨rfl, rfl⟩
theorem D33_u {l : List Inst} {n : Nat} : ∀ args s v s2 v' s2', D33 l n args s v s2 → D33 l n args s v' s2' → v = v' ∧ s2 = s2' := by
  rintro args s v s2 v' s2' ⟨b, i, rfl, h, _, _, _, rfl, rfl⟩ ⟨b', i', e, h', _, _, _, rfl, rfl⟩
  obtain rfl := h.uniq h'
  simp only [List.cons.injEq, V.list.injEq, and_true] at e
  obtain rfl := vI_map_inj e
  exact ⟨rfl, rfl⟩
noncomputable abbrev cf38 (l : List Inst) (n : Nat) : CF := CF1 38 (ofD (D38 l n))
noncomputable abbrev cf60 (l : List Inst) (n : Nat) : CF := CF1 60 (ofD (D60 l n))
noncomputable abbrev cf33 (l : List Inst) (n : Nat) : CF := CF1 33 (ofD (D33 l n))
theorem call38 {l : List Inst} {n : Nat} {b : List Int} {s : S} (h : InC l b s) (hs : Sn l b) (hc : b.count 0 < n) {k : Int} (h0 : 0 ≤ k) (h1 : k < l.length) : callOp (st eC []) (cf38 l n) 38 [vI k, .ptr 0 0, .ptr 2 0, .ptr 3 0] s = some (.val (.bool (lk l n b k).1) (s.put 1 (stO (lk l n b k).2))) := by
  obtain ⟨i, rfl⟩ : ∃ i : Nat, k = i := ⟨k.toNat, by omega⟩
  exact callOp_cf (by simp [eC]) (by simp [puresD]) (ofD_at D38_u ⟨b, i, rfl, h, hs, hc, by omega, rfl, rfl⟩)
theorem call60 {l : List Inst} {n : Nat} {b : List Int} {s : S} (h : InC l b s) (hs : Sn l b) (hc : b.count 0 < n) {ks : List Int} (hk : inds l ks) : callOp (st eC []) (cf60 l n) 60 [.list (ks.map vI), .func (.func 38) [] [.ptr 0 0, .ptr 2 0, .ptr 3 0]] s = some (.val (.int .i64 (lkL (lk l n) ks 0 b).1) (s.put 1 (stO (lkL (lk l n) ks 0 b).2))) :=
  callOp_cf (by simp [eC]) (by simp [puresD]) (ofD_at D60_u ⟨b, ks, rfl, h, hs, hc, hk, rfl, rfl⟩)
theorem call33 {l : List Inst} {n : Nat} {b : List Int} {s : S} (h : InC l b s) (hs : Sn l b) (hc : b.count 0 < n) {ks : List Int} (hk : inds l ks) : callOp (st eC []) (cf33 l n) 33 [.list (ks.map vI), .func (.func 38) [] [.ptr 0 0, .ptr 2 0, .ptr 3 0]] s = some (.val (.bool (decide (0 ≤ (lkL (lk l n) ks 0 b).1))) (s.put 1 (stO (lkL (lk l n) ks 0 b).2))) :=
  callOp_cf (by simp [eC]) (by simp [puresD]) (ofD_at D33_u ⟨b, ks, rfl, h, hs, hc, hk, rfl, rfl⟩)
theorem sn_len {l : List Inst} {b : List Int} (h : Sn l b) : b.length = l.length := h.1

theorem c60 {l : List Inst} {n : Nat} (h38 : CFOk Tryd.prog (st eC []) (cf38 l n)) : CFOk Tryd.prog (st eC []) (cf60 l n) := by
  refine cf_of (sl := true) (sp := []) hcC h38 noSpE Tryd.func60 f60_eq f60_nt f60_fits ?_
  intro args s v s2 hF hw
  obtain ⟨b, ks, rfl, hC, hS, hc, hk, rfl, rfl⟩ := ofD_inv hF
  refine ⟨by simp, rfl, ?_⟩
  have hn := hC.2.1
  simp -implicitDefEqProofs (maxDischargeDepth := 9) [Nat.add_assoc, aFieldAddr, aField, aLoad, aStore, aIndexAddr, aIndex, aSlice, aLen, asInt, asIntO, cpOf, sub, splice, fillV, aBuildSlice, zerosV, aMakeSlice, aAppend, elemsOf, sliceOrStr, thaw, thawL, freshD, puresD, mapEnts, Int.natCast_inj, f60_ac]
  refine e_loopK (α := Nat × List Int) (fun a => [(0, .list (ks.map vI)), (1, .func (.func 38) [] [.ptr 0 0, .ptr 2 0, .ptr 3 0]), (7, .int .i64 ks.length), (8, .int .i64 a.1)]) (fun a t => InC l a.2 t ∧ Sn l a.2 ∧ a.2.count 0 < n ∧ a.1 ≤ ks.length ∧ lkL (lk l n) ks 0 b = lkL (lk l n) (ks.drop a.1) a.1 a.2 ∧ Kp 1 s t) (fun a => ks.length - a.1) (0, b) f60_l0_fits (by simp) ⟨hC, hS, hc, Nat.zero_le _, by simp, Kp.refl 1 s⟩ ?_
  rintro ⟨i, b'⟩ t ⟨hC', hS', hc', hi, he, hkp⟩
  simp only at hC' hS' hc' hi he
  have hl := hk.1
  rcases Nat.lt_or_ge i ks.length with h | h
  · have e1 := List.getElem?_eq_getElem h
    have e3 : IntKind.i64.wrap ((i : Int) + 1) = ((i + 1 : Nat) : Int) := wrap_ok (by omega) (by omega)
    have hkm := hk.2 _ (List.getElem_mem h)
    have hcall := call38 hC' hS' hc' hkm.1 hkm.2
    have hSn := lk_sn n b' ks[i] hS'
    have hcn := lk_count (l := l) n _ b' ks[i] (Nat.le_refl _)
    have hCn := hC'.put hSn.1
    cases hr : (lk l n b' ks[i]).1 with
    | true =>
      rw [hr] at hcall
      have hh := lkL_hit h hr (i : Int)
      simp -implicitDefEqProofs (maxDischargeDepth := 9) [Nat.add_assoc, aFieldAddr, aField, aLoad, aStore, aIndexAddr, aIndex, aSlice, aLen, asInt, asIntO, cpOf, sub, splice, fillV, aBuildSlice, zerosV, aMakeSlice, aAppend, elemsOf, sliceOrStr, thaw, thawL, freshD, puresD, mapEnts, Int.natCast_inj, f60_l0, h, e1, e3, hcall]
      rw [he, hh]
      exact ⟨rfl, (hkp.put _).dropC hw hn hCn⟩
    | false =>
      rw [hr] at hcall
      have hh := lkL_miss h hr (i : Int)
      simp -implicitDefEqProofs (maxDischargeDepth := 9) [Nat.add_assoc, aFieldAddr, aField, aLoad, aStore, aIndexAddr, aIndex, aSlice, aLen, asInt, asIntO, cpOf, sub, splice, fillV, aBuildSlice, zerosV, aMakeSlice, aAppend, elemsOf, sliceOrStr, thaw, thawL, freshD, puresD, mapEnts, Int.natCast_inj, f60_l0, h, e1, e3, hcall]
      refine ⟨i + 1, by omega, ⟨(lk l n b' ks[i]).2, hCn, hSn, by omega, by omega, by rw [he, hh]; simp, hkp.put _⟩, by simp⟩
  · have : i = ks.length := by omega
    subst this
    rw [lkL_end] at he
    simp -implicitDefEqProofs (maxDischargeDepth := 9) [Nat.add_assoc, aFieldAddr, aField, aLoad, aStore, aIndexAddr, aIndex, aSlice, aLen, asInt, asIntO, cpOf, sub, splice, fillV, aBuildSlice, zerosV, aMakeSlice, aAppend, elemsOf, sliceOrStr, thaw, thawL, freshD, puresD, mapEnts, Int.natCast_inj, f60_l0]
    rw [he]
    exact ⟨rfl, hkp.dropC hw hn hC'⟩
theorem c33 {l : List Inst} {n : Nat} (h60 : CFOk Tryd.prog (st eC []) (cf60 l n)) : CFOk Tryd.prog (st eC []) (cf33 l n) := by
  refine cf_of (sl := true) (sp := []) hcC h60 noSpE Tryd.func33 f33_eq f33_nt f33_fits ?_
  intro args s v s2 hF hw
  obtain ⟨b, ks, rfl, hC, hS, hc, hk, rfl, rfl⟩ := ofD_inv hF
  refine ⟨by simp, rfl, ?_⟩
  have hn := hC.2.1
  have hcall := call60 hC hS hc hk
  have hd := ((Kp.refl 1 s).put (stO (lkL (lk l n) ks 0 b).2)).dropC hw hn (hC.put (lkL_sn hS).1)
  simp -implicitDefEqProofs (maxDischargeDepth := 9) [Nat.add_assoc, aFieldAddr, aField, aLoad, aStore, aIndexAddr, aIndex, aSlice, aLen, asInt, asIntO, cpOf, sub, splice, fillV, aBuildSlice, zerosV, aMakeSlice, aAppend, elemsOf, sliceOrStr, thaw, thawL, freshD, puresD, mapEnts, Int.natCast_inj, f33_ac, hcall]
  exact hd
end Go.Proofs.YtedphjbgimkmlaaDoor.Ai

