/- Part of a reckoning of a Go program over abstract values, proved sound against the model. -/
import Derived.Test.YtedphjbgimkmlaaDoorAiIA8
import Derived.Test.YtedphjbgimkmlaaDoorAiT8
set_option linter.unusedSimpArgs false
set_option linter.unusedVariables false
namespace Go.Proofs.YtedphjbgimkmlaaDoor.Ai
open Go.Proofs
set_option maxRecDepth 100000

/-! the search for circles, in plain words -/
def endsX (x : Inst) : List Int := x.modes.flatMap fun m => [m.1, m.2]
def iAt (b : List Int) (i : Int) : Int := (b[i.toNat]?).getD 0
def lkL (f : List Int → Int → Bool × List Int) : List Int → Int → List Int → Int × List Int
  | [], _, b => (-1, b)
  | k :: ks, j, b => if (f b k).1 = true then (j, (f b k).2) else lkL f ks (j + 1) (f b k).2
def lk (l : List Inst) : Nat → List Int → Int → Bool × List Int
  | 0, b, _ => (false, b)
  | n + 1, b, i =>
    if iAt b i = 2 then (false, b) else if iAt b i = 1 then (true, b) else
    match l[i.toNat]? with
    | none => (false, b)
    | some x => if x.kind = 5 then
        if 0 ≤ (lkL (lk l n) (endsX x) 0 (b.set i.toNat 1)).1 then (true, (lkL (lk l n) (endsX x) 0 (b.set i.toNat 1)).2) else (false, (lkL (lk l n) (endsX x) 0 (b.set i.toNat 1)).2.set i.toNat 2)
      else (false, b)
/-- What the state of a search says. -/
def Sn (l : List Inst) (b : List Int) : Prop := b.length = l.length ∧ ∀ (i : Nat) x, l[i]? = some x → iAt b i = 0 ∨ ((iAt b i = 1 ∨ iAt b i = 2) ∧ x.kind = 5)
theorem iAt_set (b : List Int) (i : Nat) (v : Int) (j : Int) : iAt (b.set i v) j = if j.toNat = i ∧ i < b.length then v else iAt b j := by
  unfold iAt
  by_cases h : j.toNat = i
  · subst h
    by_cases hl : j.toNat < b.length
    · simp [hl]
    · simp [hl, List.getElem?_eq_none (Nat.le_of_not_lt hl)]
  · have : ¬ i = j.toNat := fun e => h e.symm
    simp [h, List.getElem?_set, this]
theorem sn_set {l : List Inst} {b : List Int} (h : Sn l b) {i : Nat} {x : Inst} (hx : l[i]? = some x) (hk : x.kind = 5) {v : Int} (hv : v = 1 ∨ v = 2) : Sn l (b.set i v) := by
  refine ⟨by simpa using h.1, fun j y hy => ?_⟩
  rw [iAt_set]
  split
  · rename_i hj
    rw [Int.toNat_natCast] at hj
    rw [hj.1, hx] at hy
    injection hy with hy
    subst hy
    exact .inr ⟨hv, hk⟩
  · exact h.2 j y hy
theorem lkL_inv {f : List Int → Int → Bool × List Int} {p : List Int → Prop} (hf : ∀ b k, p b → p (f b k).2) : ∀ (ks : List Int) (j : Int) (b : List Int), p b → p (lkL f ks j b).2
  | [], _, b, h => h
  | k :: ks, j, b, h => by
    unfold lkL
    split
    · exact hf b k h
    · exact lkL_inv hf ks (j + 1) _ (hf b k h)
theorem lk_sn {l : List Inst} : ∀ (n : Nat) (b : List Int) (i : Int), Sn l b → Sn l (lk l n b i).2
  | 0, b, i, h => h
  | n + 1, b, i, h => by
    unfold lk
    split
    · exact h
    split
    · exact h
    split
    · exact h
    rename_i x hx
    split
    · rename_i hk
      have hs := lkL_inv (lk_sn n) (endsX x) 0 _ (sn_set h hx hk (.inl rfl))
      split
      · exact hs
      · exact sn_set hs hx hk (.inr rfl)
    · exact h
theorem count_le_set {b : List Int} {i : Nat} {v : Int} (hv : ¬ v = 0) : (b.set i v).count 0 ≤ b.count 0 := by
  by_cases hi : i < b.length
  · rw [List.count_set hi]
    have : (v == 0) = false := by simpa using hv
    simp only [this]
    split <;> simp
  · rw [List.set_eq_of_length_le (by omega)]; exact Nat.le_refl _
theorem count_set_lt {b : List Int} {i : Nat} {v : Int} (hv : ¬ v = 0) (hi : i < b.length) (h0 : iAt b i = 0) : (b.set i v).count 0 + 1 = b.count 0 := by
  rw [List.count_set hi]
  have : (v == 0) = false := by simpa using hv
  have h : b[i] = 0 := by simpa [iAt, List.getElem?_eq_getElem hi] using h0
  have hc : 0 < b.count 0 := List.count_pos_iff.2 (h ▸ List.getElem_mem hi)
  simp only [this, h]
  simp
  omega
theorem lk_count {l : List Inst} : ∀ (n : Nat) (m : Nat) (b : List Int) (i : Int), b.count 0 ≤ m → (lk l n b i).2.count 0 ≤ m
  | 0, m, b, i, h => h
  | n + 1, m, b, i, h => by
    unfold lk
    split
    · exact h
    split
    · exact h
    split
    · exact h
    rename_i x hx
    split
    · have hs := lkL_inv (f := lk l n) (p := fun b => b.count 0 ≤ m) (fun b k => lk_count n m b k) (endsX x) 0 (b.set i.toNat 1) (Nat.le_trans (count_le_set (by omega)) h)
      split
      · exact hs
      · exact Nat.le_trans (count_le_set (by omega)) hs
    · exact h
theorem lkL_sn {l : List Inst} {n : Nat} {ks : List Int} {j : Int} {b : List Int} (h : Sn l b) : Sn l (lkL (lk l n) ks j b).2 := lkL_inv (lk_sn n) ks j b h
theorem lkL_count {l : List Inst} {n m : Nat} {ks : List Int} {j : Int} {b : List Int} (h : b.count 0 ≤ m) : (lkL (lk l n) ks j b).2.count 0 ≤ m := lkL_inv (p := fun b => b.count 0 ≤ m) (fun b k => lk_count n m b k) ks j b h
theorem lkL_hit {f : List Int → Int → Bool × List Int} {ks : List Int} {i : Nat} {b : List Int} (h : i < ks.length) (hp : (f b ks[i]).1 = true) (j : Int) : lkL f (ks.drop i) j b = (j, (f b ks[i]).2) := by
  rw [List.drop_eq_getElem_cons h, lkL, if_pos hp]
theorem lkL_miss {f : List Int → Int → Bool × List Int} {ks : List Int} {i : Nat} {b : List Int} (h : i < ks.length) (hp : (f b ks[i]).1 = false) (j : Int) : lkL f (ks.drop i) j b = lkL f (ks.drop (i + 1)) (j + 1) (f b ks[i]).2 := by
  rw [List.drop_eq_getElem_cons h, lkL, if_neg (by rw [hp]; decide)]
theorem lkL_end {f : List Int → Int → Bool × List Int} {ks : List Int} {b : List Int} (j : Int) : lkL f (ks.drop ks.length) j b = (-1, b) := by
  rw [List.drop_length]; rfl
theorem lkL_shift {f : List Int → Int → Bool × List Int} : ∀ {ks : List Int} {j j' : Int} {b : List Int}, 0 ≤ j → 0 ≤ j' → (lkL f ks j b).2 = (lkL f ks j' b).2 ∧ (0 ≤ (lkL f ks j b).1 ↔ 0 ≤ (lkL f ks j' b).1)
  | [], j, j', b, h, h' => ⟨rfl, by simp [lkL]⟩
  | k :: ks, j, j', b, h, h' => by
    unfold lkL
    split
    · exact ⟨rfl, by simp [h, h']⟩
    · exact lkL_shift (by omega) (by omega)
/-- What Check says of the modes: they are indices, and few. -/
def goodM (l : List Inst) : Prop := ∀ x ∈ l, x.modes.length ≤ 400 ∧ ∀ k ∈ endsX x, 0 ≤ k ∧ k < l.length
def idxs (l : List Inst) : List Int := (List.range l.length).map fun i : Nat => (i : Int)
def circ (l : List Inst) : Bool := decide (0 ≤ (lkL (lk l 20) (idxs l) 0 (List.replicate l.length 0)).1)
theorem endsX_len (x : Inst) : (endsX x).length = 2 * x.modes.length := by
  unfold endsX
  induction x.modes with
  | nil => rfl
  | cons a l ih => simp [ih]; omega
theorem vI_inj {a b : Int} (h : vI a = vI b) : a = b := by simpa [vI] using h
theorem vI_map_inj : ∀ {l m : List Int}, l.map vI = m.map vI → l = m
  | [], [], _ => rfl
  | [], _ :: _, h => by simp at h
  | _ :: _, [], h => by simp at h
  | a :: l, b :: m, h => by
    simp only [List.map_cons, List.cons.injEq] at h
    rw [vI_inj h.1, vI_map_inj h.2]

/-! functions told by a relation -/
open Classical in
noncomputable def ofD (D : List V → S → V → S → Prop) (args : List V) (s : S) : Option (V × S) := if h : ∃ p : V × S, D args s p.1 p.2 then some (Classical.choose h) else none
theorem ofD_inv {D : List V → S → V → S → Prop} {args : List V} {s : S} {v : V} {s2 : S} (h : ofD D args s = some (v, s2)) : D args s v s2 := by
  unfold ofD at h
  split at h
  · rename_i he
    have := Classical.choose_spec he
    injection h with h
    rw [h] at this
    exact this
  · cases h
theorem ofD_at {D : List V → S → V → S → Prop} (hu : ∀ args s v s2 v' s2', D args s v s2 → D args s v' s2' → v = v' ∧ s2 = s2') {args : List V} {s : S} {v : V} {s2 : S} (h : D args s v s2) : ofD D args s = some (v, s2) := by
  have he : ∃ p : V × S, D args s p.1 p.2 := ⟨(v, s2), h⟩
  unfold ofD
  rw [dif_pos he]
  have := hu _ _ _ _ _ _ (Classical.choose_spec he) h
  congr 1
  exact Prod.ext this.1 this.2
/-- What is kept of a store, but for one object. -/
def Kp (j : Nat) (s t : S) : Prop := s.next ≤ t.next ∧ ∀ i o, i ≠ j → s.get i = some o → t.get i = some o
theorem Kp.refl (j : Nat) (s : S) : Kp j s s := ⟨Nat.le_refl _, fun _ _ _ h => h⟩
theorem drop_of {j : Nat} {s t : S} {b : List Int} {ty : TypeId} (hw : s.wf) (hk : Kp j s t) (hj : j < s.next) (h1 : t.get j = some (.cells (b.map vI) 0 ty true)) : DropK s (s.put j (.cells (b.map vI) 0 ty true)) t := by
  refine ⟨Nat.le_refl _, fun i o hi => ?_⟩
  rw [S.get_put] at hi
  split at hi
  · rename_i e
    subst e
    injection hi with hi
    subst hi
    exact ⟨h1, hj, .inr (belL_map vI _ (fun _ => rfl) b)⟩
  · rename_i e
    refine ⟨hk.2 i o e hi, ?_, .inl hi⟩
    rcases Nat.lt_or_ge i s.next with h | h
    · exact h
    · rw [hw i h] at hi; cases hi
theorem callOp_cf {cfg : Cfg} {f : FuncId} {F : List V → S → Option (V × S)} {args : List V} {s s2 : S} {v : V} (ht : cfg.tab f args = none) (hp : cfg.pure f = 0) (h : F args s = some (v, s2)) : callOp cfg (CF1 f F) f args s = some (.val v s2) := by
  unfold callOp
  simp [ht, hp, CF1, h]
end Go.Proofs.YtedphjbgimkmlaaDoor.Ai

namespace Go.Proofs.YtedphjbgimkmlaaDoor.Ai
open Go.Proofs
set_option maxRecDepth 100000
set_option maxHeartbeats 4000000

theorem seeL_vI {s : S} : ∀ (x : List Int) (k : Nat), x.length + 2 ≤ k → seeL k s (x.map vI) = some (x.map vI)
  | [], k + 1, _ => by simp [seeL]
  | a :: x, k + 1, h => by
    simp only [List.length_cons] at h
    obtain ⟨k, rfl⟩ : ∃ m, k = m + 1 := ⟨k - 1, by omega⟩
    rw [List.map_cons]
    unfold seeL
    rw [seeL_vI x (k + 1) (by omega)]
    rfl
theorem chunk_vI : ∀ x : List Int, chunk false 1 x.length (x.map vI) = x.map vI
  | [] => rfl
  | a :: x => by simp [chunk, chunk_vI x]
theorem see_arrI {s : S} {id n cp : Nat} {t : TypeId} {ex : Bool} {x : List Int} {k : Nat} (hg : s.get id = some (.cells (x.map vI) 0 t ex)) (hn : n = x.length) (hk : x.length + 3 ≤ k) : see k s (.arr id 0 n 1 false cp) = some (.list (x.map vI)) := by
  obtain ⟨k, rfl⟩ : ∃ m, k = m + 1 := ⟨k - 1, by omega⟩
  subst hn
  unfold see
  rw [hg]
  simp only [Nat.mul_one, List.drop_zero, List.length_map, Nat.zero_add]
  rw [List.take_of_length_le (by simp), seeL_vI x k (by omega)]
  simp [chunk_vI]

theorem endsX_take (x : Inst) (i : Nat) (h : i < x.modes.length) : (x.modes.take (i + 1)).flatMap (fun m => [m.1, m.2]) = (x.modes.take i).flatMap (fun m => [m.1, m.2]) ++ [x.modes[i].1, x.modes[i].2] := by
  rw [List.take_succ_eq_append_getElem h, List.flatMap_append]; rfl
/-- What was appended so far. -/
def Sl (s : S) (v : V) (L : List Int) : Prop := (v = .nils ∧ L = []) ∨ ∃ id cp, id < s.next ∧ v = .arr id 0 L.length 1 false cp ∧ s.get id = some (.cells (L.map vI) 0 3 false)
theorem p39 (x : Inst) (hm : x.modes.length ≤ 400) : PureOk Tryd.prog cfg0 39 [eX x] (.list ((endsX x).map vI)) := by
  have hc := st_ok (e := []) (f := []) .nil .nil
  refine PureOk.cfg (cfg := st [] []) rfl ?_
  refine pure_of (sl := true) hc (cf0_ok hc) noSpE Tryd.func39 f39_eq f39_nt f39_fits (by simp) (by simp) ?_
  simp -implicitDefEqProofs (maxDischargeDepth := 9) [Nat.add_assoc, aFieldAddr, aField, aLoad, aStore, aIndexAddr, aIndex, aSlice, aLen, asInt, asIntO, cpOf, sub, splice, fillV, aBuildSlice, zerosV, aMakeSlice, aAppend, elemsOf, sliceOrStr, thaw, thawL, freshD, puresD, mapEnts, Int.natCast_inj, f39_ac, eX]
  refine e_loopK (α := Nat × V) (fun a => [(3, a.2), (7, .list (x.modes.map eM)), (8, .int .i64 x.modes.length), (9, .int .i64 a.1)]) (fun a s => s.wf ∧ a.1 ≤ x.modes.length ∧ Sl s a.2 ((x.modes.take a.1).flatMap fun m => [m.1, m.2])) (fun a => x.modes.length - a.1) (0, .nils) f39_l0_fits (by simp) ⟨by simp, Nat.zero_le _, .inl ⟨rfl, rfl⟩⟩ ?_
  rintro ⟨i, v⟩ s ⟨hw, hi, ht⟩
  simp only at hi ht ⊢
  rcases Nat.lt_or_ge i x.modes.length with h | h
  · have e1 := List.getElem?_eq_getElem h
    have e3 : IntKind.i64.wrap ((i : Int) + 1) = ((i + 1 : Nat) : Int) := wrap_ok (by omega) (by omega)
    have hL : ((x.modes.take i).flatMap fun m => [m.1, m.2]).length = 2 * i := by
      have := endsX_len ⟨0, [], x.modes.take i, 0⟩
      simp only [endsX] at this
      rw [this, List.length_take, Nat.min_eq_left hi]
    have hnext := endsX_take x i h
    generalize hLe : (x.modes.take i).flatMap (fun m => [m.1, m.2]) = L at ht hL hnext
    have hlay : ∀ (t : S) (a b : Int), layIf true t [vI a, vI b] = some ([vI a, vI b], t) := fun t a b => rfl
    rcases ht with ⟨rfl, rfl⟩ | ⟨id, cp, hid, rfl, hgt⟩
    · simp -implicitDefEqProofs (maxDischargeDepth := 9) [Nat.add_assoc, aFieldAddr, aField, aLoad, aStore, aIndexAddr, aIndex, aSlice, aLen, asInt, asIntO, cpOf, sub, splice, fillV, aBuildSlice, zerosV, aMakeSlice, aAppend, elemsOf, sliceOrStr, thaw, thawL, freshD, puresD, mapEnts, Int.natCast_inj, f39_l0, h, hw, e1, e3, eM, hlay]
      refine ⟨i + 1, by omega, .arr (s.next + 2) 0 2 1 false 0, ⟨by omega, .inr ⟨s.next + 2, 0, by simp, by rw [hnext]; rfl, ?_⟩⟩, by simp⟩
      rw [hnext]; simp
    · have h4 : (2 * i + 2) * 8 ≤ 140737488355328 := by omega
      have h5 : 2 * i ≤ 140737488355326 := by omega
      have h6 : ¬ id = s.next + 1 := by omega
      have h7 : ¬ id = s.next := by omega
      have h8 : ((L.map vI).take (2 * i)) = L.map vI := List.take_of_length_le (by simp [hL])
      simp -implicitDefEqProofs (maxDischargeDepth := 9) [Nat.add_assoc, aFieldAddr, aField, aLoad, aStore, aIndexAddr, aIndex, aSlice, aLen, asInt, asIntO, cpOf, sub, splice, fillV, aBuildSlice, zerosV, aMakeSlice, aAppend, elemsOf, sliceOrStr, thaw, thawL, freshD, puresD, mapEnts, Int.natCast_inj, f39_l0, h, hw, e1, e3, eM, hgt, hid, hL, hlay, h4, h5, h6, h7, h8]
      refine ⟨i + 1, by omega, .arr (s.next + 2) 0 (2 * i + 2) 1 false (if 2 * i + 2 < cp then cp else 0), ⟨by omega, .inr ⟨s.next + 2, (if 2 * i + 2 < cp then cp else 0), by simp, by rw [hnext]; simp [hL], ?_⟩⟩, by simp⟩
      rw [hnext]; simp
  · have : i = x.modes.length := by omega
    subst this
    simp -implicitDefEqProofs (maxDischargeDepth := 9) [Nat.add_assoc, aFieldAddr, aField, aLoad, aStore, aIndexAddr, aIndex, aSlice, aLen, asInt, asIntO, cpOf, sub, splice, fillV, aBuildSlice, zerosV, aMakeSlice, aAppend, elemsOf, sliceOrStr, thaw, thawL, freshD, puresD, mapEnts, Int.natCast_inj, f39_l0, hw]
    rw [List.take_length] at ht
    rcases ht with ⟨rfl, h0⟩ | ⟨id, cp, hid, rfl, hgt⟩
    · have : endsX x = [] := h0
      rw [this]
      exact ⟨rfl, rfl⟩
    · have hl := endsX_len x
      refine ⟨see_arrI hgt rfl ?_, by simp⟩
      have hf : FUEL = 100000 := rfl
      rw [hl, hf]
      omega
end Go.Proofs.YtedphjbgimkmlaaDoor.Ai

