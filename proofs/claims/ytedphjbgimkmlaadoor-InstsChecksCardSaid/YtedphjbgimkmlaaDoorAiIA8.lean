/- Part of a reckoning of a Go program over abstract values, proved sound against the model. -/
import Derived.Test.YtedphjbgimkmlaaDoorAiIA7
set_option linter.unusedSimpArgs false
set_option linter.unusedVariables false
namespace Go.Proofs.YtedphjbgimkmlaaDoor.Ai
open Go.Proofs
set_option maxRecDepth 100000
set_option maxHeartbeats 1000000

/-! sweeps over a table, for any rule -/
def stepG (r : List Bool → Inst → Bool) (b : List Bool) (i : Nat) (x : Inst) : List Bool := if (!bAt b i && r b x) = true then b.set i true else b
def swG (r : List Bool → Inst → Bool) (l : List Inst) (b : List Bool) : Nat → List Bool × Bool
  | 0 => (b, false)
  | i + 1 => match l[i]? with
    | some x => (stepG r (swG r l b i).1 i x, (swG r l b i).2 || (!bAt (swG r l b i).1 i && r (swG r l b i).1 x))
    | none => swG r l b i
def ruleV (b : List Bool) (x : Inst) : Bool := !decide (x.kind = 6) && (!decide (x.kind = 4) || x.alts.any (allB b))
def ruleR (b : List Bool) (x : Inst) : Bool := x.alts.any (allB b)
theorem step_len (r : List Bool → Inst → Bool) (b : List Bool) (i : Nat) (x : Inst) : (stepG r b i x).length = b.length := by
  unfold stepG; split <;> simp
theorem sw_len (r : List Bool → Inst → Bool) (l : List Inst) (b : List Bool) : ∀ i, (swG r l b i).1.length = b.length
  | 0 => rfl
  | i + 1 => by
    unfold swG
    split
    · rw [step_len, sw_len r l b i]
    · exact sw_len r l b i
theorem sw_succ {r : List Bool → Inst → Bool} {l : List Inst} {b0 b : List Bool} {c : Bool} {i : Nat} (h : i < l.length) (hs : swG r l b0 i = (b, c)) : swG r l b0 (i + 1) = (stepG r b i l[i], c || (!bAt b i && r b l[i])) := by
  conv => lhs; unfold swG
  rw [List.getElem?_eq_getElem h]
  simp only [hs]
theorem bAt_nat (b : List Bool) (i : Nat) : bAt b (i : Int) = (b[i]?).getD false := by simp [bAt]
theorem bAt_set (b : List Bool) (i : Nat) (v : Bool) (j : Int) : bAt (b.set i v) j = if j.toNat = i ∧ i < b.length then v else bAt b j := by
  unfold bAt
  by_cases h : j.toNat = i
  · subst h
    by_cases hl : j.toNat < b.length
    · simp [hl]
    · simp [hl, List.getElem?_eq_none (Nat.le_of_not_lt hl)]
  · have : ¬ i = j.toNat := fun e => h e.symm
    simp [h, List.getElem?_set, this]
/-- What is closed under the rule; what lies below all that is closed. -/
def Cl (l : List Inst) (b : List Bool) : Prop := b.length = l.length ∧ ∀ (i : Nat) x, l[i]? = some x → ruleV b x = true → bAt b i = true
def Lo (l : List Inst) (b : List Bool) : Prop := ∀ c, Cl l c → ∀ i : Int, bAt b i = true → bAt c i = true
theorem allB_mono {b c : List Bool} (h : ∀ i : Int, bAt b i = true → bAt c i = true) {a : Alt} (ha : allB b a = true) : allB c a = true := by
  simp only [allB, noB, Bool.not_eq_true', List.any_eq_false, Bool.not_eq_true] at ha ⊢
  intro k hk
  have := ha k hk
  have h2 := h k (by cases hb : bAt b k <;> simp_all)
  simp [h2]
theorem ruleV_mono {b c : List Bool} (h : ∀ i : Int, bAt b i = true → bAt c i = true) {x : Inst} (hx : ruleV b x = true) : ruleV c x = true := by
  unfold ruleV at hx ⊢
  simp only [Bool.and_eq_true, Bool.or_eq_true, List.any_eq_true] at hx ⊢
  refine ⟨hx.1, hx.2.imp id ?_⟩
  rintro ⟨a, ha, h2⟩
  exact ⟨a, ha, allB_mono h h2⟩
theorem lo_step {r : List Bool → Inst → Bool} {l : List Inst} {b : List Bool} {i : Nat} {x : Inst} (hr : r b x = true → ruleV b x = true) (hl : Lo l b) (hx : l[i]? = some x) : Lo l (stepG r b i x) := by
  intro c hc j hj
  unfold stepG at hj
  split at hj
  · rename_i h
    simp only [Bool.and_eq_true] at h
    rw [bAt_set] at hj
    split at hj
    · rename_i hji
      have := hc.2 i x hx (ruleV_mono (hl c hc) (hr h.2))
      unfold bAt at this ⊢
      rw [hji.1]
      simpa using this
    · exact hl c hc j hj
  · exact hl c hc j hj
theorem lo_sw {r : List Bool → Inst → Bool} {l : List Inst} (hr : ∀ b, ∀ x ∈ l, r b x = true → ruleV b x = true) {b : List Bool} (hl : Lo l b) : ∀ i, Lo l (swG r l b i).1
  | 0 => hl
  | i + 1 => by
    unfold swG
    split
    · rename_i x hx
      exact lo_step (hr _ x (List.mem_of_getElem? hx)) (lo_sw hr hl i) hx
    · exact lo_sw hr hl i
theorem step_up {r : List Bool → Inst → Bool} {b : List Bool} {i : Nat} {x : Inst} {j : Int} (h : bAt b j = true) : bAt (stepG r b i x) j = true := by
  unfold stepG
  split
  · rw [bAt_set]; split <;> simp [h]
  · exact h
theorem sw_up {r : List Bool → Inst → Bool} {l : List Inst} {b : List Bool} {j : Int} (h : bAt b j = true) : ∀ i, bAt (swG r l b i).1 j = true
  | 0 => h
  | i + 1 => by
    unfold swG
    split
    · exact step_up (sw_up h i)
    · exact sw_up h i
theorem step_count {r : List Bool → Inst → Bool} {b : List Bool} {i : Nat} {x : Inst} (hi : i < b.length) : (stepG r b i x).count false + (if (!bAt b i && r b x) = true then 1 else 0) = b.count false := by
  unfold stepG
  split
  · rename_i h
    simp only [Bool.and_eq_true, Bool.not_eq_true', bAt_nat, List.getElem?_eq_getElem hi, Option.getD_some] at h
    have hc : 0 < b.count false := List.count_pos_iff.2 (h.1 ▸ List.getElem_mem hi)
    rw [List.count_set hi]
    simp [h.1]
    omega
  · simp
theorem sw_count {r : List Bool → Inst → Bool} {l : List Inst} {b : List Bool} (hb : b.length = l.length) : ∀ i, (swG r l b i).1.count false + (if (swG r l b i).2 = true then 1 else 0) ≤ b.count false
  | 0 => by simp [swG]
  | i + 1 => by
    have ih := sw_count (r := r) hb i
    unfold swG
    split
    · rename_i x hx
      have hi : i < (swG r l b i).1.length := by rw [sw_len, hb]; exact (List.getElem?_eq_some_iff.1 hx).1
      have h1 := step_count (r := r) (x := x) hi
      simp only
      by_cases hg : (!bAt (swG r l b i).1 i && r (swG r l b i).1 x) = true
      · rw [if_pos hg] at h1
        simp only [hg, Bool.or_true, if_true]
        split at ih <;> omega
      · rw [if_neg hg] at h1
        simp only [Bool.not_eq_true] at hg
        simp only [hg, Bool.or_false]
        omega
    · exact ih
theorem sw_still {r : List Bool → Inst → Bool} {l : List Inst} {b : List Bool} : ∀ i, (swG r l b i).2 = false → (swG r l b i).1 = b ∧ ∀ j, j < i → ∀ x, l[j]? = some x → r b x = true → bAt b j = true
  | 0, _ => ⟨rfl, fun j hj => by omega⟩
  | i + 1, h => by
    unfold swG at h ⊢
    split at h
    · rename_i x hx
      simp only [Bool.or_eq_false_iff] at h
      obtain ⟨h1, h2⟩ := sw_still i h.1
      rw [h1] at h
      rw [h1]
      refine ⟨by simp [stepG, h.2], fun j hj y hy hr => ?_⟩
      rcases Nat.lt_or_ge j i with hji | hji
      · exact h2 j hji y hy hr
      · obtain rfl : j = i := by omega
        rw [hx] at hy
        injection hy with hy
        subst hy
        have := h.2
        rw [hr] at this
        cases hb : bAt b j <;> simp_all
    · rename_i hx
      obtain ⟨h1, h2⟩ := sw_still i h
      refine ⟨h1, fun j hj y hy hr => ?_⟩
      rcases Nat.lt_or_ge j i with hji | hji
      · exact h2 j hji y hy hr
      · obtain rfl : j = i := by omega
        rw [hx] at hy; cases hy
theorem cl_of_still {r : List Bool → Inst → Bool} {l : List Inst} {b : List Bool} (hb : b.length = l.length) (h : (swG r l b l.length).2 = false) (hr : ∀ (i : Nat) x, l[i]? = some x → ruleV b x = true → r b x = true ∨ bAt b i = true) : Cl l b := by
  refine ⟨hb, fun i x hx hv => ?_⟩
  rcases hr i x hx hv with h1 | h1
  · exact (sw_still l.length h).2 i (List.getElem?_eq_some_iff.1 hx).1 x hx h1
  · exact h1
theorem cl_unique {l : List Inst} {b c : List Bool} (h1 : Cl l b) (h2 : Lo l b) (h3 : Cl l c) (h4 : Lo l c) : b = c := by
  refine List.ext_getElem (h1.1.trans h3.1.symm) fun i hi hj => ?_
  have k1 := h2 c h3 i
  have k2 := h4 b h1 i
  rw [bAt_nat, bAt_nat, List.getElem?_eq_getElem hi, List.getElem?_eq_getElem hj] at k1
  rw [bAt_nat, bAt_nat, List.getElem?_eq_getElem hi, List.getElem?_eq_getElem hj] at k2
  simp only [Option.getD_some] at k1 k2
  cases hb : b[i] <;> cases hc : c[i] <;> simp_all
open Classical in
/-- Which insts have values. -/
noncomputable def vl (l : List Inst) : List Bool := if h : ∃ b, Cl l b ∧ Lo l b then Classical.choose h else []
theorem vl_eq {l : List Inst} {b : List Bool} (h1 : Cl l b) (h2 : Lo l b) : vl l = b := by
  have h : ∃ b, Cl l b ∧ Lo l b := ⟨b, h1, h2⟩
  unfold vl
  rw [dif_pos h]
  exact cl_unique (Classical.choose_spec h).1 (Classical.choose_spec h).2 h1 h2
theorem lo_none (l : List Inst) (n : Nat) : Lo l (List.replicate n false) := fun c _ i h => by
  simp only [bAt, List.getElem?_replicate] at h
  split at h <;> simp at h
def start17 (l : List Inst) : List Bool := l.map fun x => !decide (x.kind = 4) && !decide (x.kind = 6)
theorem bAt_start (l : List Inst) (i : Nat) (x : Inst) (hx : l[i]? = some x) : bAt (start17 l) i = (!decide (x.kind = 4) && !decide (x.kind = 6)) := by
  rw [bAt_nat]; simp [start17, hx]
theorem lo_start (l : List Inst) : Lo l (start17 l) := fun c hc i h => by
  cases hx : l[i.toNat]? with
  | none => simp [bAt, start17, hx] at h
  | some x =>
    have h' : bAt (start17 l) (i.toNat : Nat) = true := by unfold bAt at h ⊢; rw [Int.toNat_natCast]; exact h
    rw [bAt_start l _ x hx] at h'
    simp only [Bool.and_eq_true, Bool.not_eq_true', decide_eq_false_iff_not] at h'
    have := hc.2 i.toNat x hx (by simp [ruleV, h'.1, h'.2])
    unfold bAt at this ⊢; rw [Int.toNat_natCast] at this; exact this

def eV : List (FuncId × (List V → Option V)) := [(23, e23b)]
theorem eV_ok : TabOk Tryd.prog cfg0 eV := .cons t23b .nil
theorem zeros_bool : ∀ n : Nat, zerosV [.bool false] n = (List.replicate n false).map V.bool
  | 0 => rfl
  | n + 1 => by simp [zerosV, zeros_bool n, List.replicate_succ]
def InV (l : List Inst) (b : List Bool) (s : S) : Prop := s.wf ∧ 1 < s.next ∧ b.length = l.length ∧ s.get 1 = some (.cells [.arr 0 0 l.length 1 false (l.length + 1)] 0 25 true) ∧ s.get 0 = some (.cells (b.map V.bool) 0 4 true)
/-- What Check says of the arguments: they are indices, and few. -/
def goodV (l : List Inst) : Prop := ∀ x ∈ l, x.alts.length ≤ 1000 ∧ ∀ a ∈ x.alts, a.args.length ≤ 1000 ∧ ∀ k ∈ a.args, 0 ≤ k ∧ k < l.length
theorem goodV_at {l : List Inst} (hg : goodV l) {b : List Bool} (hb : b.length = l.length) {x : Inst} (hx : x ∈ l) : x.alts.all (goodA b) = true := by
  refine List.all_eq_true.2 fun a ha => ?_
  have := (hg x hx).2 a ha
  simp only [goodA, inBs, Bool.and_eq_true, decide_eq_true_eq, List.all_eq_true, inB]
  refine ⟨this.1, fun k hk => ?_⟩
  have := this.2 k hk
  exact ⟨this.1, by omega⟩
theorem e23b_at {l : List Inst} (hg : goodV l) {b : List Bool} (hb : b.length = l.length) {x : Inst} (hx : x ∈ l) : e23b [.list (x.alts.map eA), .func (.func 32) [] [.cptr [.list (b.map V.bool)] 0]] = some (.bool (x.alts.any (allB b))) := by
  simp only [e23b, dAs_map, dBs_map, Option.bind_some, (hg x hx).1, goodV_at hg hb hx, and_self, if_true]
theorem call23 {l : List Inst} (hg : goodV l) (hl : l.length ≤ 12) {b : List Bool} {s : S} (hi : InV l b s) {x : Inst} (hx : x ∈ l) : callOp (st eV []) (cf0 eV []) 23 [.list (x.alts.map eA), .func (.func 32) [] [.ptr 1 0]] s = some (.val (.bool (x.alts.any (allB b))) s) := by
  obtain ⟨hw, hn, hb, h1, h0⟩ := hi
  refine callOp_lent rfl rfl (see_clos h1 h0 hb.symm (by omega)) (by simp) ?_ rfl
  simp only [st_tab, eV, tabAt_cons, if_true]
  exact e23b_at hg hb hx
end Go.Proofs.YtedphjbgimkmlaaDoor.Ai

