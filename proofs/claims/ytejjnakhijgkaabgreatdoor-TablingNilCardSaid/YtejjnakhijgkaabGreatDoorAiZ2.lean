/- Part of a reckoning of a Go program over abstract values, proved sound against the model. -/
import Derived.Test.YtejjnakhijgkaabGreatDoorAiZ1
namespace Go.Proofs.YtejjnakhijgkaabGreatDoor.Ai

/-! types of plain data -/
def plainTy (P : Program) (L : List TypeId) (t : TypeId) : Bool := match P.underlying t with
  | some .bool | some (.int _) | some .string => true
  | some (.slice e) => L.contains e && decide (P.cellsOf e ≠ 0) && (aggT P e || decide (P.cellsOf e = 1))
  | some (.struct fs) => decide (tight P 0 fs.toList = some (P.cellsOf t)) && fs.toList.all fun f => L.contains f.type
  | some (.array n e) => L.contains e && decide (P.cellsOf t = n * P.cellsOf e)
  | _ => false

def plainTys (P : Program) (L : List TypeId) : Bool := L.all (plainTy P L)

section
variable {H : Type} {enc : TypeId × Value → H} {P : Program} {w : World} {sp : Nat → Bool} {held' : Bool}

theorem elemsV_ex {ag : Bool} {f : DataW H → Option (List V)} : ∀ (l : List (DataW H)), (∀ d ∈ l, ∃ vs, f d = some vs) → ∃ r, elemsV ag f l = some r
  | [], _ => ⟨[], rfl⟩
  | d :: l, h => by
    obtain ⟨c, hc⟩ := h d (by simp)
    obtain ⟨r, hr⟩ := elemsV_ex (ag := ag) l fun d hd => h d (by simp [hd])
    exact ⟨pair ag c :: r, by simp [elemsV, hc, hr]⟩

theorem catV_ex : ∀ (gs : List (DataW H → Option (List V))) (l : List (DataW H)), gs.length = l.length → (∀ (i : Nat) (g : DataW H → Option (List V)) (d : DataW H), gs[i]? = some g → l[i]? = some d → ∃ vs, g d = some vs) → ∃ r, catV gs l = some r
  | [], [], _, _ => ⟨[], rfl⟩
  | g :: gs, d :: l, hl, h => by
    obtain ⟨c, hc⟩ := h 0 g d rfl rfl
    obtain ⟨r, hr⟩ := catV_ex gs l (by simpa using hl) fun i g d h1 h2 => h (i + 1) g d (by simpa using h1) (by simpa using h2)
    exact ⟨c ++ r, by simp [catV, hc, hr]⟩
  | [], _ :: _, h, _ => by simp at h
  | _ :: _, [], h, _ => by simp at h

theorem plain_ex {L : List TypeId} (hL : plainTys P L = true) : ∀ (n : Nat) (t : TypeId) (cs : List Value) (d : DataW H) (p : List MemPlace), t ∈ L → DataW.trod enc P w 0 sp held' n t cs = some (d, p) → ∃ vs, vcells P n t d = some vs := by
  intro n
  induction n with
  | zero => intro t cs d p _ h; simp [DataW.trod] at h
  | succ n ih =>
    intro t cs d p ht h
    have hp := List.all_eq_true.1 hL t ht
    unfold plainTy at hp
    split at hp
    · rename_i hu
      obtain ⟨b, _, hx⟩ := DataW.trod_bool hu h
      obtain ⟨rfl, _⟩ := Prod.mk.inj hx
      exact ⟨[.bool b], by simp only [vcells, hu]⟩
    · rename_i k hu
      obtain ⟨m, _, hx, _⟩ := DataW.trod_int hu h
      obtain ⟨rfl, _⟩ := Prod.mk.inj hx
      exact ⟨[.int k m], by simp only [vcells, hu]⟩
    · rename_i hu
      obtain ⟨s, _, hx, _⟩ := DataW.trod_string hu h
      obtain ⟨rfl, _⟩ := Prod.mk.inj hx
      exact ⟨_, by simp only [vcells, hu]; rfl⟩
    · rename_i e hu
      simp only [Bool.and_eq_true, List.contains_eq_mem, decide_eq_true_eq, Bool.or_eq_true] at hp
      rcases DataW.trod_slice hu h with ⟨_, hx⟩ | ⟨a, len, cap, elems, rest, n', hn, rfl, hx, _, _, _, hel, hcell, _⟩
      · obtain ⟨rfl, _⟩ := Prod.mk.inj hx
        exact ⟨[.nils], by simp only [vcells, hu]⟩
      · obtain ⟨rfl, _⟩ := Prod.mk.inj hx
        obtain rfl : n' = n := by omega
        obtain ⟨r, hr⟩ := elemsV_ex (ag := aggT P e) (f := vcells P n' e) (elems.map (·.1)) fun d hd => by
          obtain ⟨⟨d', p'⟩, hm, rfl⟩ := List.mem_map.1 hd
          obtain ⟨i, hi⟩ := List.getElem?_of_mem hm
          have hlt : i < len := by rw [← hel]; exact (List.getElem?_eq_some_iff.1 hi).1
          have h1 := hcell i hlt
          rw [hi] at h1
          simp only [Option.bind_eq_some_iff] at h1
          obtain ⟨cs, _, h3⟩ := h1
          exact ih e cs d' p' hp.1.1 h3
        refine ⟨[.list r], ?_⟩
        simp only [vcells, hu]
        rw [if_pos ⟨hp.1.2, hp.2⟩, hr]
        rfl
    · rename_i fs hu
      simp only [Bool.and_eq_true, decide_eq_true_eq, List.all_eq_true, List.contains_eq_mem] at hp
      obtain ⟨xs, n', hn, hx, hlen, hxl, hxs⟩ := DataW.trod_struct hu h
      obtain ⟨rfl, _⟩ := Prod.mk.inj hx
      obtain rfl : n' = n := by omega
      obtain ⟨r, hr⟩ := catV_ex (fs.toList.map fun f => vcells P n' f.type) (xs.map (·.1)) (by simp [hxl]) fun i g d h1 h2 => by
        simp only [List.getElem?_map, Option.map_eq_some_iff] at h1 h2
        obtain ⟨f, hf, rfl⟩ := h1
        obtain ⟨⟨d', p'⟩, hd, rfl⟩ := h2
        have hfa : fs[i]? = some f := by rw [← Array.getElem?_toList]; exact hf
        have h3 := hxs i f hfa
        rw [hd] at h3
        exact ih f.type _ d' p' (hp.2 f (List.mem_of_getElem? hf)) h3
      refine ⟨r, ?_⟩
      simp only [vcells, hu]
      rw [if_pos hp.1, hr]
    · rename_i m e hu
      simp only [Bool.and_eq_true, decide_eq_true_eq, List.contains_eq_mem] at hp
      obtain ⟨xs, n', hn, hx, hlen, hxl, hxs⟩ := trod_array hu h
      obtain ⟨rfl, _⟩ := Prod.mk.inj hx
      obtain rfl : n' = n := by omega
      obtain ⟨r, hr⟩ := catV_ex (List.replicate m (vcells P n' e)) (xs.map (·.1)) (by simp [hxl]) fun i g d h1 h2 => by
        rw [List.getElem?_replicate] at h1
        split at h1
        · rename_i hi
          injection h1 with h1; subst h1
          simp only [List.getElem?_map, Option.map_eq_some_iff] at h2
          obtain ⟨⟨d', p'⟩, hd, rfl⟩ := h2
          have h3 := hxs i hi
          rw [hd] at h3
          exact ih e _ d' p' hp.1 h3
        · cases h1
      exact ⟨r, by simp only [vcells, hu]; rw [if_pos hp.2, hr]⟩
    · cases hp

/-- What is read of plain data, and the values. -/
theorem plain_ok {L : List TypeId} (hL : plainTys P L = true) {t : TypeId} (ht : t ∈ L) {v : Value} {d : DataW H} {p : List MemPlace} (h : DataW.Trod enc P w 0 sp held' t v d p) :
    ∃ N vs, vcells P N t d = some vs ∧ RepL (start w) vs v.cells.toList ∧ ∀ u ∈ vs, u.one = true := by
  obtain ⟨n, hn⟩ := h
  obtain ⟨vs, hv⟩ := plain_ex hL n t v.cells.toList d p ht hn
  exact ⟨n, vs, hv, vcells_ok n n t v.cells.toList d p vs hn hv⟩

/-! what a value of plain data looks like -/
theorem v_int {N : Nat} {t : TypeId} {d : DataW H} {vs : List V} {k : IntKind} (hu : P.underlying t = some (.int k)) (h : vcells P N t d = some vs) : ∃ k' n, d = .lit (.int k' n) ∧ vs = [.int k' n] := by
  cases N with
  | zero => cases h
  | succ N =>
    unfold vcells at h
    rw [hu] at h
    split at h <;> simp_all
    exact ⟨_, _, ⟨rfl, rfl⟩, h.symm⟩
theorem v_str {N : Nat} {t : TypeId} {d : DataW H} {vs : List V} (hu : P.underlying t = some .string) (h : vcells P N t d = some vs) : ∃ s, vs = [.str s] := by
  cases N with
  | zero => cases h
  | succ N =>
    unfold vcells at h
    rw [hu] at h
    split at h <;> simp_all
    exact ⟨_, h.symm⟩
theorem v_slice {N : Nat} {t e : TypeId} {d : DataW H} {vs : List V} (hu : P.underlying t = some (.slice e)) (h : vcells P N t d = some vs) :
    vs = [.nils] ∨ ∃ N' es l, elemsV (aggT P e) (vcells (H := H) P N' e) es = some l ∧ vs = [.list l] := by
  cases N with
  | zero => cases h
  | succ N =>
    unfold vcells at h
    rw [hu] at h
    split at h <;> simp_all
    obtain ⟨_, l, hl, rfl⟩ := h
    exact .inr ⟨_, _, l, hl, rfl⟩
theorem v_struct {N : Nat} {t : TypeId} {fs : Array Field} {d : DataW H} {vs : List V} (hu : P.underlying t = some (.struct fs)) (h : vcells P N t d = some vs) :
    ∃ N' ps, catV (fs.toList.map fun f => vcells (H := H) P N' f.type) ps = some vs := by
  cases N with
  | zero => cases h
  | succ N =>
    unfold vcells at h
    rw [hu] at h
    split at h <;> simp_all
    exact ⟨N, _, h.2⟩
theorem catV_cons {f : DataW H → Option (List V)} {fs : List (DataW H → Option (List V))} {ds : List (DataW H)} {vs : List V} (h : catV (f :: fs) ds = some vs) :
    ∃ d ds' c r, ds = d :: ds' ∧ f d = some c ∧ catV fs ds' = some r ∧ vs = c ++ r := by
  cases ds with
  | nil => simp [catV] at h
  | cons d ds =>
    simp only [catV] at h
    split at h
    · rename_i c r h1 h2
      injection h with h
      exact ⟨d, ds, c, r, rfl, h1, h2, h.symm⟩
    · cases h
theorem catV_nil {ds : List (DataW H)} {vs : List V} (h : catV [] ds = some vs) : vs = [] := by
  cases ds with
  | nil => simp [catV] at h; exact h
  | cons d ds => simp [catV] at h
end
end Go.Proofs.YtejjnakhijgkaabGreatDoor.Ai
