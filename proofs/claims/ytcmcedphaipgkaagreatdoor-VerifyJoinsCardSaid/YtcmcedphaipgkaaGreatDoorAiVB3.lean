/- Part of a reckoning of a Go program over abstract values, proved sound against the model. -/
import Derived.Test.YtcmcedphaipgkaaGreatDoorAiVB2
import Derived.Test.YtcmcedphaipgkaaGreatDoorAiZ2
set_option linter.unusedSimpArgs false
set_option linter.unusedVariables false
namespace Go.Proofs.YtcmcedphaipgkaaGreatDoor.Ai
noncomputable section
open Go.Proofs
open Go.RowKit (Below)
set_option maxRecDepth 100000

theorem pure_true {P : Program} {cfg : Cfg} {f : FuncId} {args : List V} (h : PureOk P cfg f args (.bool true)) {w : World} (hg : GOk cfg (start w)) {cargs : List Value} (ha : RepL (start w) args cargs) :
    Calls P f cargs.toArray w fun e w' => e = .returned (.bool true) ∧ Below w.heap.size w w' := by
  refine (h (start w) cargs hg (start_rel w) ha).mono ?_
  rintro E w' ⟨y, c, rfl, h1, _, _, _, rfl, hr⟩
  cases hr
  exact ⟨rfl, start_below h1⟩

/-- Nil slices as empty ones. -/
def full : V → V
  | .nils => .list []
  | v => v
theorem rep_full {x : Cx} {v : V} {c : Value} (h : Rep x v c) : Rep x (full v) c := by
  unfold full
  split
  · cases h; exact .lempty _ _
  · exact h
theorem repL_full {x : Cx} : ∀ {vs : List V} {cs : List Value}, RepL x vs cs → RepL x (vs.map full) cs
  | [], _, h => by cases h; exact .nil
  | v :: vs, _, h => by cases h with | cons h1 h2 => exact .cons (rep_full h1) (repL_full h2)

section
variable {H : Type} {P : Program}
theorem elems_int {N : Nat} {e : TypeId} (hu : P.underlying e = some (.int .i64)) : ∀ {es : List (DataW H)} {l : List V}, elemsV false (vcells P N e) es = some l → ∃ xs : List Int, l = xs.map vI
  | [], l, h => by simp [elemsV] at h; subst h; exact ⟨[], rfl⟩
  | d :: es, l, h => by
    simp only [elemsV] at h
    split at h
    · rename_i c r h1 h2
      injection h with h; subst h
      obtain ⟨n, _, rfl⟩ := v_int hu h1
      obtain ⟨xs, rfl⟩ := elems_int hu h2
      exact ⟨n :: xs, rfl⟩
    · cases h
/-- A slice of numbers. -/
theorem v_ints {N : Nat} {t e : TypeId} {d : DataW H} {vs : List V} (hu : P.underlying t = some (.slice e)) (he : P.underlying e = some (.int .i64)) (h : vcells P N t d = some vs) : ∃ xs : List Int, vs.map full = [.list (xs.map vI)] := by
  rcases v_slice hu h with rfl | ⟨N2, es, l, h2, rfl⟩
  · exact ⟨[], rfl⟩
  · have : aggT P e = false := by unfold aggT; rw [he]; rfl
    rw [this] at h2
    obtain ⟨xs, rfl⟩ := elems_int he h2
    exact ⟨xs, rfl⟩
/-- A struct of a slice of numbers and a number. -/
theorem v_state {N : Nat} {t ts ti : TypeId} {fs : Array Field} {d : DataW H} {vs : List V} (hu : P.underlying t = some (.struct fs)) (hfs : fs.toList.map (·.type) = [ts, ti]) (hs : P.underlying ts = some (.slice ti)) (he : P.underlying ti = some (.int .i64)) (h : vcells P N t d = some vs) :
    ∃ (xs : List Int) (o : Int), vs.map full = [.list (xs.map vI), .int .i64 o] := by
  obtain ⟨N', ps, hcat⟩ := v_struct hu h
  have : fs.toList.map (fun f => vcells (H := H) P N' f.type) = [vcells P N' ts, vcells P N' ti] := by
    have h' := congrArg (List.map fun t => vcells (H := H) P N' t) hfs
    rw [List.map_map] at h'
    exact h'
  rw [this] at hcat
  obtain ⟨e0, ps0, c0, r0', rfl, hc0, hr0, rfl⟩ := catV_cons hcat
  obtain ⟨e1, ps1, c1, r1', rfl, hc1, hr1, rfl⟩ := catV_cons hr0
  obtain rfl := catV_nil hr1
  obtain ⟨xs, hx⟩ := v_ints hs he hc0
  obtain ⟨n, _, rfl⟩ := v_int he hc1
  exact ⟨xs, n, by simp [hx, full]⟩
end
end
end Go.Proofs.YtcmcedphaipgkaaGreatDoor.Ai

