/- Part of a reckoning of a Go program over abstract values, proved sound against the model. -/
import Derived.Test.YtedphjbgimkmlaaDoorAiZ2
set_option linter.unusedSimpArgs false
set_option linter.unusedVariables false
namespace Go.Proofs.YtedphjbgimkmlaaDoor.Ai

/-! ints by their patterns -/
def pat (c k : Nat) : Int := match c with
  | 0 => .ofNat 0
  | 1 => .ofNat 1
  | 2 => .ofNat 2
  | 3 => .ofNat 3
  | 4 => .ofNat 4
  | 5 => .ofNat 5
  | 6 => .ofNat 6
  | 7 => .ofNat 7
  | 8 => .negSucc 0
  | 9 => .negSucc (k + 1)
  | _ => .ofNat (k + 8)

theorem pat_all (d : Int) : ∃ c k, c < 11 ∧ d = pat c k := by
  match d with
  | .negSucc 0 => exact ⟨8, 0, by omega, rfl⟩
  | .negSucc (k + 1) => exact ⟨9, k, by omega, rfl⟩
  | .ofNat 0 => exact ⟨0, 0, by omega, rfl⟩
  | .ofNat 1 => exact ⟨1, 0, by omega, rfl⟩
  | .ofNat 2 => exact ⟨2, 0, by omega, rfl⟩
  | .ofNat 3 => exact ⟨3, 0, by omega, rfl⟩
  | .ofNat 4 => exact ⟨4, 0, by omega, rfl⟩
  | .ofNat 5 => exact ⟨5, 0, by omega, rfl⟩
  | .ofNat 6 => exact ⟨6, 0, by omega, rfl⟩
  | .ofNat 7 => exact ⟨7, 0, by omega, rfl⟩
  | .ofNat (k + 8) => exact ⟨10, k, by omega, rfl⟩

/-- 0 to 7: the number itself; 8: any other one. -/
def cl : Int → Nat
  | .ofNat 0 => 0
  | .ofNat 1 => 1
  | .ofNat 2 => 2
  | .ofNat 3 => 3
  | .ofNat 4 => 4
  | .ofNat 5 => 5
  | .ofNat 6 => 6
  | .ofNat 7 => 7
  | _ => 8

def ints1 (p : Int → Bool) (k : Nat) : Bool := (List.range 11).all fun c => p (pat c k)
def ints2 (p : Int → Int → Bool) (k m : Nat) : Bool := (List.range 11).all fun c => (List.range 11).all fun c' => p (pat c k) (pat c' m)
def ints3 (p : Int → Int → Int → Bool) (k m n : Nat) : Bool := (List.range 11).all fun c => (List.range 11).all fun c' => (List.range 11).all fun c'' => p (pat c k) (pat c' m) (pat c'' n)

theorem ints1_all {p : Int → Bool} (h : ∀ k, ints1 p k = true) (d : Int) : p d = true := by
  obtain ⟨c, k, hc, rfl⟩ := pat_all d
  exact List.all_eq_true.1 (h k) c (List.mem_range.2 hc)

theorem ints2_all {p : Int → Int → Bool} (h : ∀ k m, ints2 p k m = true) (d e : Int) : p d e = true := by
  obtain ⟨c, k, hc, rfl⟩ := pat_all d
  obtain ⟨c', m, hc', rfl⟩ := pat_all e
  exact List.all_eq_true.1 (List.all_eq_true.1 (h k m) c (List.mem_range.2 hc)) c' (List.mem_range.2 hc')

theorem ints3_all {p : Int → Int → Int → Bool} (h : ∀ k m n, ints3 p k m n = true) (d e f : Int) : p d e f = true := by
  obtain ⟨c, k, hc, rfl⟩ := pat_all d
  obtain ⟨c', m, hc', rfl⟩ := pat_all e
  obtain ⟨c'', n, hc'', rfl⟩ := pat_all f
  exact List.all_eq_true.1 (List.all_eq_true.1 (List.all_eq_true.1 (h k m n) c (List.mem_range.2 hc)) c' (List.mem_range.2 hc')) c'' (List.mem_range.2 hc'')

theorem ints3_of {p : Int → Int → Int → Bool} (h : ∀ c, c < 11 → ∀ k m n, ints2 (fun e f => p (pat c k) e f) m n = true) (d e f : Int) : p d e f = true := by
  obtain ⟨c, k, hc, rfl⟩ := pat_all d
  exact ints2_all (fun m n => h c hc k m n) e f

/-- The run gives this int. -/
def isInt : Option V → Int → Bool
  | some (.int .i64 n), m => decide (n = m)
  | _, _ => false
def isBool : Option V → Bool → Bool
  | some (.bool a), b => a == b
  | _, _ => false

theorem isInt_eq {r : Option V} {m : Int} (h : isInt r m = true) : r = some (.int .i64 m) := by
  unfold isInt at h
  split at h
  · simp at h; rw [h]
  · cases h
theorem isBool_eq {r : Option V} {b : Bool} (h : isBool r b = true) : r = some (.bool b) := by
  unfold isBool at h
  split at h
  · simp at h; rw [h]
  · cases h

def isTrue : Option (AE × S) → Bool
  | some (.ret (.bool b), _) => b
  | _ => false
theorem isTrue_of {r : Option (AE × S)} (h : isTrue r = true) : ∃ s', r = some (.ret (.bool true), s') := by
  unfold isTrue at h
  split at h
  · subst h; exact ⟨_, rfl⟩
  · cases h
end Go.Proofs.YtedphjbgimkmlaaDoor.Ai

