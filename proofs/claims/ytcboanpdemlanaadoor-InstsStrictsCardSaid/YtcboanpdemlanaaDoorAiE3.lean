/- Part of a reckoning of a Go program over abstract values, proved sound against the model. -/
import Derived.Test.YtcboanpdemlanaaDoorAiE2
namespace Go.Proofs.YtcboanpdemlanaaDoor.Ai
open Go.Proofs
set_option maxRecDepth 100000
def isTrue : Option (AE × S) → Bool
  | some (.ret (.bool b), _) => b
  | _ => false
theorem isTrue_of {r : Option (AE × S)} (h : isTrue r = true) : ∃ s', r = some (.ret (.bool true), s') := by
  unfold isTrue at h
  split at h
  · subst h; exact ⟨_, rfl⟩
  · cases h
noncomputable abbrev run3 (d e : Int) : Bool := isTrue (call cfg1 60 3 [.int .i64 d, .int .i64 e] S.empty)
theorem d_neg0 (e : Int) : run3 (Int.negSucc 0) e = true := by kernel_rfl
theorem d_neg (k : Nat) (e : Int) : run3 (Int.negSucc (k + 1)) e = true := by kernel_rfl
theorem d_big (k : Nat) (e : Int) : run3 (Int.ofNat (k + 8)) e = true := by kernel_rfl
theorem e_neg0 : (List.range 8).all (fun d => run3 (Int.ofNat d) (Int.negSucc 0)) = true := by kernel_rfl
theorem e_neg (k : Nat) : (List.range 8).all (fun d => run3 (Int.ofNat d) (Int.negSucc (k + 1))) = true := by kernel_rfl
theorem e_big (k : Nat) : (List.range 8).all (fun d => run3 (Int.ofNat d) (Int.ofNat (k + 8))) = true := by kernel_rfl
theorem d_in : (List.range 8).all (fun d => (List.range 8).all fun e => run3 (Int.ofNat d) (Int.ofNat e)) = true := by kernel_rfl
theorem run3_true (d e : Int) : run3 d e = true := by
  have inner : ∀ d, d < 8 → run3 (Int.ofNat d) e = true := fun d hd => by
    have hm : d ∈ List.range 8 := List.mem_range.2 hd
    match e with
    | .negSucc 0 => exact List.all_eq_true.1 e_neg0 d hm
    | .negSucc (k + 1) => exact List.all_eq_true.1 (e_neg k) d hm
    | .ofNat n =>
      by_cases hn : n < 8
      · exact List.all_eq_true.1 (List.all_eq_true.1 d_in d hm) n (List.mem_range.2 hn)
      · obtain ⟨k, rfl⟩ : ∃ k, n = k + 8 := ⟨n - 8, by omega⟩
        exact List.all_eq_true.1 (e_big k) d hm
  match d with
  | .negSucc 0 => exact d_neg0 e
  | .negSucc (k + 1) => exact d_neg k e
  | .ofNat n =>
    by_cases hn : n < 8
    · exact inner n hn
    · obtain ⟨k, rfl⟩ : ∃ k, n = k + 8 := ⟨n - 8, by omega⟩
      exact d_big k e
theorem law3 (d e : Int) (W : World) : Calls Tryd.prog 3 #[.int .i64 d, .int .i64 e] W fun E w' => E = .returned (.bool true) ∧ Go.RowKit.Below W.heap.size W w' := by
  obtain ⟨s', h⟩ := isTrue_of (run3_true d e)
  exact call_true ok1 (fn := Tryd.f3) (by kernel_rfl) (fun g cs h => by cases h) (.cons (.int .i64 d) (.cons (.int .i64 e) .nil)) h
end Go.Proofs.YtcboanpdemlanaaDoor.Ai
