/- Part of a reckoning of a Go program over abstract values, proved sound against the model. -/
import Derived.Test.YtcmcedphaipgkaaGreatDoorAiVA8
set_option linter.unusedSimpArgs false
set_option linter.unusedVariables false
namespace Go.Proofs.YtcmcedphaipgkaaGreatDoor.Ai
noncomputable section
open Go.Proofs
set_option maxRecDepth 100000
set_option maxHeartbeats 2000000

def eJ : List (FuncId × (List V → Option V)) := [(4, e4), (5, et5), (6, et6)]
theorem eJ_ok : TabOk Tryz.prog cfg0 eJ := .cons t4 (.cons et5_ok (.cons et6_ok .nil))

theorem et5_at {xs ys ps : List Int} {o o' p n : Int} (hx : xs.length ≤ 1000) (hy : ys.length ≤ 1000) (hq : jq ⟨xs, o⟩ ⟨ys, o'⟩ = (⟨ps, p⟩, n)) :
    et5 [.agg [.list (xs.map vI), .int .i64 o], .agg [.list (ys.map vI), .int .i64 o']] = some (.tup [.agg [.list (ps.map vI), .int .i64 p], .int .i64 n]) := by
  have : et5 [eS ⟨xs, o⟩, eS ⟨ys, o'⟩] = some (.tup [eS ⟨ps, p⟩, vI n]) := by
    simp only [et5, arg2, dS_eS, Option.bind_some, hx, hy, and_self, if_true, hq]
  simpa [eS, eI, vI] using this
theorem et6_at {xs ys : List Int} (hx : xs.length ≤ 1000) (hy : ys.length ≤ 1000) : et6 [.list (xs.map vI), .list (ys.map vI)] = some (.bool (decide (xs = ys))) := by
  have : et6 [eI xs, eI ys] = some (.bool (decide (xs = ys))) := by
    simp only [et6, arg2, dI_eI, Option.bind_some, hx, hy, and_self, if_true]
  simpa [eI] using this
theorem e4_at : e4 [] = some (.bool true) := rfl

theorem jn_comm (a b : Int) : jn a b = jn b a := by simp only [jn]; split <;> split <;> simp_all
theorem jn_self (a : Int) : jn a a = a := by simp [jn]
theorem jn_assoc (a b c : Int) : jn (jn a b) c = jn a (jn b c) := by
  unfold jn
  repeat' split
  all_goals (first | rfl | omega)
theorem jl_comm (a b : List Int) : jl a b = jl b a := by
  induction a generalizing b with
  | nil => cases b <;> rfl
  | cons x a ih => cases b with
    | nil => rfl
    | cons y b => simp only [jl, List.zipWith_cons_cons] at ih ⊢; rw [ih b, jn_comm]
theorem jl_self (a : List Int) : jl a a = a := by
  induction a with
  | nil => rfl
  | cons x a ih => simp only [jl, List.zipWith_cons_cons] at ih ⊢; rw [ih, jn_self]
theorem jl_assoc (a b c : List Int) : jl (jl a b) c = jl a (jl b c) := by
  induction a generalizing b c with
  | nil => cases b <;> rfl
  | cons x a ih => cases b with
    | nil => rfl
    | cons y b => cases c with
      | nil => rfl
      | cons z c => simp only [jl, List.zipWith_cons_cons] at ih ⊢; rw [ih b c, jn_assoc]
theorem jq_self (xs : List Int) (o : Int) : jq ⟨xs, o⟩ ⟨xs, o⟩ = (⟨xs, o⟩, 0) := by simp [jq, jl_self]
theorem jq_ok {xs ys : List Int} {o : Int} (h : ys.length = xs.length) : jq ⟨xs, o⟩ ⟨ys, o⟩ = (⟨jl xs ys, o⟩, 0) := by simp [jq, h]
theorem jq_len {xs ys : List Int} {o o' : Int} (h : ¬ xs.length = ys.length) : jq ⟨xs, o⟩ ⟨ys, o'⟩ = (⟨[], 0⟩, 4) := by simp [jq, h]
theorem jq_opn {xs ys : List Int} {o o' : Int} (h : xs.length = ys.length) (h' : ¬ o = o') : jq ⟨xs, o⟩ ⟨ys, o'⟩ = (⟨[], 0⟩, 13) := by simp [jq, h, h']
theorem jq_short (a b : St) : (jq a b).1.slots.length ≤ a.slots.length := by
  simp only [jq]
  split
  · exact Nat.zero_le _
  · split
    · exact Nat.zero_le _
    · simp only [jl, List.length_zipWith]; omega

end
end Go.Proofs.YtcmcedphaipgkaaGreatDoor.Ai

