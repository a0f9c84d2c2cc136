/- Part of a reckoning of a Go program over abstract values, proved sound against the model. -/
import Derived.Test.YtejjnakhijgkaaaGreatDoorAiDA2
import Derived.Test.YtejjnakhijgkaaaGreatDoorAiDA3
namespace Go.Proofs.YtejjnakhijgkaaaGreatDoor.Ai
open Go.Proofs
set_option maxRecDepth 100000

/-! with what is known by now -/
def tab1 : FuncId → List V → Option V := fun f args => match args with
  | [] => if Nat.beq f 5 then some (.bool true) else none
  | [.int .i64 d] => (opVal1 f (cl d)).map (.int .i64 ·)
  | [.int .i64 d, .int .i64 e] => (opVal2 f (cl d) (cl e)).map (.int .i64 ·)
  | _ => none
theorem tab1_ok : ∀ f args v, tab1 f args = some v → PureOk Tryz.prog cfg0 f args v := fun f args v h => by
  unfold tab1 at h
  split at h
  · split at h
    · rename_i hf
      have : f = 5 := Nat.eq_of_beq_eq_true hf
      subst this
      injection h with h; subst h
      exact awake_ok
    · cases h
  · simp only [Option.map_eq_some_iff] at h
    obtain ⟨r, hr, rfl⟩ := h
    exact op1_ok hr
  · simp only [Option.map_eq_some_iff] at h
    obtain ⟨r, hr, rfl⟩ := h
    exact op2_ok hr
  · cases h
/-- The operations only reckon. -/
def pures1 : List (Nat × Nat) := pures ++ [(5, 1), (6, 1), (7, 1), (8, 1), (9, 1), (10, 1), (11, 1), (12, 1), (13, 1), (14, 1), (15, 1), (16, 1), (17, 1), (18, 1), (19, 1)]
noncomputable def cfg1 : Cfg := mkCfg Tryz.prog maskD globD pures1 [] tab1
theorem exts1 : extsFine Tryz.prog pures1 = true := by kernel_rfl
theorem fns1 : fnsFine Tryz.prog cfg1 = true := by kernel_rfl
theorem ok1 : cfg1.Ok Tryz.prog := mkCfg_ok mixed glob_free fns1 exts1 (fun f args v h => (tab1_ok f args v h).cfg rfl)

noncomputable abbrev run3 (d e f : Int) : Bool := isTrue (call cfg1 200 3 [.int .i64 d, .int .i64 e, .int .i64 f] S.empty)
noncomputable abbrev run4 (d e f : Int) : Bool := isTrue (call cfg1 200 4 [.int .i64 d, .int .i64 e, .int .i64 f] S.empty)
theorem all3_0 (k m n : Nat) : ints2 (fun e f => run3 (pat 0 k) e f) m n = true := by kernel_rfl
theorem all3_1 (k m n : Nat) : ints2 (fun e f => run3 (pat 1 k) e f) m n = true := by kernel_rfl
theorem all3_2 (k m n : Nat) : ints2 (fun e f => run3 (pat 2 k) e f) m n = true := by kernel_rfl
theorem all3_3 (k m n : Nat) : ints2 (fun e f => run3 (pat 3 k) e f) m n = true := by kernel_rfl
theorem all3_4 (k m n : Nat) : ints2 (fun e f => run3 (pat 4 k) e f) m n = true := by kernel_rfl
theorem all3_5 (k m n : Nat) : ints2 (fun e f => run3 (pat 5 k) e f) m n = true := by kernel_rfl
theorem all3_6 (k m n : Nat) : ints2 (fun e f => run3 (pat 6 k) e f) m n = true := by kernel_rfl
theorem all3_7 (k m n : Nat) : ints2 (fun e f => run3 (pat 7 k) e f) m n = true := by kernel_rfl
theorem all3_8 (k m n : Nat) : ints2 (fun e f => run3 (pat 8 k) e f) m n = true := by kernel_rfl
theorem all3_9 (k m n : Nat) : ints2 (fun e f => run3 (pat 9 k) e f) m n = true := by kernel_rfl
theorem all3_10 (k m n : Nat) : ints2 (fun e f => run3 (pat 10 k) e f) m n = true := by kernel_rfl
theorem run3_true (d e f : Int) : run3 d e f = true := ints3_of (fun c hc => match c, hc with
  | 0, _ => all3_0
  | 1, _ => all3_1
  | 2, _ => all3_2
  | 3, _ => all3_3
  | 4, _ => all3_4
  | 5, _ => all3_5
  | 6, _ => all3_6
  | 7, _ => all3_7
  | 8, _ => all3_8
  | 9, _ => all3_9
  | 10, _ => all3_10
  | c + 11, h => absurd h (by omega)) d e f
end Go.Proofs.YtejjnakhijgkaaaGreatDoor.Ai
