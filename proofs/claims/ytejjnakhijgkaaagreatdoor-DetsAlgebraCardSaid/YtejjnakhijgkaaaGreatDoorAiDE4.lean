/- Part of a reckoning of a Go program over abstract values, proved sound against the model. -/
import Derived.Test.YtejjnakhijgkaaaGreatDoorAiDA2
import Derived.Test.YtejjnakhijgkaaaGreatDoorAiDA3
namespace Go.Proofs.YtejjnakhijgkaaaGreatDoor.Ai
open Go.Proofs
set_option maxRecDepth 100000

/-! Strict and plain -/
def solN (d : Nat) : Nat := match d with
  | 0 | 1 => 1
  | 2 | 3 => 2
  | 4 | 5 => 3
  | _ => 0
def strictT (d e : Nat) : Bool :=
  bif Nat.beq d 8 || Nat.beq e 8 then false
  else bif Nat.beq d e then true
  else bif mFail d && !mFail e then false
  else bif Nat.beq (solN e) 3 then !Nat.beq (solN d) 2
  else !Nat.beq (solN d) 3 && Nat.ble (solN d) (solN e)
def plainT (d : Nat) : Bool := match d with
  | 4 | 5 | 8 => false
  | _ => true
theorem strict18 (k m : Nat) : ints2 (fun d e => isBool (r2 18 d e) (strictT (cl d) (cl e))) k m = true := by kernel_rfl
theorem plain19 (k : Nat) : ints1 (fun d => isBool (r1 19 d) (plainT (cl d))) k = true := by kernel_rfl

/-! with what is known by now -/
def tab2 : FuncId → List V → Option V := fun f args => match args with
  | [] => if Nat.beq f 5 then some (.bool true) else none
  | [.int .i64 d] => bif Nat.beq f 19 then some (.bool (plainT (cl d))) else (opVal1 f (cl d)).map (.int .i64 ·)
  | [.int .i64 d, .int .i64 e] => bif Nat.beq f 18 then some (.bool (strictT (cl d) (cl e))) else (opVal2 f (cl d) (cl e)).map (.int .i64 ·)
  | _ => none
theorem tab2_ok : ∀ f args v, tab2 f args = some v → PureOk Tryz.prog cfg0 f args v := fun f args v h => by
  unfold tab2 at h
  split at h
  · split at h
    · rename_i hf
      have : f = 5 := Nat.eq_of_beq_eq_true hf
      subst this
      injection h with h; subst h
      exact awake_ok
    · cases h
  · rename_i d
    cases hf : Nat.beq f 19 with
    | true =>
      rw [hf] at h
      have : f = 19 := Nat.eq_of_beq_eq_true hf
      subst this
      injection h with h; subst h
      exact pure_ok ok0 (fn := Tryz.f19) (by kernel_rfl) (isBool_eq (ints1_all plain19 d))
    | false =>
      rw [hf] at h
      simp only [cond_false, Option.map_eq_some_iff] at h
      obtain ⟨r, hr, rfl⟩ := h
      exact op1_ok hr
  · rename_i d e
    cases hf : Nat.beq f 18 with
    | true =>
      rw [hf] at h
      have : f = 18 := Nat.eq_of_beq_eq_true hf
      subst this
      injection h with h; subst h
      exact pure_ok ok0 (fn := Tryz.f18) (by kernel_rfl) (isBool_eq (ints2_all strict18 d e))
    | false =>
      rw [hf] at h
      simp only [cond_false, Option.map_eq_some_iff] at h
      obtain ⟨r, hr, rfl⟩ := h
      exact op2_ok hr
  · cases h
/-- The operations only reckon. -/
def pures1 : List (Nat × Nat) := pures ++ [(5, 1), (6, 1), (7, 1), (8, 1), (9, 1), (10, 1), (11, 1), (12, 1), (13, 1), (14, 1), (15, 1), (16, 1), (17, 1), (18, 1), (19, 1)]
noncomputable def cfg1 : Cfg := mkCfg Tryz.prog maskD globD pures1 [] tab2
theorem exts1 : extsFine Tryz.prog pures1 = true := by kernel_rfl
theorem fns1 : fnsFine Tryz.prog cfg1 = true := by kernel_rfl
theorem ok1 : cfg1.Ok Tryz.prog := mkCfg_ok mixed glob_free fns1 exts1 (fun f args v h => (tab2_ok f args v h).cfg rfl)
noncomputable abbrev run4 (d e f : Int) : Bool := isTrue (call cfg1 200 4 [.int .i64 d, .int .i64 e, .int .i64 f] S.empty)
end Go.Proofs.YtejjnakhijgkaaaGreatDoor.Ai
