/- Part of a reckoning of a Go program over abstract values, proved sound against the model. -/
import Derived.Test.YtejjnakhijgkaabGreatDoorAiTA2
namespace Go.Proofs.YtejjnakhijgkaabGreatDoor.Ai
open Go.Proofs
set_option maxRecDepth 100000
def tab1 : FuncId → List V → Option V := fun f args => match args with
  | [] => if Nat.beq f 9 then some (.bool true) else none
  | _ => none
noncomputable def cfg1 : Cfg := mkCfg Tryz.prog maskD (fun _ => none) pures [] tab1
theorem fns1 : fnsFine Tryz.prog cfg1 = true := fns0
theorem ok1 : cfg1.Ok Tryz.prog := mkCfg_ok mixed (fun _ _ h => by cases h) fns1 exts (fun f args v h => by
  unfold tab1 at h
  split at h
  · split at h
    · rename_i hf
      have : f = 9 := Nat.eq_of_beq_eq_true hf
      subst this
      injection h with h; subst h
      exact awake_ok.cfg rfl
    · cases h
  · cases h)
noncomputable abbrev run3 (s : ByteArray) (l : V) (n : Int) : Bool := isTrue (call cfg1 200 3 [.agg [.str s, l], .int .i64 n] S.empty)
theorem run_nil (s : ByteArray) (n : Int) : run3 s .nils n = true := by kernel_rfl
theorem run_list (s : ByteArray) (es : List V) (n : Int) : run3 s (.list es) n = true := by kernel_rfl
end Go.Proofs.YtejjnakhijgkaabGreatDoor.Ai
