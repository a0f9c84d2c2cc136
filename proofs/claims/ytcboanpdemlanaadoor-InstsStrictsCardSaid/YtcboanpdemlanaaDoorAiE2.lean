/- Part of a reckoning of a Go program over abstract values, proved sound against the model. -/
import Derived.Test.YtcboanpdemlanaaDoorAiE1
namespace Go.Proofs.YtcboanpdemlanaaDoor.Ai
open Go.Proofs
set_option maxRecDepth 100000
theorem awake0 : pureCall (call cfg0 100000) 5 [] = some (.bool true) := by kernel_rfl
theorem awake_ok : PureOk Tryd.prog cfg0 5 [] (.bool true) := pure_ok ok0 (fn := Tryd.f5) (by kernel_rfl) awake0
def awakeTab (k : FuncId) : FuncId → List V → Option V := fun f args => if Nat.beq f k && args.isEmpty then some (.bool true) else none
noncomputable def cfg1 : Cfg := mkCfg Tryd.prog maskD (fun _ => none) [(77, 10), (80, 11)] [] (awakeTab 5)
theorem fns1 : fnsFine Tryd.prog cfg1 = true := fns0
theorem ok1 : cfg1.Ok Tryd.prog := mkCfg_ok mixed (fun _ _ h => by cases h) fns1 exts (fun f args v h => by
  simp only [awakeTab] at h
  split at h
  · rename_i hc
    simp only [Bool.and_eq_true, List.isEmpty_iff] at hc
    injection h with h
    have hf : f = 5 := Nat.eq_of_beq_eq_true hc.1
    subst h hf
    rw [hc.2]
    exact awake_ok.cfg rfl
  · cases h)
end Go.Proofs.YtcboanpdemlanaaDoor.Ai
