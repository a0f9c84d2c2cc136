/- Part of a reckoning of a Go program over abstract values, proved sound against the model. -/
import Derived.Test.YtedphjbgimkmlaaDoorAiT8
import Derived.Test.YtedphjbgimkmlaaDoorAiP1
import Derived.Test.YtedphjbgimkmlaaDoorChecked
set_option linter.unusedSimpArgs false
set_option linter.unusedVariables false
namespace Go.Proofs.YtedphjbgimkmlaaDoor.Ai
open Go.Proofs
set_option maxRecDepth 100000
def maskD : Nat := 680564733841876926926749214863536422911
def puresD : List (Nat × Nat) := [(73, 10), (76, 11), (23, 2), (61, 3)]
def globD : Nat → Option (List V) := fun _ => none
def freshD : FuncId → Option (TypeId × Option Nat)
  | _ => none
noncomputable def cfg0 : Cfg := mkCfg Tryd.prog maskD globD puresD [] (fun _ _ => none)
theorem mixed : Tryd.prog.follows .mixedOrders = true := Checked.mixed Tryd.checked
theorem exts : extsFine Tryd.prog puresD = true := by kernel_rfl
theorem fns0 : fnsFine Tryd.prog cfg0 = true := by kernel_rfl
theorem glob_free : ∀ g cs, globD g = some cs → V.freeL cs = true := fun _ _ h => by cases h
theorem ok0 : cfg0.Ok Tryd.prog := mkCfg_ok mixed glob_free fns0 exts (fun _ _ _ h => by cases h)
/-- For closed runs. -/
def puresA : List (Nat × Nat) := [(73, 10), (76, 11)]
noncomputable def cfgA : Cfg := mkCfg Tryd.prog maskD globD puresA [] (fun _ _ => none)
theorem extsA : extsFine Tryd.prog puresA = true := by kernel_rfl
theorem fnsA : fnsFine Tryd.prog cfgA = true := by kernel_rfl
theorem okA : cfgA.Ok Tryd.prog := mkCfg_ok mixed glob_free fnsA extsA (fun _ _ _ h => by cases h)
noncomputable def st (e f : List (FuncId × (List V → Option V))) : Cfg := stg Tryd.prog maskD globD puresD [] freshD e f
theorem st_ok {e f : List (FuncId × (List V → Option V))} (he : TabOk Tryd.prog cfg0 e) (hf : FtOk Tryd.prog (st [] []) f) : (st e f).Ok Tryd.prog := stg_ok mixed glob_free fns0 exts rfl he hf
section
variable (e f : List (FuncId × (List V → Option V)))
@[simp] theorem st_ty (t : TypeId) : (st e f).ty t = cfg0.ty t := rfl
@[simp] theorem st_fn (g : FuncId) : (st e f).fn g = cfg0.fn g := rfl
@[simp] theorem st_pure (g : FuncId) : (st e f).pure g = assoc puresD g := rfl
@[simp] theorem st_raw (g : FuncId) : (st e f).raw g = false := rfl
@[simp] theorem st_tab (g : FuncId) (args : List V) : (st e f).tab g args = tabAt e g args := rfl
@[simp] theorem st_ftab (g : FuncId) (args : List V) : (st e f).ftab g args = tabAt f g args := rfl
@[simp] theorem st_fresh (g : FuncId) : (st e f).fresh g = freshD g := rfl
@[simp] theorem st_fld (t : TypeId) (k : Nat) : fieldOf (st e f) t k = fieldOf cfg0 t k := rfl
@[simp] theorem st_bld (t : TypeId) (ps : List (Nat × V)) : aBuild (st e f) t ps = aBuild cfg0 t ps := aBuild_ty (c := st e f) (c' := cfg0) rfl t ps
@[simp] theorem st_simple (o : Array Oper) : drawSimple (st e f) o = drawSimple cfg0 o := rfl
@[simp] theorem st_draw (o : Array Oper) : drawOk (st e f) o = drawOk cfg0 o := rfl
@[simp] theorem st_tail (o : Array Oper) (j : Nat) : tailOk (st e f) o j = tailOk cfg0 o j := rfl
@[simp] theorem st_kind (o : Oper) : opKind (st e f) o = opKind cfg0 o := rfl
end
@[simp] theorem pure_0 (g : FuncId) : cfg0.pure g = assoc puresD g := rfl
@[simp] theorem agg_slice (e : TypeId) : isAggD (.slice e) = false := rfl
@[simp] theorem agg_int (k : IntKind) : isAggD (.int k) = false := rfl
@[simp] theorem agg_bool : isAggD .bool = false := rfl
@[simp] theorem agg_string : isAggD .string = false := rfl
noncomputable abbrev cf0 (e f : List (FuncId × (List V → Option V))) : CF := run (st e f) 0
theorem cf0_ok {e f : List (FuncId × (List V → Option V))} (h : (st e f).Ok Tryd.prog) : CFOk Tryd.prog (st e f) (cf0 e f) := run_ok h 0
theorem noSpE {e f : List (FuncId × (List V → Option V))} : ∀ g se, (g, se) ∈ ([] : List (FuncId × SpE)) → SpEOk Tryd.prog (st e f) g se := fun _ _ h => by cases h
end Go.Proofs.YtedphjbgimkmlaaDoor.Ai

