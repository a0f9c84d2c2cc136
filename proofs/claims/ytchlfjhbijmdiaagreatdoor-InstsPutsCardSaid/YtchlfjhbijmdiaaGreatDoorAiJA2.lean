/- Part of a reckoning of a Go program over abstract values, proved sound against the model. -/
import Derived.Test.YtchlfjhbijmdiaaGreatDoorAiT8
import Derived.Test.YtchlfjhbijmdiaaGreatDoorAiP1
import Derived.Test.YtchlfjhbijmdiaaGreatDoorChecked
set_option linter.unusedSimpArgs false
set_option linter.unusedVariables false
namespace Go.Proofs.YtchlfjhbijmdiaaGreatDoor.Ai
open Go.Proofs
set_option maxRecDepth 100000
def maskD:Nat:=44601490397061246283071436545296723011960831
def zm:List (Nat×Nat):=[(89,10),(92,11),(12,2),(74,3),(17,8),(23,8),(79,8)]
def globD:Nat→Option (List V):=fun _=>none
def zo:FuncId→Option (TypeId×Option Nat)
 | 17=>some (26,none)
 | 23=>some (26,none)
 | 79=>some (108,none)
 | _=>none
noncomputable def zB:Cfg:=wc Tryz.prog maskD globD zm [] (fun _ _=>none)
theorem mixed:Tryz.prog.follows .mixedOrders=true:=Checked.mixed Tryz.checked
theorem exts:xN Tryz.prog zm=true:=by kernel_rfl
theorem fns0:vc Tryz.prog zB=true:=by kernel_rfl
theorem glob_free:∀g cs,globD g=some cs→V.freeL cs=true:=fun _ _ h=>by cases h
/-- For closed runs. -/
def puresA:List (Nat×Nat):=[(89,10),(92,11)]
noncomputable def cfgA:Cfg:=wc Tryz.prog maskD globD puresA [] (fun _ _=>none)
theorem extsA:xN Tryz.prog puresA=true:=by kernel_rfl
theorem fnsA:vc Tryz.prog cfgA=true:=by kernel_rfl
theorem okA:cfgA.Ok Tryz.prog:=mkCfg_ok mixed glob_free fnsA extsA (fun _ _ _ h=>by cases h)
noncomputable def st (e f:List (FuncId×(List V→Option V))):Cfg:=stg Tryz.prog maskD globD zm [] zo e f
theorem yn {e f:List (FuncId×(List V→Option V))} (he:xa Tryz.prog zB e) (hf:FtOk Tryz.prog (st [] []) f):(st e f).Ok Tryz.prog:=stg_ok mixed glob_free fns0 exts rfl he hf
section
variable (e f:List (FuncId×(List V→Option V)))
@[simp] theorem st_ty (t:TypeId):(st e f).ty t=zB.ty t:=rfl
@[simp] theorem st_fn (g:FuncId):(st e f).fn g=zB.fn g:=rfl
@[simp] theorem st_pure (g:FuncId):(st e f).pure g=te zm g:=rfl
@[simp] theorem st_raw (g:FuncId):(st e f).raw g=false:=rfl
@[simp] theorem st_tab (g:FuncId) (args:List V):(st e f).tab g args=xi e g args:=rfl
@[simp] theorem st_ftab (g:FuncId) (args:List V):(st e f).ftab g args=xi f g args:=rfl
@[simp] theorem st_fresh (g:FuncId):(st e f).fresh g=zo g:=rfl
@[simp] theorem st_fld (t:TypeId) (k:Nat):yC (st e f) t k=yC zB t k:=rfl
@[simp] theorem st_bld (t:TypeId) (ps:List (Nat×V)):xh (st e f) t ps=xh zB t ps:=aBuild_ty (c:=st e f) (c':=zB) rfl t ps
@[simp] theorem st_simple (o:Array Oper):zD (st e f) o=zD zB o:=rfl
@[simp] theorem st_draw (o:Array Oper):yg (st e f) o=yg zB o:=rfl
@[simp] theorem st_tail (o:Array Oper) (j:Nat):zV (st e f) o j=zV zB o j:=rfl
@[simp] theorem st_kind (o:Oper):zC (st e f) o=zC zB o:=rfl
@[simp] theorem st_layr:(st e f).layr=false:=rfl
end
/-- What is appended is laid at once. -/
noncomputable def stL (e f:List (FuncId×(List V→Option V))):Cfg:={ st e f with layr:=true }
theorem stL_ok {e f:List (FuncId×(List V→Option V))} (he:xa Tryz.prog zB e) (hf:FtOk Tryz.prog (st [] []) f):(stL e f).Ok Tryz.prog:=by
 have h:=yn he hf
 refine ⟨h.fn,fun g fn c h1 h2=>?_,h.ty,h.lies,h.mixed,h.tab,h.meth,h.ftab,h.gfree,h.names,h.ext10,h.ext11,h.ext12⟩
 have hk:zC (stL e f)=zC (st e f):=rfl
 rw [yq hk]; exact h.draws g fn c h1 h2
section
variable (e f:List (FuncId×(List V→Option V)))
@[simp] theorem stL_ty (t:TypeId):(stL e f).ty t=zB.ty t:=rfl
@[simp] theorem stL_fn (g:FuncId):(stL e f).fn g=zB.fn g:=rfl
@[simp] theorem stL_pure (g:FuncId):(stL e f).pure g=te zm g:=rfl
@[simp] theorem stL_raw (g:FuncId):(stL e f).raw g=false:=rfl
@[simp] theorem stL_tab (g:FuncId) (args:List V):(stL e f).tab g args=xi e g args:=rfl
@[simp] theorem stL_ftab (g:FuncId) (args:List V):(stL e f).ftab g args=xi f g args:=rfl
@[simp] theorem stL_fresh (g:FuncId):(stL e f).fresh g=zo g:=rfl
@[simp] theorem stL_fld (t:TypeId) (k:Nat):yC (stL e f) t k=yC zB t k:=rfl
@[simp] theorem stL_bld (t:TypeId) (ps:List (Nat×V)):xh (stL e f) t ps=xh zB t ps:=aBuild_ty (c:=stL e f) (c':=zB) rfl t ps
@[simp] theorem stL_simple (o:Array Oper):zD (stL e f) o=zD zB o:=rfl
@[simp] theorem stL_draw (o:Array Oper):yg (stL e f) o=yg zB o:=rfl
@[simp] theorem stL_tail (o:Array Oper) (j:Nat):zV (stL e f) o j=zV zB o j:=rfl
@[simp] theorem stL_kind (o:Oper):zC (stL e f) o=zC zB o:=rfl
@[simp] theorem stL_layr:(stL e f).layr=true:=rfl
end
@[simp] theorem pure_0 (g:FuncId):zB.pure g=te zm g:=rfl
@[simp] theorem agg_slice (e:TypeId):zS (.slice e)=false:=rfl
@[simp] theorem agg_int (k:IntKind):zS (.int k)=false:=rfl
@[simp] theorem agg_bool:zS .bool=false:=rfl
@[simp] theorem agg_string:zS .string=false:=rfl
noncomputable abbrev cf0 (e f:List (FuncId×(List V→Option V))):CF:=run (st e f) 0
theorem zW {e f:List (FuncId×(List V→Option V))} (h:(st e f).Ok Tryz.prog):wv Tryz.prog (st e f) (cf0 e f):=run_ok h 0
theorem yi {e f:List (FuncId×(List V→Option V))}:∀g se,(g,se)∈([]:List (FuncId×SpE))→tR Tryz.prog (st e f) g se:=fun _ _ h=>by cases h
end Go.Proofs.YtchlfjhbijmdiaaGreatDoor.Ai

namespace Go.Proofs.YtchlfjhbijmdiaaGreatDoor.Ai
open Go.Proofs
set_option maxRecDepth 100000
theorem awake0:uf (call cfgA 100000) 6 []=some (.bool true):=by kernel_rfl
theorem awake_ok:zx Tryz.prog zB 6 [] (.bool true):=(pure_ok okA (fn:=Tryz.f6) (by kernel_rfl) awake0).cfg rfl
def e5:List V→Option V:=fun args=>if args.isEmpty then some (.bool true) else none
theorem t5:∀args v,e5 args=some v→zx Tryz.prog zB 6 args v:=fun args v h=>by
 cases args with
 | nil=>injection h with h; subst h; exact awake_ok
 | cons=>cases h
end Go.Proofs.YtchlfjhbijmdiaaGreatDoor.Ai

