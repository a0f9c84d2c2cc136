/- Part of a reckoning of a Go program over abstract values, proved sound against the model. -/
import Derived.Test.YtchlfjhbijmdiaaGreatDoorRows
import Derived.JoinedCond
import Derived.KernelRfl
set_option linter.unusedSimpArgs false
set_option linter.unusedVariables false
namespace Go.Proofs.YtchlfjhbijmdiaaGreatDoor.instsPuts
set_option maxRecDepth 100000
noncomputable abbrev P:Program:=Tryz.prog
noncomputable abbrev c:OpenClaim:=Rows.instsPutsRow
theorem k2:laidOutB P=true:=by kernel_rfl
theorem k3:mapsRowed P=true:=by kernel_rfl
theorem k5:namedTie P c.named Rows.instsPutsSpec.vars=true:=by kernel_rfl
theorem k10:(c.inPlace == P.inPlace 3)=true:=by kernel_rfl
theorem k11:(c.unfollowed == P.unfollowed 3)=true:=by kernel_rfl
theorem k12:(c.recurses == P.recurses 3)=true:=by kernel_rfl
theorem k13:(c.named == P.varsNamed 3)=true:=by kernel_rfl
theorem k22:(c.plainKeys == P.plainKeys)=true:=by kernel_rfl
theorem k23b:P.stopsHeard=true:=by kernel_rfl
theorem k24:P.mayEnter=true:=by kernel_rfl
theorem k24b:(c.lifted == P.liftsFinal)=true:=by kernel_rfl
theorem k24c:(P.make == some c.make)=true:=by kernel_rfl
end Go.Proofs.YtchlfjhbijmdiaaGreatDoor.instsPuts

