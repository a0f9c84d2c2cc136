/- The law InstsPuts of package cinnabarlaw16 returns true for every table and every inst: the program and the reference put the inst alike: the same error, the same index, the same table; the arguments read as they did. -/
import Derived.Test.YtchlfjhbijmdiaaGreatDoorAiJI5
import Derived.Test.YtchlfjhbijmdiaaGreatDoorAiJI6
import Derived.Test.YtchlfjhbijmdiaaGreatDoorCards
import Derived.Test.YtchlfjhbijmdiaaGreatDoorTie
import Derived.WalkKit
import Derived.ProofKit
import Derived.OpenShut
import Derived.Lay
import Derived.Carry
import Derived.Deep.DeepHandedRow
import Derived.Lib.LaidTab
set_option linter.unusedSimpArgs false
set_option linter.unusedVariables false
namespace Go.Proofs.YtchlfjhbijmdiaaGreatDoor.instsPuts
open Go.ChangeShapes Go.WideShapes Go.ChangeAt Go.RowKit
set_option maxRecDepth 100000

theorem own:ownKnob Tryz.prog.godebug=none:=by kernel_rfl
theorem laidOut:laidOutB Tryz.prog=true:=by kernel_rfl
def stTys:List TypeId:=[22,26,23,39,37,3,9,24,55]
theorem stPlain:Ai.plainTys Tryz.prog stTys=true:=by kernel_rfl
section
variable {H:Type}
theorem i_alts (N:Nat) (d:DataW H) (vs:List Ai.V) (h:Ai.vcells Tryz.prog N 23 d=some vs):∃xs:List Ai.Alt,Ai.fullL vs=[.list (xs.map Ai.eA)] :=
 Ai.v_aggs (fun _ _ _ h=>Ai.v_alt Tryz.underlying39 rfl Tryz.underlying9 Tryz.underlying37 Tryz.underlying3 h) Tryz.underlying23 (by unfold Ai.aggT; rw [Tryz.underlying39]; rfl) h
theorem i_modes (N:Nat) (d:DataW H) (vs:List Ai.V) (h:Ai.vcells Tryz.prog N 24 d=some vs):∃xs:List (Int×Int),Ai.fullL vs=[.list (xs.map Ai.eM)] :=
 Ai.v_aggs (fun _ _ _ h=>Ai.v_mode Tryz.underlying55 rfl Tryz.underlying3 h) Tryz.underlying24 (by unfold Ai.aggT; rw [Tryz.underlying55]; rfl) h
theorem i_inst (N:Nat) (d:DataW H) (vs:List Ai.V) (h:Ai.vcells Tryz.prog N 26 d=some vs):∃x:Ai.Inst,Ai.V.agg (Ai.fullL vs)=Ai.eX x :=
 Ai.v_inst Tryz.underlying26 rfl Tryz.underlying3 i_alts i_modes h
theorem i_insts (N:Nat) (d:DataW H) (vs:List Ai.V) (h:Ai.vcells Tryz.prog N 22 d=some vs):∃xs:List Ai.Inst,Ai.fullL vs=[.list (xs.map Ai.eX)] :=
 Ai.v_aggs i_inst Tryz.underlying22 (by unfold Ai.aggT; rw [Tryz.underlying26]; rfl) h
end
theorem law (l:List Ai.Inst) (x:Ai.Inst) (v w:Value) (W:World) (hr:Ai.RepL (Ai.start W) [.list (l.map Ai.eX),Ai.eX x] [v,w]) :
  Calls Tryz.prog 3 #[v,w] W fun E w'=>E=.returned (.bool true)∧Go.RowKit.Below W.heap.size W w' :=
 Ai.pure_true (Ai.p200 l x) (fun g cs h=>by cases h) hr

theorem contract (H:Type) (enc:TypeId×Value→H) (W:World) (base:Nat) (args:Array Value) (ds gs:List (DataW H)) (before:List MemPlace)
  (hval:∀(j:Nat) t v,Tryz.f3.params[j]?=some t→args[j]?=some v→Value.okWide Tryz.prog W .any base t v)
  (hW:DataW.Whole enc Tryz.prog Tryz.f3.params.toList Rows.instsPutsSpec.vars false W args.toList ds gs before) :
  Calls Tryz.prog 3 args W fun e W'=>∃v,e=.returned v∧Rows.instsPutsSpec.post enc Tryz.prog Tryz.f3 false true false false W args v W':=by
 have hW':=hW
 obtain ⟨p,q,hA0,hV,rfl,hfz,hnd⟩:=hW
 have hA:DataW.TrodAll enc Tryz.prog W 0 (fun _=>true) true Tryz.f3.params.toList args.toList ds p:=hA0
 rw [Tryz.params3] at hA hval
 obtain ⟨v0,vs0,d0,ds0,p0,q0,hargs,rfl,rfl,h0,r0⟩:=trodAll_cons hA
 obtain ⟨v1,vs1,d1,ds1,p1,q1,rfl,rfl,rfl,h1,r1⟩:=trodAll_cons r0
 obtain ⟨rfl,rfl,rfl⟩:=trodAll_nil r1
 obtain rfl:args=#[v0,v1]:=by cases args; simp_all
 obtain ⟨rfl,rfl⟩:=trodVars_none hV
 obtain ⟨a,len,cap,rfl⟩:=okWide_slice Tryz.underlying22 (hval 0 22 v0 rfl rfl)
 have hok:=hval 1 26 v1 rfl rfl
 unfold Value.okWide at hok
 rw [Tryz.underlying26] at hok
 obtain ⟨cs,rfl,hsz,_⟩:=hok
 clear hA0
 simp only [List.append_nil] at hW'
 have hlt0:∀x∈p0,x.block<W.heap.size:=fun x hx=>by simpa using hW'.lt x (by simp [hx])
 have hlt1:∀x∈p1,x.block<W.heap.size:=fun x hx=>by simpa using hW'.lt x (by simp [hx])
 obtain ⟨N,vs,hv,hrep,_⟩:=Ai.plain_ok stPlain (by decide) h0
 obtain ⟨M,ws,hw,hrep1,_⟩:=Ai.plain_ok stPlain (by decide) h1
 obtain ⟨l,hl⟩:=i_insts N d0 vs hv
 obtain ⟨x,hx⟩:=i_inst M d1 ws hw
 have hrep':=hrep.full
 rw [hl] at hrep'
 have hx1:Ai.Rep (Ai.start W) (Ai.eX x) (.agg cs):=by
  rw [← hx]
  exact .agg hrep1.full
 have hr:Ai.RepL (Ai.start W) [.list (l.map Ai.eX),Ai.eX x] [.slice a len cap,.agg cs]:=by
  cases hrep' with
  | cons g _=>exact .cons g (.cons hx1 .nil)
 refine (law l x _ _ W hr).mono ?_
 rintro e W' ⟨rfl,hb⟩
 exact ⟨_,rfl,_,_,_,[],p0++p1,[],hW',trodAll_cons_mk (shut_bool Tryz.underlying4 _) trodAll_mk0,by
  have:=trodAll_cons_mk (Below.trod laidOut (by kernel_rfl) (of_decide_eq_true (by kernel_rfl)) h0 hb hlt0) (trodAll_cons_mk (Below.trod laidOut (by kernel_rfl) (of_decide_eq_true (by kernel_rfl)) h1 hb hlt1) trodAll_mk0)
  simp only [List.append_nil] at this
  exact this,rfl,hb.frame _,fun h=>by cases h⟩
noncomputable def laidWorld (os:Os):World:=World.laidAll Tryz.prog os Rows.instsPutsRow.laid
abbrev zeros:Array Value:=#[.slice none 0 0,.agg #[.int .i64 0,.slice none 0 0,.slice none 0 0,.int .i64 0]]
theorem laid_met (os:Os):laidMet Tryz.prog Rows.instsPutsRow.laid ((laidWorld os).forCall (fun _ _=>0) ⟨#[],zeros,[]⟩).memory :=
 laidMet_laidAll _ (by kernel_rfl) (by kernel_rfl)
theorem laid_metH (os:Os):laidMetH Tryz.prog Rows.instsPutsRow.laid ((laidWorld os).forCall (fun _ _=>0) ⟨#[],zeros,[]⟩).memory:=by
 rw [MakeChecks.laidMetH_plain _ _ _ (by kernel_rfl)]; exact laid_met os
theorem reads (os:Os) {H:Type} (enc:TypeId×Value→H):∃places,DataW.whole enc Tryz.prog ((laidWorld os).forCall (fun _ _=>0) ⟨#[],zeros,[]⟩).memory Tryz.f3.params.toList Rows.instsPutsSpec.vars false zeros.toList 8=some ([.nil,.agg [.lit (.int .i64 0),.nil,.nil,.lit (.int .i64 0)]],[],places) :=
 ⟨[],by kernel_rfl⟩

theorem lifted (os:Os) (started:os.Started) (H:Type) (enc:TypeId×Value→H) (F:Stop.Interp) :
  ReturnsInHanded {} Tryz.checked os 3 .any ((OpenSpec.ofChange Rows.instsPutsSpec).preRow enc Tryz.prog Tryz.f3 Rows.instsPutsRow.domain false Rows.instsPutsRow.laid) (((OpenSpec.ofChange Rows.instsPutsSpec).at F).post enc Tryz.prog Tryz.f3 false true false false):=by
 obtain ⟨places,hx⟩:=reads os enc
 refine returnsInHanded_of_row (C:=Tryz.checked) (s:=OpenSpec.ofChange Rows.instsPutsSpec) own started (by kernel_rfl) Tryz.func3
  (Ai.witness_zip (enc:=enc) (C:=Tryz.checked) false (laidWorld os) zeros (World.laidAll_os _ _ _) (World.shaped_of_ZipB (by kernel_rfl) (by kernel_rfl)) (by kernel_rfl)
   (OpenSpec.preRow_of_cond 8 hx (by kernel_rfl) (fun k hk=>by cases hk) (by kernel_rfl) (laid_metH os))) ?_
 intro W base args ds gs before hval hW _ _ _ hL _ _
 exact contract H enc W base args ds gs before hval hW

theorem both {a b:Bool} (h1:a=true) (h2:b=true):(a && b)=true:=by rw [h1,h2]; rfl
theorem closed:joinedFacts Tryz.prog 3 Tryz.f3 (OpenSpec.ofChange Rows.instsPutsSpec).bare Rows.instsPutsRow=true:=by
 unfold joinedFacts
 exact (both (both (both (both (both (both (both (both (both (both (both (both (both (both (both (both (both (both (both (both (both (both (both (both (both (both (both (both (both (both (both (by kernel_rfl) k2) k3) (by kernel_rfl)) k5) (by kernel_rfl)) (by kernel_rfl)) (by kernel_rfl)) (by kernel_rfl)) k10) k11) k12) k13) (by kernel_rfl)) (by kernel_rfl)) (by kernel_rfl)) (by kernel_rfl)) (by kernel_rfl)) (by kernel_rfl)) (by kernel_rfl)) (by kernel_rfl)) (by kernel_rfl)) k22) (by kernel_rfl)) k23b) k24) k24b) k24c) (by kernel_rfl)) (by kernel_rfl)) (by kernel_rfl)) (by kernel_rfl))
theorem named_at:Tryz.pinned.checked.prog.funcNamed Rows.instsPutsRow.func=some 3:=by kernel_rfl
theorem inst_at:Tryz.f3.isInstance Tryz.pinned.checked.prog Rows.instsPutsRow.origin Rows.instsPutsRow.targs:=of_decide_eq_true (by kernel_rfl)
theorem wrap_at:Tryz.f3.isWrapper Tryz.pinned.checked.prog Rows.instsPutsRow.wrapper Rows.instsPutsRow.mainSum:=by
 unfold Func.isWrapper; first | (rw [if_pos (by decide +kernel)]; kernel_rfl) | (rw [if_neg (by decide +kernel)]; exact ⟨rfl,rfl⟩)

theorem said:Rows.InstsPutsSaid :=
 OpenClaim.holds_of_cond 3 Tryz.f3 rfl rfl rfl rfl rfl rfl rfl ⟨rfl,rfl,rfl,rfl,rfl⟩ rfl rfl rfl rfl rfl named_at Tryz.func3 closed
  inst_at wrap_at
  (fun os started H enc _ F=>by rw [OpenClaim.pre_eq_preRow]; exact lifted os started H enc F)

theorem plain (f:FuncId) (fn:Func) (hf:Tryz.pinned.checked.prog.funcNamed "cinnabar/cinnabarlaw16.InstsPuts"=some f) (hfn:Tryz.pinned.checked.prog.funcs[f]?=some fn) :
  false=Tryz.pinned.checked.prog.looks []∧∀(j:Nat) t,fn.params[j]?=some t→Tryz.pinned.checked.prog.wantsStandIn t=false:=by
 obtain rfl:f=3:=Option.some.inj ((show Tryz.prog.funcNamed "cinnabar/cinnabarlaw16.InstsPuts"=some 3 by kernel_rfl).symm.trans hf) |>.symm
 obtain rfl:fn=Tryz.f3:=(Option.some.inj (Tryz.func3.symm.trans hfn)).symm
 refine ⟨by kernel_rfl,fun j t ht=>?_⟩
 rw [Tryz.params3] at ht
 have hm:t∈[22,26]:=by simpa using Array.mem_of_getElem? ht
 have hall:([22,26].all fun u=>!Tryz.prog.wantsStandIn u)=true:=by kernel_rfl
 exact (show Tryz.prog.wantsStandIn t=false by simpa using List.all_eq_true.1 hall t hm)

theorem card:Rows.InstsPutsCardSaid :=
 Claim7.holds_tied_plain_at .later [] _ _ _ _ said (fun _ h=>by cases h) (by kernel_rfl) (fun _ h=>by cases h) instsPuts_row_tie rfl ⟨rfl,rfl⟩ (by kernel_rfl) rfl plain (by kernel_rfl)
end Go.Proofs.YtchlfjhbijmdiaaGreatDoor.instsPuts
#print axioms Go.Proofs.YtchlfjhbijmdiaaGreatDoor.instsPuts.card

