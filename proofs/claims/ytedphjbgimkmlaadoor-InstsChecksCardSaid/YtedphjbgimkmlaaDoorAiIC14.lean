/- The law InstsChecks of package cinnabarlaw16 returns true for every table: the program and the reference find the same fault in a table, and the same insts with values; the argument reads as it did. -/
import Derived.Test.YtedphjbgimkmlaaDoorAiIC12
import Derived.Test.YtedphjbgimkmlaaDoorAiIC13
import Derived.Test.YtedphjbgimkmlaaDoorCards
import Derived.Test.YtedphjbgimkmlaaDoorTie
import Derived.WalkKit
import Derived.ProofKit
import Derived.OpenShut
import Derived.Lay
import Derived.Carry
import Derived.Deep.DeepHandedRow
import Derived.Lib.LaidTab
set_option linter.unusedSimpArgs false
set_option linter.unusedVariables false
namespace Go.Proofs.YtedphjbgimkmlaaDoor.instsChecks
open Go.ChangeShapes Go.WideShapes Go.ChangeAt Go.RowKit
set_option maxRecDepth 100000

theorem own : ownKnob Tryd.prog.godebug = none := by kernel_rfl
theorem laidOut : laidOutB Tryd.prog = true := by kernel_rfl
def stTys : List TypeId := [22, 35, 32, 39, 37, 3, 9, 33, 70]
theorem stPlain : Ai.plainTys Tryd.prog stTys = true := by kernel_rfl
section
variable {H : Type}
theorem i_alts (N : Nat) (d : DataW H) (vs : List Ai.V) (h : Ai.vcells Tryd.prog N 32 d = some vs) : ∃ xs : List Ai.Alt, Ai.fullL vs = [.list (xs.map Ai.eA)] :=
  Ai.v_aggs (fun _ _ _ h => Ai.v_alt Tryd.underlying39 rfl Tryd.underlying9 Tryd.underlying37 Tryd.underlying3 h) Tryd.underlying32 (by unfold Ai.aggT; rw [Tryd.underlying39]; rfl) h
theorem i_modes (N : Nat) (d : DataW H) (vs : List Ai.V) (h : Ai.vcells Tryd.prog N 33 d = some vs) : ∃ xs : List (Int × Int), Ai.fullL vs = [.list (xs.map Ai.eM)] :=
  Ai.v_aggs (fun _ _ _ h => Ai.v_mode Tryd.underlying70 rfl Tryd.underlying3 h) Tryd.underlying33 (by unfold Ai.aggT; rw [Tryd.underlying70]; rfl) h
theorem i_insts (N : Nat) (d : DataW H) (vs : List Ai.V) (h : Ai.vcells Tryd.prog N 22 d = some vs) : ∃ xs : List Ai.Inst, Ai.fullL vs = [.list (xs.map Ai.eX)] :=
  Ai.v_aggs (fun _ _ _ h => Ai.v_inst Tryd.underlying35 rfl Tryd.underlying3 i_alts i_modes h) Tryd.underlying22 (by unfold Ai.aggT; rw [Tryd.underlying35]; rfl) h
end
theorem law (l : List Ai.Inst) (v : Value) (W : World) (hr : Ai.RepL (Ai.start W) [.list (l.map Ai.eX)] [v]) :
    Calls Tryd.prog 3 #[v] W fun E w' => E = .returned (.bool true) ∧ Go.RowKit.Below W.heap.size W w' :=
  Ai.pure_true (Ai.p3 l) (fun g cs h => by cases h) hr

theorem contract (H : Type) (enc : TypeId × Value → H) (W : World) (base : Nat) (args : Array Value) (ds gs : List (DataW H)) (before : List MemPlace)
    (hval : ∀ (j : Nat) t v, Tryd.f3.params[j]? = some t → args[j]? = some v → Value.okWide Tryd.prog W .any base t v)
    (hW : DataW.Whole enc Tryd.prog Tryd.f3.params.toList Rows.instsChecksSpec.vars false W args.toList ds gs before) :
    Calls Tryd.prog 3 args W fun e W' => ∃ v, e = .returned v ∧ Rows.instsChecksSpec.post enc Tryd.prog Tryd.f3 false true false false W args v W' := by
  have hW' := hW
  obtain ⟨p, q, hA0, hV, rfl, hfz, hnd⟩ := hW
  have hA : DataW.TrodAll enc Tryd.prog W 0 (fun _ => true) true Tryd.f3.params.toList args.toList ds p := hA0
  rw [Tryd.params3] at hA hval
  obtain ⟨v0, vs0, d0, ds0, p0, q0, hargs, rfl, rfl, h0, r0⟩ := trodAll_cons hA
  obtain ⟨rfl, rfl, rfl⟩ := trodAll_nil r0
  obtain rfl : args = #[v0] := by cases args; simp_all
  obtain ⟨rfl, rfl⟩ := trodVars_none hV
  obtain ⟨a, len, cap, rfl⟩ := okWide_slice Tryd.underlying22 (hval 0 22 v0 rfl rfl)
  clear hA0
  simp only [List.append_nil] at hW'
  have hlt0 : ∀ x ∈ p0, x.block < W.heap.size := fun x hx => by simpa using hW'.lt x (by simp [hx])
  obtain ⟨N, vs, hv, hrep, _⟩ := Ai.plain_ok stPlain (by decide) h0
  obtain ⟨l, hl⟩ := i_insts N d0 vs hv
  have hrep' := hrep.full
  rw [hl] at hrep'
  refine (law l _ W hrep').mono ?_
  rintro e W' ⟨rfl, hb⟩
  exact ⟨_, rfl, _, _, _, [], p0, [], hW', trodAll_cons_mk (shut_bool Tryd.underlying4 _) trodAll_mk0, by
    have := trodAll_cons_mk (Below.trod laidOut (by kernel_rfl) (of_decide_eq_true (by kernel_rfl)) h0 hb hlt0) trodAll_mk0
    simp only [List.append_nil] at this
    exact this, rfl, hb.frame _, fun h => by cases h⟩
noncomputable def laidWorld (os : Os) : World := World.laidAll Tryd.prog os Rows.instsChecksRow.laid
abbrev zeros : Array Value := #[.slice none 0 0]
theorem laid_met (os : Os) : laidMet Tryd.prog Rows.instsChecksRow.laid ((laidWorld os).forCall (fun _ _ => 0) ⟨#[], zeros, []⟩).memory :=
  laidMet_laidAll _ (by kernel_rfl) (by kernel_rfl)
theorem laid_metH (os : Os) : laidMetH Tryd.prog Rows.instsChecksRow.laid ((laidWorld os).forCall (fun _ _ => 0) ⟨#[], zeros, []⟩).memory := by
  rw [MakeChecks.laidMetH_plain _ _ _ (by kernel_rfl)]; exact laid_met os
theorem reads (os : Os) {H : Type} (enc : TypeId × Value → H) : ∃ places, DataW.whole enc Tryd.prog ((laidWorld os).forCall (fun _ _ => 0) ⟨#[], zeros, []⟩).memory Tryd.f3.params.toList Rows.instsChecksSpec.vars false zeros.toList 8 = some ([.nil], [], places) :=
  ⟨[], by kernel_rfl⟩

theorem lifted (os : Os) (started : os.Started) (H : Type) (enc : TypeId × Value → H) (F : Stop.Interp) :
    ReturnsInHanded {} Tryd.checked os 3 .any ((OpenSpec.ofChange Rows.instsChecksSpec).preRow enc Tryd.prog Tryd.f3 Rows.instsChecksRow.domain false Rows.instsChecksRow.laid) (((OpenSpec.ofChange Rows.instsChecksSpec).at F).post enc Tryd.prog Tryd.f3 false true false false) := by
  obtain ⟨places, hx⟩ := reads os enc
  refine returnsInHanded_of_row (C := Tryd.checked) (s := OpenSpec.ofChange Rows.instsChecksSpec) own started (by kernel_rfl) Tryd.func3
    (Ai.witness_zip (enc := enc) (C := Tryd.checked) false (laidWorld os) zeros (World.laidAll_os _ _ _) (World.shaped_of_ZipB (by kernel_rfl) (by kernel_rfl)) (by kernel_rfl)
      (OpenSpec.preRow_of_cond 8 hx (by kernel_rfl) (fun k hk => by cases hk) (by kernel_rfl) (laid_metH os))) ?_
  intro W base args ds gs before hval hW _ _ _ hL _ _
  exact contract H enc W base args ds gs before hval hW

theorem both {a b : Bool} (h1 : a = true) (h2 : b = true) : (a && b) = true := by rw [h1, h2]; rfl
theorem closed : joinedFacts Tryd.prog 3 Tryd.f3 (OpenSpec.ofChange Rows.instsChecksSpec).bare Rows.instsChecksRow = true := by
  unfold joinedFacts
  exact (both (both (both (both (both (both (both (both (both (both (both (both (both (both (both (both (both (both (both (both (both (both (both (both (both (both (both (both (both (both (both (by kernel_rfl) k2) k3) (by kernel_rfl)) k5) (by kernel_rfl)) (by kernel_rfl)) (by kernel_rfl)) (by kernel_rfl)) k10) k11) k12) k13) (by kernel_rfl)) (by kernel_rfl)) (by kernel_rfl)) (by kernel_rfl)) (by kernel_rfl)) (by kernel_rfl)) (by kernel_rfl)) (by kernel_rfl)) (by kernel_rfl)) k22) (by kernel_rfl)) k23b) k24) k24b) k24c) (by kernel_rfl)) (by kernel_rfl)) (by kernel_rfl)) (by kernel_rfl))
theorem named_at : Tryd.pinned.checked.prog.funcNamed Rows.instsChecksRow.func = some 3 := by kernel_rfl
theorem inst_at : Tryd.f3.isInstance Tryd.pinned.checked.prog Rows.instsChecksRow.origin Rows.instsChecksRow.targs := of_decide_eq_true (by kernel_rfl)
theorem wrap_at : Tryd.f3.isWrapper Tryd.pinned.checked.prog Rows.instsChecksRow.wrapper Rows.instsChecksRow.mainSum := by
  unfold Func.isWrapper; first | (rw [if_pos (by decide +kernel)]; kernel_rfl) | (rw [if_neg (by decide +kernel)]; exact ⟨rfl, rfl⟩)

theorem said : Rows.InstsChecksSaid :=
  OpenClaim.holds_of_cond 3 Tryd.f3 rfl rfl rfl rfl rfl rfl rfl ⟨rfl, rfl, rfl, rfl, rfl⟩ rfl rfl rfl rfl rfl named_at Tryd.func3 closed
    inst_at wrap_at
    (fun os started H enc _ F => by rw [OpenClaim.pre_eq_preRow]; exact lifted os started H enc F)

theorem plain (f : FuncId) (fn : Func) (hf : Tryd.pinned.checked.prog.funcNamed "cinnabar/cinnabarlaw16.InstsChecks" = some f) (hfn : Tryd.pinned.checked.prog.funcs[f]? = some fn) :
    false = Tryd.pinned.checked.prog.looks [] ∧ ∀ (j : Nat) t, fn.params[j]? = some t → Tryd.pinned.checked.prog.wantsStandIn t = false := by
  obtain rfl : f = 3 := Option.some.inj ((show Tryd.prog.funcNamed "cinnabar/cinnabarlaw16.InstsChecks" = some 3 by kernel_rfl).symm.trans hf) |>.symm
  obtain rfl : fn = Tryd.f3 := (Option.some.inj (Tryd.func3.symm.trans hfn)).symm
  refine ⟨by kernel_rfl, fun j t ht => ?_⟩
  rw [Tryd.params3] at ht
  have hm : t ∈ [22] := by simpa using Array.mem_of_getElem? ht
  have hall : ([22].all fun u => !Tryd.prog.wantsStandIn u) = true := by kernel_rfl
  exact (show Tryd.prog.wantsStandIn t = false by simpa using List.all_eq_true.1 hall t hm)

theorem card : Rows.InstsChecksCardSaid :=
  Claim7.holds_tied_plain_at .later [] _ _ _ _ said (fun _ h => by cases h) (by kernel_rfl) (fun _ h => by cases h) instsChecks_row_tie rfl ⟨rfl, rfl⟩ (by kernel_rfl) rfl plain (by kernel_rfl)
end Go.Proofs.YtedphjbgimkmlaaDoor.instsChecks
#print axioms Go.Proofs.YtedphjbgimkmlaaDoor.instsChecks.card

