/- The law VerifyJoins of package cinnabarlaw35 returns true for every three states: joining is commutative, idempotent and associative; the argument reads as it did. -/
import Derived.Test.YtcmcedphaipgkaaGreatDoorAiVB3
import Derived.Test.YtcmcedphaipgkaaGreatDoorAiVB5
import Derived.Test.YtcmcedphaipgkaaGreatDoorCards
import Derived.Test.YtcmcedphaipgkaaGreatDoorTie
import Derived.WalkKit
import Derived.ProofKit
import Derived.OpenShut
import Derived.Lay
import Derived.Carry
import Derived.Deep.DeepHandedRow
import Derived.Lib.LaidTab
set_option linter.unusedSimpArgs false
set_option linter.unusedVariables false
namespace Go.Proofs.YtcmcedphaipgkaaGreatDoor.verifyJoins
open Go.ChangeShapes Go.WideShapes Go.ChangeAt Go.RowKit
set_option maxRecDepth 100000

theorem own : ownKnob Tryz.prog.godebug = none := by kernel_rfl
theorem laidOut : laidOutB Tryz.prog = true := by kernel_rfl
def stTys : List TypeId := [25, 24, 22, 3]
theorem stPlain : Ai.plainTys Tryz.prog stTys = true := by kernel_rfl

theorem law (x y z : Ai.St) (cs : Array Value) (W : World) (hr : Ai.RepL (Ai.start W) [.list (x.slots.map Ai.vI), .int .i64 x.opn, .list (y.slots.map Ai.vI), .int .i64 y.opn, .list (z.slots.map Ai.vI), .int .i64 z.opn] cs.toList) :
    Calls Tryz.prog 3 #[.agg cs] W fun E w' => E = .returned (.bool true) ∧ Go.RowKit.Below W.heap.size W w' :=
  Ai.pure_true (Ai.vj3 x y z) (fun g cs h => by cases h) (.cons (.agg hr) .nil)

theorem contract (H : Type) (enc : TypeId × Value → H) (W : World) (base : Nat) (args : Array Value) (ds gs : List (DataW H)) (before : List MemPlace)
    (hval : ∀ (j : Nat) t v, Tryz.f3.params[j]? = some t → args[j]? = some v → Value.okWide Tryz.prog W .any base t v)
    (hW : DataW.Whole enc Tryz.prog Tryz.f3.params.toList Rows.verifyJoinsSpec.vars false W args.toList ds gs before) :
    Calls Tryz.prog 3 args W fun e W' => ∃ v, e = .returned v ∧ Rows.verifyJoinsSpec.post enc Tryz.prog Tryz.f3 false true false false W args v W' := by
  have hW' := hW
  obtain ⟨p, q, hA0, hV, rfl, hfz, hnd⟩ := hW
  have hA : DataW.TrodAll enc Tryz.prog W 0 (fun _ => true) true Tryz.f3.params.toList args.toList ds p := hA0
  rw [Tryz.params3] at hA hval
  obtain ⟨v0, vs0, d0, ds0, p0, q0, hargs, rfl, rfl, h0, r0⟩ := trodAll_cons hA
  obtain ⟨rfl, rfl, rfl⟩ := trodAll_nil r0
  obtain rfl : args = #[v0] := by cases args; simp_all
  obtain ⟨rfl, rfl⟩ := trodVars_none hV
  have hok := hval 0 25 v0 rfl rfl
  unfold Value.okWide at hok
  rw [Tryz.underlying25] at hok
  obtain ⟨cs, rfl, hsz, _⟩ := hok
  clear hA0
  simp only [List.append_nil] at hW'
  have hlt0 : ∀ x ∈ p0, x.block < W.heap.size := fun x hx => by simpa using hW'.lt x (by simp [hx])
  obtain ⟨N, vs, hv, hrep, _⟩ := Ai.plain_ok stPlain (by decide) h0
  obtain ⟨N', ps, hcat⟩ := Ai.v_array Tryz.underlying25 hv
  obtain ⟨e0, ps0, c0, r0', rfl, hc0, hr0, rfl⟩ := Ai.catV_cons hcat
  obtain ⟨e1, ps1, c1, r1', rfl, hc1, hr1, rfl⟩ := Ai.catV_cons hr0
  obtain ⟨e2, ps2, c2, r2', rfl, hc2, hr2, rfl⟩ := Ai.catV_cons hr1
  obtain rfl := Ai.catV_nil hr2
  obtain ⟨xs, o, hx⟩ := Ai.v_state Tryz.underlying24 rfl Tryz.underlying22 Tryz.underlying3 hc0
  obtain ⟨ys, o', hy⟩ := Ai.v_state Tryz.underlying24 rfl Tryz.underlying22 Tryz.underlying3 hc1
  obtain ⟨zs, o'', hz⟩ := Ai.v_state Tryz.underlying24 rfl Tryz.underlying22 Tryz.underlying3 hc2
  have hrep' := Ai.repL_full hrep
  simp only [List.map_append, hx, hy, hz, List.append_nil, List.cons_append, List.nil_append, Value.cells] at hrep'
  refine (law ⟨xs, o⟩ ⟨ys, o'⟩ ⟨zs, o''⟩ cs W hrep').mono ?_
  rintro e W' ⟨rfl, hb⟩
  exact ⟨_, rfl, _, _, _, [], p0, [], hW', trodAll_cons_mk (shut_bool Tryz.underlying4 _) trodAll_mk0, by
    have := trodAll_cons_mk (Below.trod laidOut (by kernel_rfl) (of_decide_eq_true (by kernel_rfl)) h0 hb hlt0) trodAll_mk0
    simp only [List.append_nil] at this
    exact this, rfl, hb.frame _, fun h => by cases h⟩

noncomputable def laidWorld (os : Os) : World := World.laidAll Tryz.prog os Rows.verifyJoinsRow.laid
abbrev zeros : Array Value := #[.agg #[.slice none 0 0, .int .i64 0, .slice none 0 0, .int .i64 0, .slice none 0 0, .int .i64 0]]
theorem laid_met (os : Os) : laidMet Tryz.prog Rows.verifyJoinsRow.laid ((laidWorld os).forCall (fun _ _ => 0) ⟨#[], zeros, []⟩).memory :=
  laidMet_laidAll _ (by kernel_rfl) (by kernel_rfl)
theorem laid_metH (os : Os) : laidMetH Tryz.prog Rows.verifyJoinsRow.laid ((laidWorld os).forCall (fun _ _ => 0) ⟨#[], zeros, []⟩).memory := by
  rw [MakeChecks.laidMetH_plain _ _ _ (by kernel_rfl)]; exact laid_met os
theorem reads (os : Os) {H : Type} (enc : TypeId × Value → H) : ∃ places, DataW.whole enc Tryz.prog ((laidWorld os).forCall (fun _ _ => 0) ⟨#[], zeros, []⟩).memory Tryz.f3.params.toList Rows.verifyJoinsSpec.vars false zeros.toList 8 = some ([.agg [.agg [.nil, .lit (.int .i64 0)], .agg [.nil, .lit (.int .i64 0)], .agg [.nil, .lit (.int .i64 0)]]], [], places) :=
  ⟨[], by kernel_rfl⟩

theorem lifted (os : Os) (started : os.Started) (H : Type) (enc : TypeId × Value → H) (F : Stop.Interp) :
    ReturnsInHanded {} Tryz.checked os 3 .any ((OpenSpec.ofChange Rows.verifyJoinsSpec).preRow enc Tryz.prog Tryz.f3 Rows.verifyJoinsRow.domain false Rows.verifyJoinsRow.laid) (((OpenSpec.ofChange Rows.verifyJoinsSpec).at F).post enc Tryz.prog Tryz.f3 false true false false) := by
  obtain ⟨places, hx⟩ := reads os enc
  refine returnsInHanded_of_row (C := Tryz.checked) (s := OpenSpec.ofChange Rows.verifyJoinsSpec) own started (by kernel_rfl) Tryz.func3
    (Ai.witness_zip (enc := enc) (C := Tryz.checked) false (laidWorld os) zeros (World.laidAll_os _ _ _) (World.shaped_of_ZipB (by kernel_rfl) (by kernel_rfl)) (by kernel_rfl)
      (OpenSpec.preRow_of_cond 8 hx (by kernel_rfl) (fun k hk => by cases hk) (by kernel_rfl) (laid_metH os))) ?_
  intro W base args ds gs before hval hW _ _ _ hL _ _
  exact contract H enc W base args ds gs before hval hW

theorem both {a b : Bool} (h1 : a = true) (h2 : b = true) : (a && b) = true := by rw [h1, h2]; rfl
theorem closed : joinedFacts Tryz.prog 3 Tryz.f3 (OpenSpec.ofChange Rows.verifyJoinsSpec).bare Rows.verifyJoinsRow = true := by
  unfold joinedFacts
  exact (both (both (both (both (both (both (both (both (both (both (both (both (both (both (both (both (both (both (both (both (both (both (both (both (both (both (both (both (both (both (both (by kernel_rfl) k2) k3) (by kernel_rfl)) k5) (by kernel_rfl)) (by kernel_rfl)) (by kernel_rfl)) (by kernel_rfl)) k10) k11) k12) k13) (by kernel_rfl)) (by kernel_rfl)) (by kernel_rfl)) (by kernel_rfl)) (by kernel_rfl)) (by kernel_rfl)) (by kernel_rfl)) (by kernel_rfl)) (by kernel_rfl)) k22) (by kernel_rfl)) k23b) k24) k24b) k24c) (by kernel_rfl)) (by kernel_rfl)) (by kernel_rfl)) (by kernel_rfl))
theorem named_at : Tryz.pinned.checked.prog.funcNamed Rows.verifyJoinsRow.func = some 3 := by kernel_rfl
theorem inst_at : Tryz.f3.isInstance Tryz.pinned.checked.prog Rows.verifyJoinsRow.origin Rows.verifyJoinsRow.targs := of_decide_eq_true (by kernel_rfl)
theorem wrap_at : Tryz.f3.isWrapper Tryz.pinned.checked.prog Rows.verifyJoinsRow.wrapper Rows.verifyJoinsRow.mainSum := by
  unfold Func.isWrapper; first | (rw [if_pos (by decide +kernel)]; kernel_rfl) | (rw [if_neg (by decide +kernel)]; exact ⟨rfl, rfl⟩)

theorem said : Rows.VerifyJoinsSaid :=
  OpenClaim.holds_of_cond 3 Tryz.f3 rfl rfl rfl rfl rfl rfl rfl ⟨rfl, rfl, rfl, rfl, rfl⟩ rfl rfl rfl rfl rfl named_at Tryz.func3 closed
    inst_at wrap_at
    (fun os started H enc _ F => by rw [OpenClaim.pre_eq_preRow]; exact lifted os started H enc F)

theorem plain (f : FuncId) (fn : Func) (hf : Tryz.pinned.checked.prog.funcNamed "cinnabar/cinnabarlaw35.VerifyJoins" = some f) (hfn : Tryz.pinned.checked.prog.funcs[f]? = some fn) :
    true = Tryz.pinned.checked.prog.looks [] ∧ ∀ (j : Nat) t, fn.params[j]? = some t → Tryz.pinned.checked.prog.wantsStandIn t = false := by
  obtain rfl : f = 3 := Option.some.inj ((show Tryz.prog.funcNamed "cinnabar/cinnabarlaw35.VerifyJoins" = some 3 by kernel_rfl).symm.trans hf) |>.symm
  obtain rfl : fn = Tryz.f3 := (Option.some.inj (Tryz.func3.symm.trans hfn)).symm
  refine ⟨by kernel_rfl, fun j t ht => ?_⟩
  rw [Tryz.params3] at ht
  have hm : t ∈ [25] := by simpa using Array.mem_of_getElem? ht
  have hall : ([25].all fun u => !Tryz.prog.wantsStandIn u) = true := by kernel_rfl
  exact (show Tryz.prog.wantsStandIn t = false by simpa using List.all_eq_true.1 hall t hm)

theorem card : Rows.VerifyJoinsCardSaid :=
  Claim7.holds_tied_plain_at .later [] _ _ _ _ said (fun _ h => by cases h) (by kernel_rfl) (fun _ h => by cases h) verifyJoins_row_tie rfl ⟨rfl, rfl⟩ (by kernel_rfl) rfl plain (by kernel_rfl)
end Go.Proofs.YtcmcedphaipgkaaGreatDoor.verifyJoins
#print axioms Go.Proofs.YtcmcedphaipgkaaGreatDoor.verifyJoins.card

