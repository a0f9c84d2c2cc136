/- The law DetsAlgebra of package cinnabarlaw19 returns true for every three numbers; the package-level variables stand as the program's text lays them. -/
import Derived.Test.YtejjnakhijgkaaaGreatDoorAiDE5
import Derived.Test.YtejjnakhijgkaaaGreatDoorAiDB7
import Derived.Test.YtejjnakhijgkaaaGreatDoorCards
import Derived.Test.YtejjnakhijgkaaaGreatDoorTie
import Derived.WalkKit
import Derived.ProofKit
import Derived.OpenShut
import Derived.Lay
import Derived.Deep.DeepHandedRow
import Derived.Lib.LaidTab
namespace Go.Proofs.YtejjnakhijgkaaaGreatDoor.detsAlgebra
open Go.ChangeShapes Go.WideShapes Go.ChangeAt Go.RowKit
set_option maxRecDepth 100000

theorem own : ownKnob Tryz.prog.godebug = none := by kernel_rfl

theorem run_true (d e f : Int) : Ai.run4 d e f = true := Ai.run4_true d e f

theorem law (d e f : Int) (W : World) (hL : laidMetH Tryz.prog Rows.detsAlgebraRow.laid W) : Calls Tryz.prog 4 #[.int .i64 d, .int .i64 e, .int .i64 f] W fun E w' => E = .returned (.bool true) ∧ Go.RowKit.Below W.heap.size W w' := by
  obtain ⟨s', h⟩ := Ai.isTrue_of (run_true d e f)
  rw [MakeChecks.laidMetH_plain _ _ _ (by kernel_rfl)] at hL
  refine Ai.call_true Ai.ok1 (fn := Tryz.f4) (by kernel_rfl) (fun g cs h => ?_) (.cons (.int .i64 d) (.cons (.int .i64 e) (.cons (.int .i64 f) .nil))) h
  change Ai.globD g = some cs at h
  unfold Ai.globD at h
  split at h
  · rename_i hg
    have : g = 0 := Nat.eq_of_beq_eq_true hg
    subst this
    injection h with h; subst h
    exact Ai.glob_ok hL (name := "cinnabar/dets.dets") (List.mem_of_getElem? (show Rows.detsAlgebraRow.laid[4]? = some _ from rfl)) (by kernel_rfl) (t := 74) (by kernel_rfl) (N := 3) (by kernel_rfl) (by simp [Ai.detsCells])
  · cases h

theorem contract (H : Type) (enc : TypeId × Value → H) (W : World) (base : Nat) (args : Array Value) (ds gs : List (DataW H)) (before : List MemPlace)
    (hval : ∀ (j : Nat) t v, Tryz.f4.params[j]? = some t → args[j]? = some v → Value.okWide Tryz.prog W .any base t v) (hL : laidMetH Tryz.prog Rows.detsAlgebraRow.laid W)
    (hW : DataW.Whole enc Tryz.prog Tryz.f4.params.toList Rows.detsAlgebraSpec.vars false W args.toList ds gs before) :
    Calls Tryz.prog 4 args W fun e W' => ∃ v, e = .returned v ∧ Rows.detsAlgebraSpec.post enc Tryz.prog Tryz.f4 false true false false W args v W' := by
  have hW' := hW
  obtain ⟨p, q, hA0, hV, rfl, hfz, hnd⟩ := hW
  have hA : DataW.TrodAll enc Tryz.prog W 0 (fun _ => true) true Tryz.f4.params.toList args.toList ds p := hA0
  rw [Tryz.params4] at hA hval
  obtain ⟨v0, vs0, d0, ds0, p0, q0, hargs, rfl, rfl, h0, r0⟩ := trodAll_cons hA
  obtain ⟨v1, vs1, d1, ds1, p1, q1, rfl, rfl, rfl, h1, r1⟩ := trodAll_cons r0
  obtain ⟨v2, vs2, d2, ds2, p2, q2, rfl, rfl, rfl, h2, r2⟩ := trodAll_cons r1
  obtain ⟨rfl, rfl, rfl⟩ := trodAll_nil r2
  obtain rfl : args = #[v0, v1, v2] := by cases args; simp_all
  obtain ⟨rfl, rfl⟩ := trodVars_none hV
  obtain ⟨x, rfl, rfl, rfl, wx⟩ := open_int Tryz.underlying3 (hval 0 3 v0 rfl rfl) h0
  obtain ⟨y, rfl, rfl, rfl, wy⟩ := open_int Tryz.underlying3 (hval 1 3 v1 rfl rfl) h1
  obtain ⟨z, rfl, rfl, rfl, wz⟩ := open_int Tryz.underlying3 (hval 2 3 v2 rfl rfl) h2
  clear hA0
  simp only [List.append_nil] at hW'
  refine (law x y z W hL).mono fun e W' ⟨he, hb⟩ => ?_
  subst he
  exact ⟨_, rfl, _, _, _, [], [], [], hW', trodAll_cons_mk (shut_bool Tryz.underlying4 _) trodAll_mk0, trodAll_cons_mk (shut_int Tryz.underlying3 wx) (trodAll_cons_mk (shut_int Tryz.underlying3 wy) (trodAll_cons_mk (shut_int Tryz.underlying3 wz) trodAll_mk0)), rfl, hb.frame _, fun h => by cases h⟩

noncomputable def laidWorld (os : Os) : World := World.laidAll Tryz.prog os Rows.detsAlgebraRow.laid
abbrev zeros : Array Value := #[.int .i64 0, .int .i64 0, .int .i64 0]
theorem laid_met (os : Os) : laidMet Tryz.prog Rows.detsAlgebraRow.laid ((laidWorld os).forCall (fun _ _ => 0) ⟨#[], zeros, []⟩).memory :=
  laidMet_laidAll _ (by kernel_rfl) (by kernel_rfl)
theorem laid_metH (os : Os) : laidMetH Tryz.prog Rows.detsAlgebraRow.laid ((laidWorld os).forCall (fun _ _ => 0) ⟨#[], zeros, []⟩).memory := by
  rw [MakeChecks.laidMetH_plain _ _ _ (by kernel_rfl)]; exact laid_met os
theorem reads (os : Os) {H : Type} (enc : TypeId × Value → H) : ∃ places, DataW.whole enc Tryz.prog ((laidWorld os).forCall (fun _ _ => 0) ⟨#[], zeros, []⟩).memory Tryz.f4.params.toList Rows.detsAlgebraSpec.vars false zeros.toList 8 = some ([.lit (.int .i64 0), .lit (.int .i64 0), .lit (.int .i64 0)], [], places) :=
  ⟨[], by kernel_rfl⟩

theorem lifted (os : Os) (started : os.Started) (H : Type) (enc : TypeId × Value → H) (F : Stop.Interp) :
    ReturnsInHanded {} Tryz.checked os 4 .any ((OpenSpec.ofChange Rows.detsAlgebraSpec).preRow enc Tryz.prog Tryz.f4 Rows.detsAlgebraRow.domain false Rows.detsAlgebraRow.laid) (((OpenSpec.ofChange Rows.detsAlgebraSpec).at F).post enc Tryz.prog Tryz.f4 false true false false) := by
  obtain ⟨places, hx⟩ := reads os enc
  refine returnsInHanded_of_row (C := Tryz.checked) (s := OpenSpec.ofChange Rows.detsAlgebraSpec) own started (by kernel_rfl) Tryz.func4
    (Ai.witness_zip (enc := enc) (C := Tryz.checked) false (laidWorld os) zeros (World.laidAll_os _ _ _) (World.shaped_of_ZipB (by kernel_rfl) (by kernel_rfl)) (by kernel_rfl)
      (OpenSpec.preRow_of_cond 8 hx (by kernel_rfl) (fun k hk => by cases hk) (by kernel_rfl) (laid_metH os))) ?_
  intro W base args ds gs before hval hW _ _ _ hL _ _
  exact contract H enc W base args ds gs before hval hL hW

theorem both {a b : Bool} (h1 : a = true) (h2 : b = true) : (a && b) = true := by rw [h1, h2]; rfl
theorem closed : joinedFacts Tryz.prog 4 Tryz.f4 (OpenSpec.ofChange Rows.detsAlgebraSpec).bare Rows.detsAlgebraRow = true := by
  unfold joinedFacts
  exact (both (both (both (both (both (both (both (both (both (both (both (both (both (both (both (both (both (both (both (both (both (both (both (both (both (both (both (both (both (both (both (by kernel_rfl) k2) k3) (by kernel_rfl)) k5) (by kernel_rfl)) (by kernel_rfl)) (by kernel_rfl)) (by kernel_rfl)) k10) k11) k12) k13) (by kernel_rfl)) (by kernel_rfl)) (by kernel_rfl)) (by kernel_rfl)) (by kernel_rfl)) (by kernel_rfl)) (by kernel_rfl)) (by kernel_rfl)) (by kernel_rfl)) k22) (by kernel_rfl)) k23b) k24) k24b) k24c) (by kernel_rfl)) (by kernel_rfl)) (by kernel_rfl)) (by kernel_rfl))
theorem named_at : Tryz.pinned.checked.prog.funcNamed Rows.detsAlgebraRow.func = some 4 := by kernel_rfl
theorem inst_at : Tryz.f4.isInstance Tryz.pinned.checked.prog Rows.detsAlgebraRow.origin Rows.detsAlgebraRow.targs := of_decide_eq_true (by kernel_rfl)
theorem wrap_at : Tryz.f4.isWrapper Tryz.pinned.checked.prog Rows.detsAlgebraRow.wrapper Rows.detsAlgebraRow.mainSum := by
  unfold Func.isWrapper; first | (rw [if_pos (by decide +kernel)]; kernel_rfl) | (rw [if_neg (by decide +kernel)]; exact ⟨rfl, rfl⟩)

theorem said : Rows.DetsAlgebraSaid :=
  OpenClaim.holds_of_cond 4 Tryz.f4 rfl rfl rfl rfl rfl rfl rfl ⟨rfl, rfl, rfl, rfl, rfl⟩ rfl rfl rfl rfl rfl named_at Tryz.func4 closed
    inst_at wrap_at
    (fun os started H enc _ F => by rw [OpenClaim.pre_eq_preRow]; exact lifted os started H enc F)

theorem plain (f : FuncId) (fn : Func) (hf : Tryz.pinned.checked.prog.funcNamed "cinnabar/cinnabarlaw19.DetsAlgebra" = some f) (hfn : Tryz.pinned.checked.prog.funcs[f]? = some fn) :
    true = Tryz.pinned.checked.prog.looks [] ∧ ∀ (j : Nat) t, fn.params[j]? = some t → Tryz.pinned.checked.prog.wantsStandIn t = false := by
  obtain rfl : f = 4 := Option.some.inj ((show Tryz.prog.funcNamed "cinnabar/cinnabarlaw19.DetsAlgebra" = some 4 by kernel_rfl).symm.trans hf) |>.symm
  obtain rfl : fn = Tryz.f4 := (Option.some.inj (Tryz.func4.symm.trans hfn)).symm
  refine ⟨by kernel_rfl, fun j t ht => ?_⟩
  rw [Tryz.params4] at ht
  have hm : t ∈ [3, 3, 3] := by simpa using Array.mem_of_getElem? ht
  have hall : ([3, 3, 3].all fun u => !Tryz.prog.wantsStandIn u) = true := by kernel_rfl
  exact (show Tryz.prog.wantsStandIn t = false by simpa using List.all_eq_true.1 hall t hm)

theorem card : Rows.DetsAlgebraCardSaid :=
  Claim7.holds_tied_plain_at .later [] _ _ _ _ said (fun _ h => by cases h) (by kernel_rfl) (fun _ h => by cases h) detsAlgebra_row_tie rfl ⟨rfl, rfl⟩ (by kernel_rfl) rfl plain (by kernel_rfl)
end Go.Proofs.YtejjnakhijgkaaaGreatDoor.detsAlgebra
#print axioms Go.Proofs.YtejjnakhijgkaaaGreatDoor.detsAlgebra.card
