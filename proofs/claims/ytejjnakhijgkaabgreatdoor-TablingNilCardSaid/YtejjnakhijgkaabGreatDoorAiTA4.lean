/- The law TablingNil of package cinnabarlaw29 returns true for every atom and every number: a nil engine gives errors, and the second example of the chapter holds; the arguments read as they did. -/
import Derived.Test.YtejjnakhijgkaabGreatDoorAiTA3
import Derived.Test.YtejjnakhijgkaabGreatDoorCards
import Derived.Test.YtejjnakhijgkaabGreatDoorTie
import Derived.WalkKit
import Derived.ProofKit
import Derived.OpenShut
import Derived.Lay
import Derived.Carry
import Derived.Deep.DeepHandedRow
import Derived.Lib.LaidTab
namespace Go.Proofs.YtejjnakhijgkaabGreatDoor.tablingNil
open Go.ChangeShapes Go.WideShapes Go.ChangeAt Go.RowKit
set_option maxRecDepth 100000

theorem own : ownKnob Tryz.prog.godebug = none := by kernel_rfl
theorem laidOut : laidOutB Tryz.prog = true := by kernel_rfl
def atomTys : List TypeId := [24, 9, 22, 93, 3]
theorem atomPlain : Ai.plainTys Tryz.prog atomTys = true := by kernel_rfl

theorem law (s : ByteArray) (l : Ai.V) (n : Int) (hl : l = .nils ∨ ∃ es, l = .list es) (cs : Array Value) (W : World) (hr : Ai.RepL (Ai.start W) [.str s, l] cs.toList) :
    Calls Tryz.prog 3 #[.agg cs, .int .i64 n] W fun E w' => E = .returned (.bool true) ∧ Go.RowKit.Below W.heap.size W w' := by
  have h : Ai.run3 s l n = true := by
    rcases hl with rfl | ⟨es, rfl⟩
    · exact Ai.run_nil s n
    · exact Ai.run_list s es n
  obtain ⟨s', h⟩ := Ai.isTrue_of h
  exact Ai.call_true Ai.ok1 (fn := Tryz.f3) (by kernel_rfl) (fun g cs h => by cases h) (.cons (.agg hr) (.cons (.int .i64 n) .nil)) h

theorem contract (H : Type) (enc : TypeId × Value → H) (W : World) (base : Nat) (args : Array Value) (ds gs : List (DataW H)) (before : List MemPlace)
    (hval : ∀ (j : Nat) t v, Tryz.f3.params[j]? = some t → args[j]? = some v → Value.okWide Tryz.prog W .any base t v)
    (hW : DataW.Whole enc Tryz.prog Tryz.f3.params.toList Rows.tablingNilSpec.vars false W args.toList ds gs before) :
    Calls Tryz.prog 3 args W fun e W' => ∃ v, e = .returned v ∧ Rows.tablingNilSpec.post enc Tryz.prog Tryz.f3 false true false false W args v W' := by
  have hW' := hW
  obtain ⟨p, q, hA0, hV, rfl, hfz, hnd⟩ := hW
  have hA : DataW.TrodAll enc Tryz.prog W 0 (fun _ => true) true Tryz.f3.params.toList args.toList ds p := hA0
  rw [Tryz.params3] at hA hval
  obtain ⟨v0, vs0, d0, ds0, p0, q0, hargs, rfl, rfl, h0, r0⟩ := trodAll_cons hA
  obtain ⟨v1, vs1, d1, ds1, p1, q1, rfl, rfl, rfl, h1, r1⟩ := trodAll_cons r0
  obtain ⟨rfl, rfl, rfl⟩ := trodAll_nil r1
  obtain rfl : args = #[v0, v1] := by cases args; simp_all
  obtain ⟨rfl, rfl⟩ := trodVars_none hV
  obtain ⟨y, rfl, rfl, rfl, wy⟩ := open_int Tryz.underlying3 (hval 1 3 v1 rfl rfl) h1
  have hok := hval 0 24 v0 rfl rfl
  unfold Value.okWide at hok
  rw [Tryz.underlying24] at hok
  obtain ⟨cs, rfl, hsz, _⟩ := hok
  clear hA0
  simp only [List.append_nil] at hW'
  have hlt0 : ∀ x ∈ p0, x.block < W.heap.size := fun x hx => by simpa using hW'.lt x (by simp [hx])
  obtain ⟨N, vs, hv, hrep, _⟩ := Ai.plain_ok atomPlain (by decide) h0
  obtain ⟨N', ps, hcat⟩ := Ai.v_struct Tryz.underlying24 hv
  obtain ⟨e0, ps0, c0, r0', rfl, hc0, hr0, rfl⟩ := Ai.catV_cons hcat
  obtain ⟨e1, ps1, c1, r1', rfl, hc1, hr1, rfl⟩ := Ai.catV_cons hr0
  obtain rfl := Ai.catV_nil hr1
  obtain ⟨s, rfl⟩ := Ai.v_str Tryz.underlying9 hc0
  have fin : ∀ (e : Ending) (W' : World), (e = .returned (.bool true) ∧ Go.RowKit.Below W.heap.size W W') → ∃ v, e = .returned v ∧ Rows.tablingNilSpec.post enc Tryz.prog Tryz.f3 false true false false W #[.agg cs, .int .i64 y] v W' := by
    rintro e W' ⟨rfl, hb⟩
    exact ⟨_, rfl, _, _, _, [], p0, [], hW', trodAll_cons_mk (shut_bool Tryz.underlying4 _) trodAll_mk0, by
      have := trodAll_cons_mk (Below.trod laidOut (by kernel_rfl) (of_decide_eq_true (by kernel_rfl)) h0 hb hlt0) (trodAll_cons_mk (shut_int (enc := enc) (P := Tryz.prog) (w := W') (base := 0) (held := true) (spare := fun b => decide (b < W.heap.size)) Tryz.underlying3 wy) trodAll_mk0)
      simp only [List.append_nil] at this
      exact this, rfl, hb.frame _, fun h => by cases h⟩
  rcases Ai.v_slice Tryz.underlying22 hc1 with rfl | ⟨N2, es, l, _, rfl⟩
  · exact (law s .nils y (.inl rfl) cs W (by simpa [Value.cells] using hrep)).mono fin
  · exact (law s (.list l) y (.inr ⟨l, rfl⟩) cs W (by simpa [Value.cells] using hrep)).mono fin

noncomputable def laidWorld (os : Os) : World := World.laidAll Tryz.prog os Rows.tablingNilRow.laid
abbrev zeros : Array Value := #[.agg #[.string .empty, .slice none 0 0], .int .i64 0]
theorem laid_met (os : Os) : laidMet Tryz.prog Rows.tablingNilRow.laid ((laidWorld os).forCall (fun _ _ => 0) ⟨#[], zeros, []⟩).memory :=
  laidMet_laidAll _ (by kernel_rfl) (by kernel_rfl)
theorem laid_metH (os : Os) : laidMetH Tryz.prog Rows.tablingNilRow.laid ((laidWorld os).forCall (fun _ _ => 0) ⟨#[], zeros, []⟩).memory := by
  rw [MakeChecks.laidMetH_plain _ _ _ (by kernel_rfl)]; exact laid_met os
theorem reads (os : Os) {H : Type} (enc : TypeId × Value → H) : ∃ places, DataW.whole enc Tryz.prog ((laidWorld os).forCall (fun _ _ => 0) ⟨#[], zeros, []⟩).memory Tryz.f3.params.toList Rows.tablingNilSpec.vars false zeros.toList 8 = some ([.agg [.lit (.string []), .nil], .lit (.int .i64 0)], [], places) :=
  ⟨[], by kernel_rfl⟩

theorem lifted (os : Os) (started : os.Started) (H : Type) (enc : TypeId × Value → H) (F : Stop.Interp) :
    ReturnsInHanded {} Tryz.checked os 3 .any ((OpenSpec.ofChange Rows.tablingNilSpec).preRow enc Tryz.prog Tryz.f3 Rows.tablingNilRow.domain false Rows.tablingNilRow.laid) (((OpenSpec.ofChange Rows.tablingNilSpec).at F).post enc Tryz.prog Tryz.f3 false true false false) := by
  obtain ⟨places, hx⟩ := reads os enc
  refine returnsInHanded_of_row (C := Tryz.checked) (s := OpenSpec.ofChange Rows.tablingNilSpec) own started (by kernel_rfl) Tryz.func3
    (Ai.witness_zip (enc := enc) (C := Tryz.checked) false (laidWorld os) zeros (World.laidAll_os _ _ _) (World.shaped_of_ZipB (by kernel_rfl) (by kernel_rfl)) (by kernel_rfl)
      (OpenSpec.preRow_of_cond 8 hx (by kernel_rfl) (fun k hk => by cases hk) (by kernel_rfl) (laid_metH os))) ?_
  intro W base args ds gs before hval hW _ _ _ hL _ _
  exact contract H enc W base args ds gs before hval hW

theorem said : Rows.TablingNilSaid :=
  OpenClaim.holds_of_cond 3 Tryz.f3 rfl rfl rfl rfl rfl rfl rfl ⟨rfl, rfl, rfl, rfl, rfl⟩ rfl rfl rfl rfl rfl (by kernel_rfl) Tryz.func3 (by kernel_rfl)
    (of_decide_eq_true (by kernel_rfl)) (by unfold Func.isWrapper; first | (rw [if_pos (by decide +kernel)]; kernel_rfl) | (rw [if_neg (by decide +kernel)]; exact ⟨rfl, rfl⟩))
    (fun os started H enc _ F => by rw [OpenClaim.pre_eq_preRow]; exact lifted os started H enc F)

theorem plain (f : FuncId) (fn : Func) (hf : Tryz.pinned.checked.prog.funcNamed "cinnabar/cinnabarlaw29.TablingNil" = some f) (hfn : Tryz.pinned.checked.prog.funcs[f]? = some fn) :
    true = Tryz.pinned.checked.prog.looks [] ∧ ∀ (j : Nat) t, fn.params[j]? = some t → Tryz.pinned.checked.prog.wantsStandIn t = false := by
  obtain rfl : f = 3 := Option.some.inj ((show Tryz.prog.funcNamed "cinnabar/cinnabarlaw29.TablingNil" = some 3 by kernel_rfl).symm.trans hf) |>.symm
  obtain rfl : fn = Tryz.f3 := (Option.some.inj (Tryz.func3.symm.trans hfn)).symm
  refine ⟨by kernel_rfl, fun j t ht => ?_⟩
  rw [Tryz.params3] at ht
  have hm : t ∈ [24, 3] := by simpa using Array.mem_of_getElem? ht
  have hall : ([24, 3].all fun u => !Tryz.prog.wantsStandIn u) = true := by kernel_rfl
  exact (show Tryz.prog.wantsStandIn t = false by simpa using List.all_eq_true.1 hall t hm)

theorem card : Rows.TablingNilCardSaid :=
  Claim7.holds_tied_plain_at .later [] _ _ _ _ said (fun _ h => by cases h) (by kernel_rfl) (fun _ h => by cases h) tablingNil_row_tie rfl ⟨rfl, rfl⟩ (by kernel_rfl) rfl plain (by kernel_rfl)
end Go.Proofs.YtejjnakhijgkaabGreatDoor.tablingNil
#print axioms Go.Proofs.YtejjnakhijgkaabGreatDoor.tablingNil.card
