/- Part of a reckoning of a Go program over abstract values, proved sound against the model. -/
import Derived.Test.YtedphjbgimkmlaaDoorAiU2
import Derived.Test.YtedphjbgimkmlaaDoorAiS1
set_option linter.unusedSimpArgs false
set_option linter.unusedVariables false
namespace Go.Proofs.YtedphjbgimkmlaaDoor.Ai
noncomputable section
open Go.RowKit (Below)
set_option maxRecDepth 100000
section
variable {P : Program} {cfg : Cfg} {cf : CF} {sl : Bool} {sp : Sp}

/-- How a function ends, with its deferred calls. -/
def FinW (cfg : Cfg) (cf : CF) (k : Nat) (fn : Func) (K : V → S → Prop) (KP : List AP → S → Prop) (e : AX) (fr : Fr) (s : S) : Prop :=
  ∃ u s2 u2, modeOf e = some u ∧ leave cfg cf k fr.dfs s u = some (s2, u2) ∧ match u2 with
    | .ret => ∃ vs, resV cfg s2 fr.tmps fn.results.toList = some vs ∧ K (tupV vs) s2
    | .pan ch => KP ch s2

theorem callW_ok (hc : cfg.Ok P) (hcf : CFOk P cfg cf) (hsp : SpOk P cfg sp) {k : Nat} {f : FuncId} {fn : Func} {c : Code} (hf : P.funcs[f]? = some fn) (hb : fn.body = some c) {x : Cx} {args : List V} {cargs : List Value} (hg : GOk cfg x) (hx : Rel x) (ha : RepL x args cargs)
    {K : V → S → Prop} {KP : List AP → S → Prop} (h : W cfg cf sl sp c ⟨initT args fn.ntmps, []⟩ x.s (FinW cfg cf k fn K KP)) : Calls P f cargs.toArray x.w fun E w' => ∃ y : Cx, y.w = w' ∧ EndW x K KP y E := by
  have hfr : FRep x ⟨initT args fn.ntmps, []⟩ { tmps := cargs.toArray ++ Array.replicate (fn.ntmps - cargs.toArray.size) undef, defers := [] } := by
    refine ⟨?_, .nil⟩
    have := ha.append (RepL.replicate (rep_undef x) (fn.ntmps - args.length))
    unfold initT
    rw [ha.length] at this ⊢
    simpa using this
  refine callsIn_wide.1 (callsIn_of_wp_marks (F := Fence.wide) (n := 0) hf hb trivial (w_ok hc hcf hsp c x _ _ _ _ hg hx hfr h fun e fr s1 hq y E a' hgr ho hfy => ?_))
  obtain ⟨u, s2, u2, hu, hl, hend⟩ := hq
  have hys := hgr.s
  subst hys
  have hgy := hg.mono hgr.le
  have went : ∀ {z : Cx} {s2 : S}, Grew y s2 z → Went x x.s.next s2 z ∧ x.s.next ≤ s2.next := fun {z s2} hz => by
    have := hgr.trans hz
    exact ⟨⟨this.le, this.rel, this.s, fun i hi => (this.grow i hi).elim .inl fun h => .inr (.inr h)⟩, this.next⟩
  have fin : ∀ m, MRep y u m → LeavesInM Fence.wide 0 P fn a'.tmps (fun E w' => ∃ y : Cx, y.w = w' ∧ EndW x K KP y E) a'.defers m y.w := by
    intro m hm
    refine leave_ok hc hcf fr.dfs a'.defers y s2 u u2 m hgy hgr.rel hfy.dfs hm hl fun z m' hz hm' => ?_
    have hzs := hz.s
    subst hzs
    cases u2 with
    | ret =>
      cases m' <;> try exact hm'.elim
      obtain ⟨vs, hres, hK⟩ := hend
      obtain ⟨v, hr, hv⟩ := results_ok hc hz.rel (hfy.tmps.mono hz.le) hres
      obtain ⟨w1, w2⟩ := went hz
      exact ⟨v, hr, z, rfl, _, _, w1, w2, hv, hK⟩
    | pan ch =>
      cases m' <;> try exact hm'.elim
      obtain ⟨w1, w2⟩ := went hz
      exact ⟨z, rfl, _, _, w1, w2, hm', hend⟩
  cases e with
  | normal =>
    cases E <;> try exact ho.elim
    simp only [modeOf, Option.some.injEq] at hu
    subst hu
    exact fin .returning trivial
  | ret =>
    cases E <;> try exact ho.elim
    simp only [modeOf, Option.some.injEq] at hu
    subst hu
    exact fin .returning trivial
  | pan ch =>
    cases E <;> try exact ho.elim
    simp only [modeOf, Option.some.injEq] at hu
    subst hu
    exact fin (.panicking _) ho
  | exit j =>
    simp [modeOf] at hu

/-- What a function's own run gives, when it is run alone. -/
theorem pureW_ok (hc : cfg.Ok P) (hcf : CFOk P cfg cf) (hsp : SpOk P cfg sp) {k : Nat} {f : FuncId} {fn : Func} {c : Code} (hf : P.funcs[f]? = some fn) (hb : fn.body = some c) {args : List V} {v : V} (hfree : V.freeL args = true)
    (h : W cfg cf sl sp c ⟨initT args fn.ntmps, []⟩ S.empty (FinW cfg cf k fn (fun w s => see FUEL s w = some v ∧ v.free = true) fun _ _ => False)) : PureOk P cfg f args v := by
  intro x cargs hg hx ha
  have hroom : ∀ b, x.no b → b < x.w.heap.size := fun b hb => hb.elim (hx.room b) hx.own_lt
  have hle : ∀ b, (x.alone x.no).no b → x.no b := fun b hb => alone_no x _ b hb
  refine (callW_ok (x := x.alone x.no) hc hcf hsp hf hb (alone_gok hc hg fun _ h => h) (alone_rel hroom) (ha.free (x := x) (x' := x.alone x.no) rfl hle hfree) h).mono ?_
  rintro E w' ⟨y, rfl, he⟩
  cases E with
  | returned cv =>
    obtain ⟨w, s', hw, _, hr, hsee, hfr⟩ := he
    refine ⟨{ x with w := y.w }, cv, rfl, alone_le hw.le, alone_back hx hw.le, rfl, rfl, rfl, ?_⟩
    have hs := hw.s
    subst hs
    refine (see_ok (x := y) (x' := { x with w := y.w }) hw.rel rfl (fun b hb => ?_) FUEL).1 _ _ _ hr hsee hfr
    have hB : y.B b := by rw [hw.le.B]; exact hb
    refine ⟨.inl hB, ?_⟩
    rintro ⟨i, o, hi, rfl⟩
    exact hw.rel.apart i o hi hB
  | panicked d => obtain ⟨ch, s', _, _, _, h⟩ := he; exact h.elim
  | outgrown => exact he.elim
end
end
end Go.Proofs.YtedphjbgimkmlaaDoor.Ai

