/- Part of a reckoning of a Go program over abstract values, proved sound against the model. -/
import Derived.Test.YtcmcedphaipgkaaGreatDoorAiT6
set_option linter.unusedSimpArgs false
set_option linter.unusedVariables false
namespace Go.Proofs.YtcmcedphaipgkaaGreatDoor.Ai
noncomputable section
open Go.RowKit (Below)
set_option maxRecDepth 100000

/-- What is known of a program, by tables. -/
noncomputable def stg (P : Program) (mask : Nat) (glob : Nat → Option (List V)) (pure : List (Nat × Nat)) (raw : List Nat) (fresh : FuncId → Option (TypeId × Option Nat)) (e f : List (FuncId × (List V → Option V))) : Cfg := (mkCfg P mask glob pure raw (tabAt e)).withF fresh (tabAt f)

theorem stg_ok {P : Program} {mask : Nat} {glob : Nat → Option (List V)} {pure : List (Nat × Nat)} {raw : List Nat} {fresh : FuncId → Option (TypeId × Option Nat)} {e f : List (FuncId × (List V → Option V))} {c0 : Cfg} (hm : P.follows .mixedOrders = true) (hg : ∀ g cs, glob g = some cs → V.freeL cs = true)
    (hf : fnsFine P (mkCfg P mask glob pure raw (fun _ _ => none)) = true) (hx : extsFine P pure = true) (h0 : c0.glob = glob) (he : TabOk P c0 e) (hfr : FtOk P (stg P mask glob pure raw fresh [] []) f) : (stg P mask glob pure raw fresh e f).Ok P := by
  refine withF_ok (mkCfg_tab hm hg hf hx (he.cfg h0.symm)) fun g args v h => ?_
  exact (hfr.at h).cfg rfl rfl rfl

section
variable {P : Program} {cfg : Cfg} {cf : CF} {sl : Bool} {sp : List (FuncId × SpE)}
theorem fresh_run (hc : cfg.Ok P) (hcf : CFOk P cfg cf) (hsp : ∀ f e, (f, e) ∈ sp → SpEOk P cfg f e) {n : Nat} {f : FuncId} {fn : Func} {c : AC} {args : List V} {v : V} {t : TypeId} {pos : Option Nat} {b : ATy} (hf : P.funcs[f]? = some fn) (hb : fn.body = some c.code) (hn : fn.ntmps = n) (hfit : c.fits n = true) (ha : args.length ≤ n)
    (hfr : cfg.fresh f = some (t, pos)) (ht : cfg.ty t = some b)
    (h : ∀ s, s.wf → RunC cfg cf sl sp n c (argsE 0 args) s (FinK cfg fn.results.toList (fun v0 s0 => s.keeps s0 ∧ FreshV t b pos s s0 v v0) fun _ _ => False)) : FreshOk P cfg f args v := by
  subst hn
  refine fresh_of hfr ht fun x cargs hg hx hargs => ?_
  have hw : x.s.wf := fun i hi => by
    cases ho : x.s.get i with
    | none => rfl
    | some o => have := hx.lt i (hx.live i o ho).1; omega
  refine callW_ok (k := 0) (sl := sl) hc hcf (spAt_ok hsp) hf hb hg hx hargs ?_
  exact runC_ok c _ _ _ hfit (h x.s hw) [] (initT args fn.ntmps) _ (length_init _ _ ha) (has_args _ _ ha) fun e E' tm' s' h1 h2 h3 => fin_ok h2 h3
end

theorem FreshV_list {t : TypeId} {b : ATy} {s s0 : S} {es : List V} {v0 : V} : FreshV t b none s s0 (.list es) v0 = (Own t s s0 v0 (es.flatMap V.cells) es.length b.size (isAggD b.und) ∧ V.freeL es = true) := rfl
theorem FreshV_agg0 {t : TypeId} {b : ATy} {s s0 : S} {es rest : List V} {l0 : V} (h : Own t s s0 l0 (es.flatMap V.cells) es.length b.size (isAggD b.und)) (hf : V.freeL es = true) (hr : ∀ w ∈ rest, w.flatv = true) : FreshV t b (some 0) s s0 (.agg (.list es :: rest)) (.agg (l0 :: rest)) :=
  ⟨es, l0, rfl, rfl, h, hf, fun j w hj hw => by
    cases j with
    | zero => exact absurd rfl hj
    | succ j => exact hr w (List.mem_of_getElem? (by simpa using hw))⟩
@[simp] theorem flatv_int (k : IntKind) (n : Int) : (V.int k n).flatv = true := rfl
@[simp] theorem flatv_vI (n : Int) : (vI n).flatv = true := rfl
@[simp] theorem flatv_bool (b : Bool) : (V.bool b).flatv = true := rfl
@[simp] theorem flatv_str (b : ByteArray) : (V.str b).flatv = true := rfl
end
end Go.Proofs.YtcmcedphaipgkaaGreatDoor.Ai

