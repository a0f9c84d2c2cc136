/- Part of a reckoning of a Go program over abstract values, proved sound against the model. -/
import Derived.Test.YtedphjbgimkmlaaDoorAiT3
set_option linter.unusedSimpArgs false
set_option linter.unusedVariables false
namespace Go.Proofs.YtedphjbgimkmlaaDoor.Ai
noncomputable section
set_option maxRecDepth 100000

/-! what is known of functions, as a list of tables -/
def tabAt : List (FuncId × (List V → Option V)) → FuncId → List V → Option V
  | [], _, _ => none
  | p :: r, f, args => if Nat.beq p.1 f then p.2 args else tabAt r f args
@[simp] theorem tabAt_nil (f : FuncId) (args : List V) : tabAt [] f args = none := rfl
@[simp] theorem tabAt_cons (g : FuncId) (h : List V → Option V) (r : List (FuncId × (List V → Option V))) (f : FuncId) (args : List V) : tabAt ((g, h) :: r) f args = if g = f then h args else tabAt r f args := by
  show (if Nat.beq g f = true then h args else tabAt r f args) = _
  by_cases e : g = f
  · subst e; simp
  · rw [if_neg e, if_neg (by simpa using e)]

def TabOk (P : Program) (cfg : Cfg) (l : List (FuncId × (List V → Option V))) : Prop := ∀ f h, (f, h) ∈ l → ∀ args v, h args = some v → PureOk P cfg f args v
theorem TabOk.nil {P : Program} {cfg : Cfg} : TabOk P cfg [] := fun _ _ h => by cases h
theorem TabOk.cons {P : Program} {cfg : Cfg} {l : List (FuncId × (List V → Option V))} {f : FuncId} {h : List V → Option V} (h1 : ∀ args v, h args = some v → PureOk P cfg f args v) (h2 : TabOk P cfg l) : TabOk P cfg ((f, h) :: l) := fun g k hm => by
  rcases List.mem_cons.1 hm with e | hm
  · injection e with e1 e2; subst e1 e2; exact h1
  · exact h2 g k hm
theorem TabOk.at {P : Program} {cfg : Cfg} : ∀ {l : List (FuncId × (List V → Option V))} (_ : TabOk P cfg l) {f : FuncId} {args : List V} {v : V}, tabAt l f args = some v → PureOk P cfg f args v
  | [], _, _, _, _, e => by cases e
  | (g, k) :: r, h, f, args, v, e => by
    rw [tabAt_cons] at e
    by_cases he : g = f
    · rw [if_pos he] at e; subst he; exact h g k (by simp) args v e
    · rw [if_neg he] at e; exact TabOk.at (fun f' h' hm => h f' h' (by simp [hm])) e
theorem TabOk.cfg {P : Program} {cfg cfg' : Cfg} {l : List (FuncId × (List V → Option V))} (h : TabOk P cfg l) (e : cfg'.glob = cfg.glob) : TabOk P cfg' l := fun f k hm args v hv => (h f k hm args v hv).cfg e

theorem drawsOk_kind {c c' : Cfg} (h : opKind c = opKind c') : ∀ (x : Code), drawsOk c x = drawsOk c' x
  | .region _ ops true => by unfold drawsOk drawOk; rw [h]
  | .region _ ops false => rfl
  | .seq a b => by unfold drawsOk; rw [drawsOk_kind h a, drawsOk_kind h b]
  | .cond _ a b => by unfold drawsOk; rw [drawsOk_kind h a, drawsOk_kind h b]
  | .block _ a => by unfold drawsOk; rw [drawsOk_kind h a]
  | .loop a => by unfold drawsOk; rw [drawsOk_kind h a]
  | .scope a => by unfold drawsOk; rw [drawsOk_kind h a]
  | .skip | .rangeFunc .. | .exit _ | .label _ | .goto _ | .ret | .refuse _ => rfl

theorem fns_tab {P : Program} {mask : Nat} {glob : Nat → Option (List V)} {pure : List (Nat × Nat)} {raw : List Nat} (t t' : FuncId → List V → Option V) (h : fnsFine P (mkCfg P mask glob pure raw t) = true) : fnsFine P (mkCfg P mask glob pure raw t') = true := by
  have hk : opKind (mkCfg P mask glob pure raw t) = opKind (mkCfg P mask glob pure raw t') := rfl
  rw [← h]
  unfold fnsFine fnFine
  congr 1
  funext p
  show (match (mkCfg P mask glob pure raw t).fn p.2 with | some _ => _ | none => true) = _
  cases (mkCfg P mask glob pure raw t).fn p.2 with
  | none => rfl
  | some _ =>
    simp only
    cases p.1.body with
    | none => rfl
    | some c => simp only [drawsOk_kind hk]

theorem mkCfg_tab {P : Program} {mask : Nat} {glob : Nat → Option (List V)} {pure : List (Nat × Nat)} {raw : List Nat} {l : List (FuncId × (List V → Option V))} (hm : P.follows .mixedOrders = true) (hg : ∀ g cs, glob g = some cs → V.freeL cs = true)
    (hf : fnsFine P (mkCfg P mask glob pure raw (fun _ _ => none)) = true) (he : extsFine P pure = true) (ht : TabOk P (mkCfg P mask glob pure raw (fun _ _ => none)) l) : (mkCfg P mask glob pure raw (tabAt l)).Ok P :=
  mkCfg_ok hm hg (fns_tab _ _ hf) he fun f args v h => (ht.at h).cfg rfl

theorem withF_ok {P : Program} {cfg : Cfg} (h : cfg.Ok P) {fresh : FuncId → Option (TypeId × Option Nat)} {ftab : FuncId → List V → Option V} (hf : ∀ f args v, ftab f args = some v → FreshOk P (cfg.withF fresh ftab) f args v) : (cfg.withF fresh ftab).Ok P where
  fn := h.fn
  draws := fun f fn c h1 h2 => by
    have hk : opKind (cfg.withF fresh ftab) = opKind cfg := rfl
    rw [drawsOk_kind hk]; exact h.draws f fn c h1 h2
  ty := h.ty
  lies := h.lies
  mixed := h.mixed
  tab := fun f args v hv => (h.tab f args v hv).cfg rfl
  meth := h.meth
  ftab := hf
  gfree := h.gfree
  names := h.names
  ext10 := h.ext10
  ext11 := h.ext11
  ext12 := h.ext12

def FtOk (P : Program) (cfg : Cfg) (l : List (FuncId × (List V → Option V))) : Prop := ∀ f h, (f, h) ∈ l → ∀ args v, h args = some v → FreshOk P cfg f args v
theorem FtOk.nil {P : Program} {cfg : Cfg} : FtOk P cfg [] := fun _ _ h => by cases h
theorem FtOk.cons {P : Program} {cfg : Cfg} {l : List (FuncId × (List V → Option V))} {f : FuncId} {h : List V → Option V} (h1 : ∀ args v, h args = some v → FreshOk P cfg f args v) (h2 : FtOk P cfg l) : FtOk P cfg ((f, h) :: l) := fun g k hm => by
  rcases List.mem_cons.1 hm with e | hm
  · injection e with e1 e2; subst e1 e2; exact h1
  · exact h2 g k hm
theorem FtOk.at {P : Program} {cfg : Cfg} : ∀ {l : List (FuncId × (List V → Option V))} (_ : FtOk P cfg l) {f : FuncId} {args : List V} {v : V}, tabAt l f args = some v → FreshOk P cfg f args v
  | [], _, _, _, _, e => by cases e
  | (g, k) :: r, h, f, args, v, e => by
    rw [tabAt_cons] at e
    by_cases he : g = f
    · rw [if_pos he] at e; subst he; exact h g k (by simp) args v e
    · rw [if_neg he] at e; exact FtOk.at (fun f' h' hm => h f' h' (by simp [hm])) e
theorem FreshOk.cfg {P : Program} {cfg cfg' : Cfg} {f : FuncId} {args : List V} {v : V} (h : FreshOk P cfg f args v) (h1 : cfg'.glob = cfg.glob) (h2 : cfg'.fresh f = cfg.fresh f) (h3 : cfg'.ty = cfg.ty) : FreshOk P cfg' f args v := by
  intro x cargs nw v' s' hg hx hn ha ht
  refine h x cargs nw v' s' (fun g cs hc => hg g cs (by rw [h1]; exact hc)) hx hn ha ?_
  unfold thaw at ht ⊢
  rw [← h2, ← h3]; exact ht
end
end Go.Proofs.YtedphjbgimkmlaaDoor.Ai

