/- Part of a reckoning of a Go program over abstract values, proved sound against the model. -/
import Derived.Test.YtedphjbgimkmlaaDoorAiS1
set_option linter.unusedSimpArgs false
set_option linter.unusedVariables false
namespace Go.Proofs.YtedphjbgimkmlaaDoor.Ai
set_option maxRecDepth 100000

/-! what a run gives, with what follows as a condition behind it -/
def Wp (cfg : Cfg) (cf : CF) (fuel : Nat) (sl : Bool) (c : Code) (fr : Fr) (s : S) (Q : AX → Fr → S → Prop) : Prop :=
  ∃ e fr' s', exec cfg cf fuel sl none c fr s = some (e, fr', s') ∧ Q e fr' s'
def WpO (cfg : Cfg) (cf : CF) (sl : Bool) (ops : Array Oper) (l : List Oper) (fr : Fr) (s : S) (Q : AX → Fr → S → Prop) : Prop :=
  ∃ e fr' s', runOps cfg cf sl none ops l fr s = some (e, fr', s') ∧ Q e fr' s'

section
variable {cfg : Cfg} {cf : CF} {fuel : Nat} {sl : Bool} {fr : Fr} {s : S} {Q : AX → Fr → S → Prop}

theorem Wp.mono {c : Code} {Q' : AX → Fr → S → Prop} (h : Wp cfg cf fuel sl c fr s Q) (hq : ∀ e fr' s', Kept fr.tmps fr'.tmps (wr c) → Q e fr' s' → Q' e fr' s') : Wp cfg cf fuel sl c fr s Q' := by
  obtain ⟨e, fr', s', h, hQ⟩ := h
  exact ⟨e, fr', s', h, hq _ _ _ (exec_kept c fr fr' s s' e h) hQ⟩

/-- A part, and what follows it; the rest is held back while the part runs. -/
theorem w_seq {a b : Code} (h : ∀ Q' : AX → Fr → S → Prop, (∀ fr' s', (Kept fr.tmps fr'.tmps (wr a) → Wp cfg cf fuel sl b fr' s' Q) → Q' .normal fr' s') → (∀ e fr' s', e ≠ .normal → Q e fr' s' → Q' e fr' s') → Wp cfg cf fuel sl a fr s Q') : Wp cfg cf fuel sl (.seq a b) fr s Q := by
  obtain ⟨e, fr', s', h1, hQ⟩ := h (fun e fr' s' => match e with
      | .normal => Kept fr.tmps fr'.tmps (wr a) → Wp cfg cf fuel sl b fr' s' Q
      | e => Q e fr' s') (fun fr' s' hw => hw) (fun e fr' s' he hq => by cases e <;> first | exact absurd rfl he | exact hq)
  cases e with
  | normal =>
    obtain ⟨e2, fr2, s2, h2, hQ2⟩ := hQ (exec_kept _ _ _ _ _ _ h1)
    exact ⟨e2, fr2, s2, by rw [exec_seq h1]; exact h2, hQ2⟩
  | _ => exact ⟨_, fr', s', exec_seq_out h1 (by intro h; cases h), hQ⟩

theorem w_cond {c : Operand} {x y : Code} {b : Bool} (h : ev cfg fr.tmps c = some (.bool b)) (h1 : b = true → Wp cfg cf fuel sl x fr s Q) (h2 : b = false → Wp cfg cf fuel sl y fr s Q) : Wp cfg cf fuel sl (.cond c x y) fr s Q := by
  cases b with
  | true =>
    obtain ⟨e, fr', s', h1, hQ⟩ := h1 rfl
    refine ⟨e, fr', s', ?_, hQ⟩
    unfold exec; rw [h]; exact h1
  | false =>
    obtain ⟨e, fr', s', h1, hQ⟩ := h2 rfl
    refine ⟨e, fr', s', ?_, hQ⟩
    unfold exec; rw [h]; exact h1

theorem w_block {id : Nat} {c : Code} (h : ∀ Q' : AX → Fr → S → Prop, (∀ fr' s', Q .normal fr' s' → Q' (.exit id) fr' s') → (∀ e fr' s', e ≠ .exit id → Q e fr' s' → Q' e fr' s') → Wp cfg cf fuel sl c fr s Q') : Wp cfg cf fuel sl (.block id c) fr s Q := by
  obtain ⟨e, fr', s', h1, hQ⟩ := h (fun e fr' s' => match e with
      | .exit j => if j = id then Q .normal fr' s' else Q (.exit j) fr' s'
      | e => Q e fr' s') (fun fr' s' hq => by simp only [if_true]; exact hq) (fun e fr' s' he hq => by
        cases e <;> try exact hq
        simp only
        rw [if_neg (fun h => he (by rw [h]))]
        exact hq)
  cases e with
  | exit j =>
    simp only at hQ
    by_cases hj : j = id
    · rw [if_pos hj] at hQ
      exact ⟨_, fr', s', by unfold exec; rw [h1]; simp [hj], hQ⟩
    · rw [if_neg hj] at hQ
      exact ⟨_, fr', s', by unfold exec; rw [h1]; simp [hj], hQ⟩
  | _ => exact ⟨_, fr', s', by unfold exec; rw [h1], hQ⟩

theorem w_skip (h : Q .normal fr s) : Wp cfg cf fuel sl .skip fr s Q := ⟨_, _, _, rfl, h⟩
theorem w_ret (h : Q .ret fr s) : Wp cfg cf fuel sl .ret fr s Q := ⟨_, _, _, rfl, h⟩
theorem w_exit {j : Nat} (h : Q (.exit j) fr s) : Wp cfg cf fuel sl (.exit j) fr s Q := ⟨_, _, _, rfl, h⟩

/-- A loop with an invariant, in rounds. -/
theorem w_loop {c : Code} {tm : List V} {dfs : List DF} (N : Nat) (hN : N < fuel) (I : Nat → List V → S → Prop) (h0 : I 0 tm s)
    (step : ∀ i tm' s', i ≤ N → Kept tm tm' (wr c) → I i tm' s' → ∀ Q' : AX → Fr → S → Prop, (∀ tm'' s'', i < N → (Kept tm tm'' (wr c) → I (i + 1) tm'' s'') → Q' .normal ⟨tm'', dfs⟩ s'') → (∀ e fr'' s'', e ≠ .normal → (Kept tm fr''.tmps (wr c) → Q e fr'' s'') → Q' e fr'' s'') → Wp cfg cf fuel sl c ⟨tm', dfs⟩ s' Q') :
    Wp cfg cf fuel sl (.loop c) ⟨tm, dfs⟩ s Q := by
  have key : ∀ (k i m : Nat) (tm' : List V) (s' : S), i + k = N → k < m → Kept tm tm' (wr c) → I i tm' s' → ∃ e fr' s'', iter (exec cfg cf fuel sl none c) m ⟨tm', dfs⟩ s' = some (e, fr', s'') ∧ Q e fr' s'' := by
    intro k
    induction k with
    | zero =>
      intro i m tm' s' hi hm hk hI
      obtain ⟨m, rfl⟩ : ∃ m', m = m' + 1 := ⟨m - 1, by omega⟩
      obtain ⟨e, fr', s'', h1, h2⟩ := step i tm' s' (by omega) hk hI (fun e fr' s'' => e ≠ .normal ∧ (Kept tm fr'.tmps (wr c) → Q e fr' s'')) (fun tm'' s'' h => by omega) (fun e fr' s'' he hq => ⟨he, hq⟩)
      refine ⟨e, fr', s'', ?_, h2.2 (hk.trans (exec_kept c _ _ _ _ _ h1))⟩
      unfold iter
      rw [h1]
      cases e <;> first | exact absurd rfl h2.1 | rfl
    | succ k ih =>
      intro i m tm' s' hi hm hk hI
      obtain ⟨m, rfl⟩ : ∃ m', m = m' + 1 := ⟨m - 1, by omega⟩
      obtain ⟨e, fr', s'', h1, h2⟩ := step i tm' s' (by omega) hk hI (fun e fr' s'' => (e = .normal ∧ fr'.dfs = dfs ∧ (Kept tm fr'.tmps (wr c) → I (i + 1) fr'.tmps s'')) ∨ (e ≠ .normal ∧ (Kept tm fr'.tmps (wr c) → Q e fr' s'')))
        (fun tm'' s'' _ h => .inl ⟨rfl, rfl, h⟩) (fun e fr' s'' he hq => .inr ⟨he, hq⟩)
      rcases h2 with ⟨rfl, hd, hI'⟩ | ⟨he, hq⟩
      · obtain ⟨tm2, dfs2⟩ := fr'
        simp only at hd hI'
        subst hd
        obtain ⟨e2, fr2, s2, h3, h4⟩ := ih (i + 1) m tm2 s'' (by omega) (by omega) (hk.trans (exec_kept c _ _ _ _ _ h1)) (hI' (hk.trans (exec_kept c _ _ _ _ _ h1)))
        refine ⟨e2, fr2, s2, ?_, h4⟩
        unfold iter
        rw [h1]
        exact h3
      · refine ⟨e, fr', s'', ?_, hq (hk.trans (exec_kept c _ _ _ _ _ h1))⟩
        unfold iter
        rw [h1]
        cases e <;> first | exact absurd rfl he | rfl
  obtain ⟨e, fr', s', h1, h2⟩ := key N 0 fuel tm s (by omega) hN (Kept.refl _ _) h0
  exact ⟨e, fr', s', h1, h2⟩

theorem Wp_region {n : Nat} {ops : Array Oper} : Wp cfg cf fuel sl (.region n ops false) fr s Q = WpO cfg cf sl ops ops.toList fr s Q := rfl

/-- An operation's result, and what follows. -/
def OpStep (r : Option R) (k : V → S → Prop) : Prop := match r with
  | some (.val v s') => k v s'
  | _ => False

theorem WpO_nil {ops : Array Oper} : WpO cfg cf sl ops [] fr s Q ↔ Q .normal fr s := by
  constructor
  · rintro ⟨e, fr', s', h, hq⟩
    simp only [runOps, Option.some.injEq, Prod.mk.injEq] at h
    obtain ⟨rfl, rfl, rfl⟩ := h
    exact hq
  · intro h; exact ⟨_, _, _, rfl, h⟩

theorem wpo_cons {ops : Array Oper} {o : Oper} {l : List Oper} (h : if wantedV ops o fr.tmps then OpStep (doOp cfg cf sl s.next o fr.tmps s) (fun v s' => s.next ≤ s'.next ∧ WpO cfg cf sl ops l (fr.put o.dst v) s' Q) else WpO cfg cf sl ops l (fr.put o.dst undefV) s Q) : WpO cfg cf sl ops (o :: l) fr s Q := by
  by_cases hw : wantedV ops o fr.tmps = true
  · rw [if_pos hw] at h
    unfold OpStep at h
    split at h
    · rename_i v s1 hd
      obtain ⟨hn, e, fr', s', h1, hq⟩ := h
      refine ⟨e, fr', s', ?_, hq⟩
      have : Nat.ble s.next s1.next = true := by rw [Nat.ble_eq]; exact hn
      unfold runOps
      simp only [if_pos hw, hd, this, cond_true]
      exact h1
    · exact h.elim
  · rw [if_neg hw] at h
    obtain ⟨e, fr', s', h1, hq⟩ := h
    refine ⟨e, fr', s', ?_, hq⟩
    unfold runOps
    rw [if_neg hw]
    exact h1

theorem w_assoc {a b c : Code} (h : Wp cfg cf fuel sl (.seq a (.seq b c)) fr s Q) : Wp cfg cf fuel sl (.seq (.seq a b) c) fr s Q := by
  obtain ⟨e, fr', s', h, hq⟩ := h
  refine ⟨e, fr', s', ?_, hq⟩
  cases hx : exec cfg cf fuel sl none a fr s with
  | none =>
    exfalso
    unfold exec at h
    rw [hx] at h
    cases h
  | some r =>
    obtain ⟨e1, fr1, s1⟩ := r
    by_cases he : e1 = .normal
    · subst he
      rw [exec_seq hx] at h
      cases hy : exec cfg cf fuel sl none b fr1 s1 with
      | none =>
        exfalso
        unfold exec at h
        rw [hy] at h
        cases h
      | some r2 =>
        obtain ⟨e2, fr2, s2⟩ := r2
        have h2 : exec cfg cf fuel sl none (.seq a b) fr s = some (e2, fr2, s2) := (exec_seq hx).trans hy
        by_cases he2 : e2 = .normal
        · subst he2
          rw [exec_seq hy] at h
          rw [exec_seq h2]; exact h
        · rw [exec_seq_out hy he2] at h
          rw [exec_seq_out h2 he2]; exact h
    · rw [exec_seq_out hx he] at h
      have h2 : exec cfg cf fuel sl none (.seq a b) fr s = some (e1, fr1, s1) := exec_seq_out hx he
      rw [exec_seq_out h2 he]; exact h

theorem w_if {c : Operand} {x y r : Code} {b : Bool} (h : ev cfg fr.tmps c = some (.bool b)) (h1 : b = true → Wp cfg cf fuel sl (.seq x r) fr s Q) (h2 : b = false → Wp cfg cf fuel sl (.seq y r) fr s Q) : Wp cfg cf fuel sl (.seq (.cond c x y) r) fr s Q := by
  have key : ∀ z : Code, exec cfg cf fuel sl none (.cond c x y) fr s = exec cfg cf fuel sl none z fr s → Wp cfg cf fuel sl (.seq z r) fr s Q → Wp cfg cf fuel sl (.seq (.cond c x y) r) fr s Q := by
    rintro z hz ⟨e, fr', s', hw, hq⟩
    refine ⟨e, fr', s', ?_, hq⟩
    rw [← hw]
    conv => lhs; unfold exec
    conv => rhs; unfold exec
    rw [hz]
  cases b with
  | true => exact key x (by conv => lhs; unfold exec
                            rw [h]) (h1 rfl)
  | false => exact key y (by conv => lhs; unfold exec
                             rw [h]) (h2 rfl)
theorem w_skips {r : Code} (h : Wp cfg cf fuel sl r fr s Q) : Wp cfg cf fuel sl (.seq .skip r) fr s Q := by
  obtain ⟨e, fr', s', h, hq⟩ := h
  exact ⟨e, fr', s', h, hq⟩
theorem w_rets {r : Code} (h : Q .ret fr s) : Wp cfg cf fuel sl (.seq .ret r) fr s Q := ⟨_, _, _, rfl, h⟩
theorem w_exits {r : Code} {j : Nat} (h : Q (.exit j) fr s) : Wp cfg cf fuel sl (.seq (.exit j) r) fr s Q := ⟨_, _, _, rfl, h⟩
theorem w_blocks {id : Nat} {c r : Code} (h : ∀ Q' : AX → Fr → S → Prop, (∀ fr' s', (Kept fr.tmps fr'.tmps (wr c) → Wp cfg cf fuel sl r fr' s' Q) → Q' .normal fr' s') → (∀ fr' s', (Kept fr.tmps fr'.tmps (wr c) → Wp cfg cf fuel sl r fr' s' Q) → Q' (.exit id) fr' s') →
    (∀ e fr' s', e ≠ .normal → e ≠ .exit id → Q e fr' s' → Q' e fr' s') → Wp cfg cf fuel sl c fr s Q') : Wp cfg cf fuel sl (.seq (.block id c) r) fr s Q := by
  refine w_seq fun Q1 h1 h2 => w_block fun Q2 h3 h4 => h Q2 (fun fr' s' hw => h4 _ _ _ (by intro h; cases h) (h1 _ _ hw)) (fun fr' s' hw => h3 _ _ (h1 _ _ hw)) (fun e fr' s' he he' hq => h4 _ _ _ he' (h2 _ _ _ he hq))

/-- A function's call. -/
theorem w_call {f : FuncId} {fn : Func} {c : Code} {args : List V} {t : Nat} {v : V} {K : S → Prop} {n : Nat} (hf : cfg.fn f = some fn) (hb : fn.body = some c) (hr : fn.results.toList = [.tmp t])
    (h : Wp cfg cf n (!cfg.raw f) c ⟨initT args fn.ntmps, []⟩ s (fun e fr' s' => (e = .ret ∨ e = .normal) ∧ fr'.dfs = [] ∧ nth fr'.tmps t = some v ∧ K s')) : ∃ s', callRun cfg cf n f args s = some (.ret v, s') ∧ K s' := by
  obtain ⟨e, ⟨tm, dfs⟩, s', h, he, hd, ht, hk⟩ := h
  simp only at hd ht
  subst hd
  exact ⟨s', call_run hf hb h he hr ht, hk⟩
theorem w_call2 {f : FuncId} {fn : Func} {c : Code} {args : List V} {t u : Nat} {v w : V} {K : S → Prop} {n : Nat} (hf : cfg.fn f = some fn) (hb : fn.body = some c) (hr : fn.results.toList = [.tmp t, .tmp u])
    (h : Wp cfg cf n (!cfg.raw f) c ⟨initT args fn.ntmps, []⟩ s (fun e fr' s' => (e = .ret ∨ e = .normal) ∧ fr'.dfs = [] ∧ nth fr'.tmps t = some v ∧ nth fr'.tmps u = some w ∧ K s')) : ∃ s', callRun cfg cf n f args s = some (.ret (.tup [v, w]), s') ∧ K s' := by
  obtain ⟨e, ⟨tm, dfs⟩, s', h, he, hd, ht, hu, hk⟩ := h
  simp only at hd ht hu
  subst hd
  exact ⟨s', call_run2 hf hb h he hr ht hu, hk⟩
end
end Go.Proofs.YtedphjbgimkmlaaDoor.Ai

namespace Go.Proofs.YtedphjbgimkmlaaDoor.Ai
set_option maxRecDepth 100000

section
variable {cfg : Cfg} {cf : CF} {fuel : Nat} {sl : Bool} {nw : Nat} {tm : List V} {dfs : List DF} {s : S}

/-- Straight operations, as a condition. -/
def WpR (cfg : Cfg) (cf : CF) (sl : Bool) (ops : Array Oper) : List Oper → List V → List DF → S → (List V → S → Prop) → Prop
  | [], tm, _, s, Q => Q tm s
  | o :: l, tm, dfs, s, Q =>
    if wantedV ops o tm then match doOp cfg cf sl s.next o tm s with
      | some (.val v s') => s.next ≤ s'.next ∧ WpR cfg cf sl ops l (putT o.dst tm v) dfs s' Q
      | _ => False
    else WpR cfg cf sl ops l (putT o.dst tm undefV) dfs s Q

theorem wpR_sound {ops : Array Oper} {Q : AX → Fr → S → Prop} : ∀ (l : List Oper) (tm : List V) (s : S), WpR cfg cf sl ops l tm dfs s (fun tm s => Q .normal ⟨tm, dfs⟩ s) → WpO cfg cf sl ops l ⟨tm, dfs⟩ s Q
  | [], tm, s, h => WpO_nil.2 h
  | o :: l, tm, s, h => by
    have hp : ∀ v, Fr.put ⟨tm, dfs⟩ o.dst v = ⟨putT o.dst tm v, dfs⟩ := fun v => by cases hd : o.dst <;> rfl
    apply wpo_cons
    unfold WpR at h
    by_cases hw : wantedV ops o tm = true
    · rw [if_pos hw] at h
      simp only [if_pos hw]
      split at h
      · rename_i v s1 hd
        simp only [hd, OpStep, hp]
        exact ⟨h.1, wpR_sound l _ _ h.2⟩
      · exact h.elim
    · rw [if_neg hw] at h
      simp only [if_neg hw, hp]
      exact wpR_sound l _ _ h

theorem w_region {n : Nat} {ops : Array Oper} {Q : AX → Fr → S → Prop} (h : WpR cfg cf sl ops ops.toList tm dfs s (fun tm s => Q .normal ⟨tm, dfs⟩ s)) : Wp cfg cf fuel sl (.region n ops false) ⟨tm, dfs⟩ s Q := wpR_sound _ _ _ h

@[simp] theorem putT_some (t : Nat) (v : V) : putT (some t) tm v = updL tm v t := rfl
@[simp] theorem putT_none (v : V) : putT none tm v = tm := rfl
@[simp] theorem wanted_none {ops : Array Oper} {d : Option Tmp} {op : Op} {t : TypeId} {p : String} {a : Array Edge} : wantedV ops ⟨d, op, t, p, a, none⟩ tm = true := rfl
theorem wanted_some {ops : Array Oper} {d : Option Tmp} {op : Op} {t : TypeId} {p : String} {a : Array Edge} {j : Nat} {w : Bool} : wantedV ops ⟨d, op, t, p, a, some (j, w)⟩ tm = (yieldedV ops tm j == some w) := rfl

@[simp] theorem ev_tmp (t : Nat) : ev cfg tm (.tmp t) = nth tm t := rfl
@[simp] theorem ev_int (k : IntKind) (n : Int) : ev cfg tm (.const (.int k n)) = some (.int k n) := rfl
@[simp] theorem ev_bool (b : Bool) : ev cfg tm (.const (.bool b)) = some (.bool b) := rfl
@[simp] theorem ev_str (b : ByteArray) : ev cfg tm (.const (.string b)) = some (.str b) := rfl
@[simp] theorem ev_nils : ev cfg tm (.const (.slice none 0 0)) = some .nils := rfl
@[simp] theorem ev_func (f : FuncId) : ev cfg tm (.func f) = some (.func (.func f) [] []) := rfl
@[simp] theorem evL_nil : evL cfg tm [] = some [] := rfl
@[simp] theorem evL_cons (x : Operand) (l : List Operand) : evL cfg tm (x :: l) = match ev cfg tm x, evL cfg tm l with | some v, some r => some (v :: r) | _, _ => none := rfl

variable {d : Option Tmp} {ty : TypeId} {p : String} {a : Array Edge} {g : Option (Nat × Bool)}
@[simp] theorem do_move (x : Operand) : doOp cfg cf sl nw ⟨d, .move x, ty, p, a, g⟩ tm s = (ev cfg tm x).map (.val · s) := rfl
@[simp] theorem do_assign (x : Operand) : doOp cfg cf sl nw ⟨d, .assign x, ty, p, a, g⟩ tm s = (ev cfg tm x).map (.val · s) := rfl
@[simp] theorem do_pick (c x y : Operand) : doOp cfg cf sl nw ⟨d, .pick c x y, ty, p, a, g⟩ tm s = match ev cfg tm c with
  | some (.bool t) => (ev cfg tm (if t then x else y)).map (.val · s)
  | _ => none := rfl
@[simp] theorem do_alloc (t : TypeId) : doOp cfg cf sl nw ⟨d, .alloc t, ty, p, a, g⟩ tm s = (cfg.ty t).map fun a => .val (.ptr nw 0) (s.add nw (.cells a.zero.cells 0 t true)) := by
  show opAlloc _ _ _ _ = _; unfold opAlloc; cases cfg.ty t <;> rfl
@[simp] theorem do_box (t : TypeId) (x : Operand) : doOp cfg cf sl nw ⟨d, .box t x, ty, p, a, g⟩ tm s = match ev cfg tm x with
  | some v => if v.cells.all V.one then some (.val (.ptr nw 0) (s.add nw (.cells v.cells 0 t true))) else none
  | none => none := by
  show opBox _ _ _ _ _ _ = _; unfold opBox; cases ev cfg tm x <;> rfl
@[simp] theorem do_build (t : TypeId) (ps : Array (Nat × Operand)) : doOp cfg cf sl nw ⟨d, .build t ps, ty, p, a, g⟩ tm s = opBuild cfg tm s t ps := rfl
@[simp] theorem do_buildSlice (t : TypeId) (n : Nat) (ps : Array (Nat × Operand)) : doOp cfg cf sl nw ⟨d, .buildSlice t n ps, ty, p, a, g⟩ tm s = opBuildSlice cfg nw tm s t n ps := rfl
@[simp] theorem do_load (t : TypeId) (x : Operand) : doOp cfg cf sl nw ⟨d, .load t x, ty, p, a, g⟩ tm s = match cfg.ty t, ev cfg tm x with
  | some a, some v => (aLoad s a.size (isAggD a.und) v).map (.val · s)
  | _, _ => none := by
  show opLoad _ _ _ _ _ = _; unfold opLoad; cases cfg.ty t <;> cases ev cfg tm x <;> rfl
@[simp] theorem do_store (t : TypeId) (x y : Operand) : doOp cfg cf sl nw ⟨d, .store t x y, ty, p, a, g⟩ tm s = match cfg.ty t, ev cfg tm x, ev cfg tm y with
  | some a, some q, some v => (aStore s a.size q v).map (.val undefV ·)
  | _, _, _ => none := by
  show opStore _ _ _ _ _ _ = _; unfold opStore; cases cfg.ty t <;> cases ev cfg tm x <;> cases ev cfg tm y <;> rfl
@[simp] theorem do_bin (op : BinOp) (t u : TypeId) (x y : Operand) : doOp cfg cf sl nw ⟨d, .binOp op t x y u, ty, p, a, g⟩ tm s = match ev cfg tm x, ev cfg tm y with
  | some v, some w => (aBin cfg op t v w).map (.val · s)
  | _, _ => none := by
  show opBin _ _ _ _ _ _ _ = _; unfold opBin; cases ev cfg tm x <;> cases ev cfg tm y <;> rfl
@[simp] theorem do_un (op : UnOp) (t : TypeId) (x : Operand) : doOp cfg cf sl nw ⟨d, .unOp op t x, ty, p, a, g⟩ tm s = match ev cfg tm x with
  | some v => (aUn op v).map (.val · s)
  | none => none := by
  show opUn _ _ _ _ _ = _; unfold opUn; cases ev cfg tm x <;> rfl
@[simp] theorem do_convert (t u : TypeId) (x : Operand) : doOp cfg cf sl nw ⟨d, .convert t u x, ty, p, a, g⟩ tm s = opConvert cfg nw tm s t u x := rfl
@[simp] theorem do_makeFunc (f : Fn) (x y : Array Operand) : doOp cfg cf sl nw ⟨d, .makeFunc f x y, ty, p, a, g⟩ tm s = match evL cfg tm x.toList, evL cfg tm y.toList with
  | some v, some w => some (.val (.func f v w) s)
  | _, _ => none := by
  show opMakeFunc _ _ _ _ _ _ = _; unfold opMakeFunc; cases evL cfg tm x.toList <;> cases evL cfg tm y.toList <;> rfl
@[simp] theorem do_makeSlice (t : TypeId) (l c : Operand) : doOp cfg cf sl nw ⟨d, .makeSlice t l c, ty, p, a, g⟩ tm s = match ev cfg tm l, ev cfg tm c with
  | some v, some w => (aMakeSlice cfg nw s t v w).map fun r => .val r.1 r.2
  | _, _ => none := by
  show opMakeSlice _ _ _ _ _ _ _ = _; unfold opMakeSlice; cases ev cfg tm l <;> cases ev cfg tm c <;> rfl
@[simp] theorem do_slice (t : TypeId) (x : Operand) (lo hi mx : Option Operand) : doOp cfg cf sl nw ⟨d, .slice t x lo hi mx, ty, p, a, g⟩ tm s = opSlice cfg tm s t x lo hi mx := rfl
@[simp] theorem do_fieldAddr (t : TypeId) (x : Operand) (f : Nat) : doOp cfg cf sl nw ⟨d, .fieldAddr t x f, ty, p, a, g⟩ tm s = match ev cfg tm x with
  | some v => (aFieldAddr cfg t v f).map (.val · s)
  | none => none := by
  show opFieldAddr _ _ _ _ _ _ = _; unfold opFieldAddr; cases ev cfg tm x <;> rfl
@[simp] theorem do_field (t : TypeId) (x : Operand) (f : Nat) : doOp cfg cf sl nw ⟨d, .field t x f, ty, p, a, g⟩ tm s = match ev cfg tm x with
  | some v => (aField cfg t v f).map (.val · s)
  | none => none := by
  show opField _ _ _ _ _ _ = _; unfold opField; cases ev cfg tm x <;> rfl
@[simp] theorem do_indexAddr (t : TypeId) (x i : Operand) : doOp cfg cf sl nw ⟨d, .indexAddr t x i, ty, p, a, g⟩ tm s = match ev cfg tm x, ev cfg tm i with
  | some v, some w => (aIndexAddr cfg t v w).map (.val · s)
  | _, _ => none := by
  show opIndexAddr _ _ _ _ _ _ = _; unfold opIndexAddr; cases ev cfg tm x <;> cases ev cfg tm i <;> rfl
@[simp] theorem do_index (t : TypeId) (x i : Operand) : doOp cfg cf sl nw ⟨d, .index t x i, ty, p, a, g⟩ tm s = match ev cfg tm x, ev cfg tm i with
  | some v, some w => (aIndex cfg t v w).map (.val · s)
  | _, _ => none := by
  show opIndex _ _ _ _ _ _ = _; unfold opIndex; cases ev cfg tm x <;> cases ev cfg tm i <;> rfl
@[simp] theorem do_lookup (t : TypeId) (m k : Operand) (ok : Bool) : doOp cfg cf sl nw ⟨d, .lookup t m k ok, ty, p, a, g⟩ tm s = opLookup cfg tm s t m k ok := rfl
@[simp] theorem do_extract (x : Operand) (i : Nat) : doOp cfg cf sl nw ⟨d, .extract x i, ty, p, a, g⟩ tm s = match ev cfg tm x with
  | some (.tup vs) => (vs[i]?).map (.val · s)
  | _ => none := rfl
@[simp] theorem do_len (x : Operand) (t : TypeId) : doOp cfg cf sl nw ⟨d, .call ⟨.builtin .len, #[x], #[t]⟩, ty, p, a, g⟩ tm s = match ev cfg tm x, cfg.ty t with
  | some v, some a => (aLen s a.und v).map (.val · s)
  | _, _ => none := by
  show doCall cfg cf sl nw _ tm s = _
  unfold doCall
  cases hx : ev cfg tm x with
  | none => simp [hx]
  | some v => cases ht : cfg.ty t <;> simp [hx, ht, builtinOp]
@[simp] theorem do_append (x y : Operand) (t u : TypeId) : doOp cfg cf sl nw ⟨d, .call ⟨.builtin .append, #[x, y], #[t, u]⟩, ty, p, a, g⟩ tm s = match ev cfg tm x, ev cfg tm y with
  | some v, some w => (aAppend cfg sl nw s t u v w).map fun r => .val r.1 r.2
  | _, _ => none := by
  show doCall cfg cf sl nw _ tm s = _
  unfold doCall
  cases hx : ev cfg tm x with
  | none => simp [hx]
  | some v => cases hy : ev cfg tm y <;> simp [hx, hy, builtinOp]
/-- A call: of a function with a body. -/
@[simp] theorem do_call (f : Operand) (xs : Array Operand) (ts : Array TypeId) : doOp cfg cf sl nw ⟨d, .call ⟨.value f, xs, ts⟩, ty, p, a, g⟩ tm s = match evL cfg tm xs.toList, ev cfg tm f with
  | some args, some (.func (.func g) first cap) => match cfg.fn g with
    | some fn => if fn.body.isNone then (extOp cfg g (first ++ args ++ cap)).map (.val · s) else callAt cfg cf nw g (first ++ args ++ cap) s
    | none => none
  | some args, some (.yield id) => (match cf.rd id args s with
    | some (.ret v, s') => some (.val v s')
    | _ => none)
  | _, _ => none := by
  show doCall cfg cf sl nw _ tm s = _
  unfold doCall
  cases evL cfg tm xs.toList with
  | none => rfl
  | some args =>
    simp only
    cases ev cfg tm f with
    | none => rfl
    | some v => cases v <;> try rfl
                rename_i fn _ _
                cases fn <;> rfl
end

/-! numbers -/
section
variable {cfg : Cfg} {t : TypeId} {k : IntKind} {x y : Int}
theorem beq_dec (x y : Int) : (x == y) = decide (x = y) := by rw [Bool.eq_iff_iff]; simp
@[simp] theorem bin_eql : aBin cfg .eql t (.int k x) (.int k y) = some (.bool (decide (x = y))) := by
  simp [aBin, intOp, cmpB, beq_dec]
@[simp] theorem bin_neq : aBin cfg .neq t (.int k x) (.int k y) = some (.bool (!decide (x = y))) := by
  simp [aBin, intOp, cmpB, bne, beq_dec]
@[simp] theorem bin_lss : aBin cfg .lss t (.int k x) (.int k y) = some (.bool (decide (x < y))) := by
  simp [aBin, intOp, cmpB, leI_eq, ← Int.not_le]
@[simp] theorem bin_leq : aBin cfg .leq t (.int k x) (.int k y) = some (.bool (decide (x ≤ y))) := by
  simp [aBin, intOp, cmpB, leI_eq]
@[simp] theorem bin_gtr : aBin cfg .gtr t (.int k x) (.int k y) = some (.bool (decide (y < x))) := by
  simp [aBin, intOp, cmpB, leI_eq, ← Int.not_le]
@[simp] theorem bin_geq : aBin cfg .geq t (.int k x) (.int k y) = some (.bool (decide (y ≤ x))) := by
  simp [aBin, intOp, cmpB, leI_eq]
@[simp] theorem bin_add : aBin cfg .add t (.int k x) (.int k y) = some (.int k (k.wrap (x + y))) := by simp [aBin, intOp]
@[simp] theorem bin_sub : aBin cfg .sub t (.int k x) (.int k y) = some (.int k (k.wrap (x - y))) := by simp [aBin, intOp]
@[simp] theorem bin_seql {x y : ByteArray} : aBin cfg .eql t (.str x) (.str y) = some (.bool (x.toList == y.toList)) := rfl
@[simp] theorem bin_sneq {x y : ByteArray} : aBin cfg .neq t (.str x) (.str y) = some (.bool (!(x.toList == y.toList))) := rfl
@[simp] theorem bin_slss {x y : ByteArray} : aBin cfg .lss t (.str x) (.str y) = some (.bool (Op.bytesLess x.toList y.toList)) := rfl
@[simp] theorem bin_beql {x y : Bool} {a : ATy} (ht : cfg.ty t = some a) (ha : a.und = .bool) : aBin cfg .eql t (.bool x) (.bool y) = some (.bool (x == y)) := by simp [aBin, aEq, ht, ha]
@[simp] theorem bin_bneq {x y : Bool} {a : ATy} (ht : cfg.ty t = some a) (ha : a.und = .bool) : aBin cfg .neq t (.bool x) (.bool y) = some (.bool (!(x == y))) := by simp [aBin, aEq, ht, ha]
@[simp] theorem un_not {b : Bool} : aUn .not (.bool b) = some (.bool !b) := rfl
theorem wrap_id {x : Int} (h0 : -9223372036854775808 ≤ x) (h1 : x < 9223372036854775808) : IntKind.i64.wrap x = x := by
  simp [IntKind.wrap, IntKind.bits, IntKind.signed]
  omega
end
attribute [simp] nth_updL length_updL

@[simp] theorem one_int (k : IntKind) (n : Int) : (V.int k n).one = true := rfl
@[simp] theorem one_bool (b : Bool) : (V.bool b).one = true := rfl
@[simp] theorem one_str (b : ByteArray) : (V.str b).one = true := rfl
@[simp] theorem one_list (l : List V) : (V.list l).one = true := rfl
@[simp] theorem one_nils : V.nils.one = true := rfl
@[simp] theorem one_ptr (i o : Nat) : (V.ptr i o).one = true := rfl
@[simp] theorem one_arr (a b c d : Nat) (e : Bool) (f : Nat) : (V.arr a b c d e f).one = true := rfl
@[simp] theorem one_func (f : Fn) (a b : List V) : (V.func f a b).one = true := rfl
@[simp] theorem one_map (i : Nat) : (V.map i).one = true := rfl
@[simp] theorem cells_agg (cs : List V) : (V.agg cs).cells = cs := rfl
@[simp] theorem cells_int (k : IntKind) (n : Int) : (V.int k n).cells = [.int k n] := rfl
@[simp] theorem cells_bool (b : Bool) : (V.bool b).cells = [.bool b] := rfl
@[simp] theorem cells_str (b : ByteArray) : (V.str b).cells = [.str b] := rfl
@[simp] theorem cells_list (l : List V) : (V.list l).cells = [.list l] := rfl
@[simp] theorem cells_nils : V.nils.cells = [.nils] := rfl
@[simp] theorem cells_ptr (i o : Nat) : (V.ptr i o).cells = [.ptr i o] := rfl
@[simp] theorem cells_arr (a b c d : Nat) (e : Bool) (f : Nat) : (V.arr a b c d e f).cells = [.arr a b c d e f] := rfl
@[simp] theorem cells_func (f : Fn) (a b : List V) : (V.func f a b).cells = [.func f a b] := rfl
@[simp] theorem cells_map (i : Nat) : (V.map i).cells = [.map i] := rfl
end Go.Proofs.YtedphjbgimkmlaaDoor.Ai

namespace Go.Proofs.YtedphjbgimkmlaaDoor.Ai
set_option maxRecDepth 100000

/-! regions that draw their order, run in the order of the text -/
def S.ext (a b : S) : Prop := ∀ i o, a.get i = some o → b.get i = some o
theorem S.ext.refl (a : S) : a.ext a := fun _ _ h => h
theorem S.ext.trans {a b c : S} (h : a.ext b) (h' : b.ext c) : a.ext c := fun i o hi => h' i o (h i o hi)

def readOp (o : Oper) : Bool := match o.op with
  | .load .. | .lookup .. => true
  | .call c => match c.callee with
    | .builtin .len => true
    | _ => false
  | _ => false
def notCall (o : Oper) : Bool := match o.op with
  | .call _ => false
  | .convert .. => false
  | _ => true
def newOp (o : Oper) : Bool := match o.op with
  | .alloc _ | .box .. | .buildSlice .. | .makeMap .. | .makeSlice .. => true
  | _ => false
def simpleOp (cfg : Cfg) (o : Oper) : Bool := match opKind cfg o with
  | 0 => notCall o
  | 1 => readOp o
  | 2 => newOp o
  | _ => true

def drawSimple (cfg : Cfg) (ops : Array Oper) : Bool :=
  let b := bef ops
  let l := ops.toList.zipIdx
  l.all fun (oi, i) => simpleOp cfg oi && l.all fun (oj, j) => decide (j ≤ i) || (!ordB b j i && (opKind cfg oi != 2 || opKind cfg oj != 3 || ordB b i j))

section
variable {cfg : Cfg} {cf : CF} {sl : Bool}

theorem aLoad_up {s s' : S} (h : s.ext s') {n : Nat} {ag : Bool} {p v : V} (hl : aLoad s n ag p = some v) : aLoad s' n ag p = some v := by
  unfold aLoad at hl ⊢
  split at hl
  · rename_i id off
    split at hl
    · rename_i cs a b c hg
      simp only [h _ _ hg]; exact hl
    · cases hl
  · exact hl
  · cases hl

theorem aLen_up {s s' : S} (h : s.ext s') {u : TypeDesc} {p v : V} (hl : aLen s u p = some v) : aLen s' u p = some v := by
  unfold aLen at hl ⊢
  cases u <;> cases p <;> try exact hl
  simp only at hl ⊢
  split at hl
  · rename_i es c hg
    simp only [h _ _ hg]; exact hl
  · cases hl

theorem mapEnts_up {s s' : S} (h : s.ext s') {m : V} {es : List (V × V × Nat)} (hl : mapEnts s m = some es) : mapEnts s' m = some es := by
  unfold mapEnts at hl ⊢
  split at hl
  · exact hl
  · split at hl
    · rename_i es c hg
      simp only [h _ _ hg]; exact hl
    · cases hl
  · cases hl

theorem aLookup_up {s s' : S} (h : s.ext s') {t : TypeId} {m k v : V} {ok : Bool} (hl : aLookup cfg s t m k ok = some v) : aLookup cfg s' t m k ok = some v := by
  unfold aLookup at hl ⊢
  simp only [Option.bind_eq_bind, Option.bind_eq_some_iff] at hl ⊢
  obtain ⟨a, ha, hl⟩ := hl
  refine ⟨a, ha, ?_⟩
  split at hl
  · simp only [Option.bind_eq_some_iff] at hl ⊢
    obtain ⟨z, hz, hl⟩ := hl
    refine ⟨z, hz, ?_⟩
    split at hl
    · cases hl
    · rename_i hp
      rw [if_neg hp]
      simp only [Option.bind_eq_some_iff] at hl ⊢
      obtain ⟨es, he, hl⟩ := hl
      exact ⟨es, mapEnts_up h he, hl⟩
  · cases hl

theorem readR {o : Oper} (hs : simpleOp cfg o = true) (hk : opKind cfg o = 0 ∨ opKind cfg o = 1) (tm : List V) :
    ∃ r : S → Option V, (∀ nw s, doOp cfg cf sl nw o tm s = (r s).map (R.val · s)) ∧ ∀ s s' v, s.ext s' → r s = some v → r s' = some v := by
  obtain ⟨d, op, ty, p, a, g⟩ := o
  cases op
  case move y => exact ⟨fun _ => ev cfg tm y, fun _ _ => rfl, fun _ _ _ _ h => h⟩
  case assign y => exact ⟨fun _ => ev cfg tm y, fun _ _ => rfl, fun _ _ _ _ h => h⟩
  case pick c y z =>
    refine ⟨fun _ => match ev cfg tm c with
      | some (.bool t) => ev cfg tm (if t then y else z)
      | _ => none, fun nw s => ?_, fun _ _ _ _ h => h⟩
    rw [do_pick]
    cases ev cfg tm c with
    | none => rfl
    | some v => cases v <;> rfl
  case load t y =>
    refine ⟨fun s => match cfg.ty t, ev cfg tm y with
      | some a, some q => aLoad s a.size (isAggD a.und) q
      | _, _ => none, fun nw s => ?_, fun s s' v h hl => ?_⟩
    · rw [do_load]; cases cfg.ty t <;> cases ev cfg tm y <;> rfl
    · simp only at hl ⊢
      split at hl
      · rename_i a q ha hq
        exact aLoad_up h hl
      · cases hl
  case lookup t m k ok =>
    refine ⟨fun s => match ev cfg tm m, ev cfg tm k with
      | some m, some k => aLookup cfg s t m k ok
      | _, _ => none, fun nw s => ?_, fun s s' v h hl => ?_⟩
    · rw [do_lookup]; unfold opLookup; cases ev cfg tm m <;> cases ev cfg tm k <;> rfl
    · simp only at hl ⊢
      split at hl
      · exact aLookup_up h hl
      · cases hl
  case build t ps =>
    refine ⟨fun _ => (evParts cfg tm ps.toList).bind (aBuild cfg t), fun nw s => ?_, fun _ _ _ _ h => h⟩
    rw [do_build]; unfold opBuild; cases evParts cfg tm ps.toList <;> rfl
  case nilCheck y =>
    refine ⟨fun _ => match ev cfg tm y with
      | some (.ptr i o) => some (.ptr i o)
      | some (.cptr c o) => some (.cptr c o)
      | some (.func (.func g) a b) => some (.func (.func g) a b)
      | some (.yield id) => some (.yield id)
      | _ => none, fun nw s => ?_, fun _ _ _ _ h => h⟩
    show opNilCheck cfg tm s y = _
    unfold opNilCheck
    cases ev cfg tm y with
    | none => rfl
    | some v => cases v <;> try rfl
                rename_i f _ _
                cases f <;> rfl
  case binOp op t y z u =>
    refine ⟨fun _ => match ev cfg tm y, ev cfg tm z with
      | some a, some b => aBin cfg op t a b
      | _, _ => none, fun nw s => ?_, fun _ _ _ _ h => h⟩
    rw [do_bin]; cases ev cfg tm y <;> cases ev cfg tm z <;> rfl
  case unOp op t y =>
    refine ⟨fun _ => match ev cfg tm y with
      | some a => aUn op a
      | none => none, fun nw s => ?_, fun _ _ _ _ h => h⟩
    rw [do_un]; cases ev cfg tm y <;> rfl
  case makeInterface t y =>
    refine ⟨fun _ => match cfg.ty t, ev cfg tm y with
      | some a, some v => (match a.und with
        | .interface _ => none
        | _ => some (.iface t v))
      | _, _ => none, fun nw s => ?_, fun _ _ _ _ h => h⟩
    show opMakeInterface cfg tm s t y = _
    unfold opMakeInterface
    cases cfg.ty t with
    | none => rfl
    | some a =>
      cases ev cfg tm y with
      | none => rfl
      | some v =>
        simp only [Option.bind_eq_bind, Option.bind_some]
        cases a.und <;> rfl
  case makeFunc f y z =>
    refine ⟨fun _ => match evL cfg tm y.toList, evL cfg tm z.toList with
      | some a, some b => some (.func f a b)
      | _, _ => none, fun nw s => ?_, fun _ _ _ _ h => h⟩
    rw [do_makeFunc]; cases evL cfg tm y.toList <;> cases evL cfg tm z.toList <;> rfl
  case slice t y lo hi mx =>
    refine ⟨fun _ => (cfg.ty t).bind fun a => (ev cfg tm y).bind fun x => (evO cfg tm lo).bind fun l => (evO cfg tm hi).bind fun h => (evO cfg tm mx).bind fun m => aSlice cfg a.und x l h m, fun nw s => ?_, fun _ _ _ _ h => h⟩
    rw [do_slice]; unfold opSlice
    cases cfg.ty t <;> cases ev cfg tm y <;> cases evO cfg tm lo <;> cases evO cfg tm hi <;> cases evO cfg tm mx <;> rfl
  case fieldAddr t y f =>
    refine ⟨fun _ => match ev cfg tm y with
      | some a => aFieldAddr cfg t a f
      | none => none, fun nw s => ?_, fun _ _ _ _ h => h⟩
    rw [do_fieldAddr]; cases ev cfg tm y <;> rfl
  case field t y f =>
    refine ⟨fun _ => match ev cfg tm y with
      | some a => aField cfg t a f
      | none => none, fun nw s => ?_, fun _ _ _ _ h => h⟩
    rw [do_field]; cases ev cfg tm y <;> rfl
  case indexAddr t y i =>
    refine ⟨fun _ => match ev cfg tm y, ev cfg tm i with
      | some a, some b => aIndexAddr cfg t a b
      | _, _ => none, fun nw s => ?_, fun _ _ _ _ h => h⟩
    rw [do_indexAddr]; cases ev cfg tm y <;> cases ev cfg tm i <;> rfl
  case index t y i =>
    refine ⟨fun _ => match ev cfg tm y, ev cfg tm i with
      | some a, some b => aIndex cfg t a b
      | _, _ => none, fun nw s => ?_, fun _ _ _ _ h => h⟩
    rw [do_index]; cases ev cfg tm y <;> cases ev cfg tm i <;> rfl
  case typeAssert y n t ok => 
    refine ⟨fun s => match opTypeAssert cfg tm S.empty y t ok with
      | some (.val v _) => some v
      | _ => none, fun nw s => ?_, fun _ _ _ _ h => h⟩
    show opTypeAssert cfg tm s y t ok = _
    unfold opTypeAssert
    cases cfg.ty t with
    | none => rfl
    | some a =>
      cases ev cfg tm y with
      | none => cases hu : a.und <;> simp [hu]
      | some v =>
        cases hu : a.und <;> cases v <;> simp [hu] <;> cases ok <;> simp <;> (try split) <;> simp
  case extract y i =>
    refine ⟨fun _ => match ev cfg tm y with
      | some (.tup vs) => vs[i]?
      | _ => none, fun nw s => ?_, fun _ _ _ _ h => h⟩
    rw [do_extract]
    cases ev cfg tm y with
    | none => rfl
    | some v => cases v <;> rfl
  case call c =>
    obtain ⟨f, xs, ts⟩ := c
    rcases hk with hk | hk
    · simp [simpleOp, hk, notCall] at hs
    · simp only [simpleOp, hk, readOp] at hs
      cases f with
      | value f => simp at hs
      | invoke _ _ => simp at hs
      | builtin b =>
        cases b <;> simp at hs
        refine ⟨fun s => match evL cfg tm xs.toList, ts.toList with
          | some [x], t :: _ => (cfg.ty t).bind fun a => aLen s a.und x
          | _, _ => none, fun nw s => ?_, fun s s' v h hl => ?_⟩
        · show doCall cfg cf sl nw ⟨.builtin .len, xs, ts⟩ tm s = _
          unfold doCall
          cases he : evL cfg tm xs.toList with
          | none => simp [he]
          | some args =>
            cases ht : ts.toList with
            | nil => cases args <;> simp [he, ht, builtinOp]
            | cons t l =>
              match args with
              | [] => simp [he, ht, builtinOp]
              | [x] => cases hc : cfg.ty t <;> simp [he, ht, builtinOp, hc]
              | _ :: _ :: _ => simp [he, ht, builtinOp]
        · simp only at hl ⊢
          split at hl
          · simp only [Option.bind_eq_some_iff] at hl ⊢
            obtain ⟨a, ha, hl⟩ := hl
            exact ⟨a, ha, aLen_up h hl⟩
          · cases hl
  case convert t u y => rcases hk with hk | hk <;> simp [simpleOp, hk, notCall, readOp] at hs
  all_goals (rcases hk with hk | hk <;> simp [opKind] at hk)

theorem newR {o : Oper} (hs : simpleOp cfg o = true) (hk : opKind cfg o = 2) (nw : Nat) (tm : List V) :
    ∃ r : Option (V × O), ∀ s, doOp cfg cf sl nw o tm s = r.map fun x => R.val x.1 (s.add nw x.2) := by
  obtain ⟨d, op, ty, p, a, g⟩ := o
  simp only [simpleOp, hk, newOp] at hs
  cases op <;> simp at hs
  case alloc t =>
    refine ⟨(cfg.ty t).map fun a => (.ptr nw 0, .cells a.zero.cells 0 t true), fun s => ?_⟩
    rw [do_alloc]; cases cfg.ty t <;> rfl
  case box t x =>
    refine ⟨match ev cfg tm x with
      | some v => if v.cells.all V.one then some (.ptr nw 0, .cells v.cells 0 t true) else none
      | none => none, fun s => ?_⟩
    rw [do_box]
    cases ev cfg tm x with
    | none => rfl
    | some v => simp only; split <;> rfl
  case buildSlice t n ps =>
    refine ⟨(evParts cfg tm ps.toList).bind fun ps => (aBuildSlice cfg nw S.empty t n ps).bind fun r => (r.2.get nw).map fun ob => (r.1, ob), fun s => ?_⟩
    rw [do_buildSlice]; unfold opBuildSlice
    cases evParts cfg tm ps.toList with
    | none => rfl
    | some ps =>
      show Option.map _ (aBuildSlice cfg nw s t n ps) = _
      simp only [Option.bind_some]
      unfold aBuildSlice
      cases cfg.ty t with
      | none => rfl
      | some a =>
        simp only [Option.bind_eq_bind, Option.bind_some]
        cases a.und <;> try rfl
        rename_i e
        simp only
        cases cfg.ty e with
        | none => rfl
        | some b =>
          simp only [Option.bind_some]
          split
          · rfl
          · cases fillV (fun i => some (i * b.size, b.size)) (zerosV b.zero.cells n) ps with
            | none => rfl
            | some cs =>
              simp only [Option.bind_some]
              split
              · simp [S.get_add]
              · rfl
  case makeMap t r =>
    refine ⟨match r with
      | none => some (.map nw, .map [] 0)
      | some x => (cfg.ty t).bind fun a => match a.und, ev cfg tm x with
        | .map _ _, some (.int _ _) => some (.map nw, .map [] 0)
        | _, _ => none, fun s => ?_⟩
    show opMakeMap cfg nw tm s t r = _
    unfold opMakeMap
    cases r with
    | none => rfl
    | some x =>
      cases cfg.ty t with
      | none => rfl
      | some a =>
        simp only [Option.bind_eq_bind, Option.bind_some]
        cases a.und <;> cases ev cfg tm x <;> try rfl
        rename_i v
        cases v <;> rfl
  case makeSlice t l c =>
    refine ⟨match ev cfg tm l, ev cfg tm c with
      | some v, some w => (aMakeSlice cfg nw S.empty t v w).bind fun r => (r.2.get nw).map fun ob => (r.1, ob)
      | _, _ => none, fun s => ?_⟩
    rw [do_makeSlice]
    cases ev cfg tm l with
    | none => rfl
    | some v =>
    cases ev cfg tm c with
    | none => rfl
    | some w =>
      simp only
      unfold aMakeSlice
      cases cfg.ty t with
      | none => rfl
      | some a =>
        simp only [Option.bind_eq_bind, Option.bind_some]
        cases a.und <;> try rfl
        rename_i e
        simp only
        cases cfg.ty e with
        | none => rfl
        | some b =>
          simp only [Option.bind_some]
          cases asInt v with
          | none => rfl
          | some n =>
            cases asInt w with
            | none => rfl
            | some m =>
              simp only [Option.bind_some]
              split
              · simp [S.get_add]
              · rfl
end
end Go.Proofs.YtedphjbgimkmlaaDoor.Ai

