/- Part of a reckoning of a Go program over abstract values, proved sound against the model. -/
import Derived.Test.YtejjnakhijgkaaaGreatDoorAiC2
import Derived.LoopN
import Derived.Scope
namespace Go.Proofs.YtejjnakhijgkaaaGreatDoor.Ai
open Go.RowKit (Below)

/-! frames -/
inductive DRepL (x : Cx) : List DF → List Deferred → Prop
  | nil : DRepL x [] []
  | cons {d : DF} {d' : Deferred} {l : List DF} {m : List Deferred} : DRep x d d' → DRepL x l m → DRepL x (d :: l) (d' :: m)

structure FRep (x : Cx) (fr : Fr) (a : Act) : Prop where
  tmps : RepL x fr.tmps a.tmps.toList
  dfs : DRepL x fr.dfs a.defers

theorem DRep.mono {x y : Cx} (h : x.le y) {d : DF} {d' : Deferred} (hd : DRep x d d') : DRep y d d' := by
  cases d with
  | fn f c a =>
    obtain ⟨cap, args, h1, h2, h3, h4⟩ := hd
    exact ⟨cap, args, h1, h2, h3.mono h, h4.mono h⟩
  | mark id => exact ⟨(h.K id hd.1).1, by rw [(h.K id hd.1).2]; exact hd.2⟩

theorem DRepL.append {x : Cx} {l : List DF} {m : List Deferred} {l' : List DF} {m' : List Deferred} (h : DRepL x l m) (h' : DRepL x l' m') : DRepL x (l ++ l') (m ++ m') := by
  induction h with
  | nil => exact h'
  | cons hd _ ih => exact .cons hd ih

theorem DRepL.mono {x y : Cx} (h : x.le y) {l : List DF} {m : List Deferred} : DRepL x l m → DRepL y l m
  | .nil => .nil
  | .cons hd hl => .cons (hd.mono h) (hl.mono h)

theorem PRep.mono {x y : Cx} (h : x.le y) {c : List AP} {d : List PanicEntry} (hp : PRep x c d) : PRep y c d :=
  ⟨hp.1, fun j p hj => let ⟨q, h1, h2, h3⟩ := hp.2 j p hj; ⟨q, h1, h2.mono h, h3⟩⟩

theorem FRep.mono {x y : Cx} (h : x.le y) {fr : Fr} {a : Act} (hf : FRep x fr a) : FRep y fr a := ⟨hf.tmps.mono h, hf.dfs.mono h⟩

theorem put_tmps (a : Act) (d : Option Tmp) (c : Value) : (a.put d c).tmps.toList = match d with | some t => a.tmps.toList.set t c | none => a.tmps.toList := by
  cases d <;> simp [Act.put]

theorem put_defers (a : Act) (d : Option Tmp) (c : Value) : (a.put d c).defers = a.defers := by
  cases d <;> rfl

theorem FRep.put {x : Cx} {fr : Fr} {a : Act} (hf : FRep x fr a) {v : V} {c : Value} (hv : Rep x v c) (d : Option Tmp) : FRep x (fr.put d v) (a.put d c) := by
  refine ⟨?_, ?_⟩
  · rw [put_tmps]
    cases d with
    | none => exact hf.tmps
    | some t =>
      show RepL x (updL fr.tmps v t) _
      rw [updL_eq]
      exact hf.tmps.set hv t
  · rw [put_defers]
    cases d <;> exact hf.dfs

theorem rep_undef (x : Cx) : Rep x undefV undef := .tup (C := #[]) .nil

/-! guards -/
theorem yielded_ok {x : Cx} {ops : Array Oper} {tmps : List V} {t : Array Value} (h : RepL x tmps t.toList) (j : Nat) : yielded ops t j = yieldedV ops tmps j := by
  unfold yielded yieldedV
  cases hd : (ops[j]?).bind (·.dst) with
  | none => rfl
  | some d =>
    simp only [Option.bind_some, nth_eq]
    cases hv : tmps[d]? with
    | none =>
      have : t[d]? = none := by
        have h1 := h.length
        have h2 : tmps.length ≤ d := List.getElem?_eq_none_iff.1 hv
        exact Array.getElem?_eq_none (by rw [← Array.length_toList]; omega)
      rw [this]
    | some v =>
      obtain ⟨c, hc, hr⟩ := h.get d v hv
      rw [Array.getElem?_toList] at hc
      rw [hc]
      cases hr <;> rfl

theorem wanted_ok {x : Cx} {ops : Array Oper} {tmps : List V} {t : Array Value} (h : RepL x tmps t.toList) (o : Oper) : Region.wanted o (yielded ops t) = wantedV ops o tmps := by
  unfold Region.wanted wantedV
  cases o.guard with
  | none => rfl
  | some p => obtain ⟨j, w⟩ := p; simp only; rw [yielded_ok h]

/-! code -/
structure Grew (x : Cx) (s' : S) (y : Cx) : Prop where
  le : x.le y
  rel : Rel y
  s : y.s = s'
  grow : ∀ i, y.K i → x.K i ∨ x.s.next ≤ i
  next : x.s.next ≤ s'.next

theorem Grew.refl {x : Cx} (hx : Rel x) : Grew x x.s x := ⟨.refl x, hx, rfl, fun _ h => .inl h, Nat.le_refl _⟩

theorem Grew.trans {x y z : Cx} {s s' : S} (h : Grew x s y) (g : Grew y s' z) : Grew x s' z :=
  ⟨h.le.trans g.le, g.rel, g.s, fun i hi => (g.grow i hi).elim (h.grow i) fun k => .inr (Nat.le_trans h.next (h.s ▸ k)), Nat.le_trans h.next (h.s ▸ g.next)⟩

theorem Went.grew {x y : Cx} {s' : S} (h : Went x x.s.next s' y) (hn : x.s.next ≤ s'.next) : Grew x s' y :=
  ⟨h.le, h.rel, h.s, fun i hi => (h.grow i hi).elim .inl fun k => .inr (k.elim (fun k => Nat.le_of_eq k.symm) id), hn⟩

def Out (x : Cx) : AX → Exit → Prop
  | .normal, .normal => True
  | .exit i, .exit j => i = j
  | .ret, .ret => True
  | .pan ch, .panic d => PRep x ch d
  | _, _ => False

section
variable {P : Program} {cfg : Cfg} {cf : CF} {sl : Bool} {ops : Array Oper} {Q : Exit → Act → World → Prop}

/-- What must hold after a piece of code. -/
def Then (x : Cx) (Q : Exit → Act → World → Prop) (e : AX) (fr' : Fr) (s' : S) : Prop :=
  ∀ y E a', Grew x s' y → Out y e E → FRep y fr' a' → Q E a' y.w

theorem Then.after {x y : Cx} {s : S} {e : AX} {fr' : Fr} {s' : S} (h : Then x Q e fr' s') (g : Grew x s y) : Then y Q e fr' s' :=
  fun z E a' k => h z E a' (g.trans k)

theorem runOps_ok (hc : cfg.Ok P) (hcf : CFOk P cfg cf) {ro lr : Option Nat} {n : Nat} : ∀ (l : List Oper) (k : Nat), ops.toList.drop k = l → ∀ (x : Cx) (a : Act) (fr : Fr) (e : AX) (fr' : Fr) (s' : S), GOk cfg x → Rel x → FRep x fr a → RoOk x ro lr →
    runOps cfg cf sl ro ops l fr x.s = some (e, fr', s') → Then x Q e fr' s' → wpOpsIn (FW lr) n P ops Q (List.range' k l.length) a x.w
  | [], k, hk, x, a, fr, e, fr', s', hg, hx, hf, hro, h, hp => by
    simp only [runOps, Option.some.injEq, Prod.mk.injEq] at h
    obtain ⟨rfl, rfl, rfl⟩ := h
    exact hp x .normal a (.refl hx) trivial hf
  | o :: rest, k, hk, x, a, fr, e, fr', s', hg, hx, hf, hro, h, hp => by
    have ho : ops[k]? = some o := by
      rw [← Array.getElem?_toList]
      have : (ops.toList.drop k)[0]? = some o := by rw [hk]; rfl
      simpa [List.getElem?_drop] using this
    have hk' : ops.toList.drop (k + 1) = rest := by
      rw [← List.drop_drop, hk]; rfl
    have hn : ¬ x.K x.s.next := fun h => Nat.lt_irrefl _ (hx.lt _ h)
    simp only [List.length_cons, List.range'_succ, wpOpsIn, ho, wanted_ok hf.tmps]
    simp only [runOps] at h
    split at h
    · rename_i hw
      rw [if_pos hw]
      have nodef : ∀ {r : R}, doOp cfg cf sl x.s.next o fr.tmps x.s = some r → (∀ d s, r ≠ .dfr d s) → lr = none ∨ ∀ c, o.op ≠ .defer c := fun {r} hd hr => by
        right
        intro c hop
        rw [doOp_at] at hd
        unfold doOp0 at hd
        rw [hop] at hd
        simp only at hd
        split at hd
        · split at hd
          · injection hd with hd; exact hr _ _ hd.symm
          · cases hd
        · cases hd
      split at h
      · rename_i v s1 hd
        cases hb : Nat.ble x.s.next s1.next with
        | false => rw [hb] at h; cases h
        | true =>
          rw [hb] at h
          refine doOp_in hc hcf hg hx hn hf.tmps (nodef hd (fun _ _ e => by cases e)) hd ?_
          intro y c hwent hv
          have hgr := hwent.grew (Nat.le_of_ble_eq_true hb)
          have hys := hgr.s
          subst hys
          exact runOps_ok hc hcf rest (k + 1) hk' y _ _ _ _ _ (hg.mono hgr.le) hgr.rel ((hf.mono hgr.le).put hv o.dst) (hro.mono hgr.le) h (hp.after hgr)
      · rename_i d s1 hd
        cases ro with
        | some _ => cases h
        | none =>
          have hlr : lr = none := by cases lr with
            | none => rfl
            | some _ => exact hro.elim
          refine doOp_in hc hcf hg hx hn hf.tmps (.inl hlr) hd ?_
          intro hs d' hd'
          subst hs
          refine runOps_ok hc hcf rest (k + 1) hk' x _ _ _ _ _ hg hx ?_ hro h hp
          exact FRep.put (fr := { fr with dfs := d :: fr.dfs }) (a := { a with defers := d' :: a.defers }) ⟨hf.tmps, .cons hd' hf.dfs⟩ (rep_undef x) o.dst
      · rename_i ch s1 hd
        cases hb : Nat.ble x.s.next s1.next with
        | false => rw [hb] at h; cases h
        | true =>
          rw [hb] at h
          simp only [cond_true, Option.some.injEq, Prod.mk.injEq] at h
          obtain ⟨rfl, rfl, rfl⟩ := h
          refine doOp_in hc hcf hg hx hn hf.tmps (nodef hd (fun _ _ e => by cases e)) hd ?_
          intro y d hwent hpr
          have hgr := hwent.grew (Nat.le_of_ble_eq_true hb)
          exact hp y (.panic d) a hgr hpr (hf.mono hgr.le)
      · cases h
    · rename_i hw
      rw [if_neg hw]
      exact ⟨fun _ _ => trivial, runOps_ok hc hcf rest (k + 1) hk' x _ _ _ _ _ hg hx (hf.put (rep_undef x) o.dst) hro h hp⟩
end
end Go.Proofs.YtejjnakhijgkaaaGreatDoor.Ai
