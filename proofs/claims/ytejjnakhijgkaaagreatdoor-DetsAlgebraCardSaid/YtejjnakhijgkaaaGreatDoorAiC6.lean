/- Part of a reckoning of a Go program over abstract values, proved sound against the model. -/
import Derived.Test.YtejjnakhijgkaaaGreatDoorAiC5
namespace Go.Proofs.YtejjnakhijgkaaaGreatDoor.Ai

theorem elemsOf_ext {s s' : S} (he : Ext s s') {sz : Nat} {v : V} {r : List V × Nat} (h : elemsOf s sz v = some r) : elemsOf s' sz v = some r := by
  cases v <;> simp only [elemsOf] at h ⊢ <;> try exact h
  rename_i id off len sz' ag cp
  split at h
  · rename_i e
    rw [if_pos e]
    cases hg : s.get id with
    | none => rw [hg] at h; simp at h
    | some o =>
      rw [hg] at h
      rw [he id o hg]
      exact h
  · cases h

theorem aLoad_ext {s s' : S} (he : Ext s s') {n : Nat} {ag : Bool} {p v : V} (h : aLoad s n ag p = some v) : aLoad s' n ag p = some v := by
  cases p <;> simp only [aLoad] at h ⊢ <;> try exact h
  rename_i id off
  cases hg : s.get id with
  | none => rw [hg] at h; simp at h
  | some o =>
    rw [hg] at h
    rw [he id o hg]
    exact h

theorem mapEnts_ext {s s' : S} (he : Ext s s') {m : V} {r : List (V × V × Nat)} (h : mapEnts s m = some r) : mapEnts s' m = some r := by
  cases m <;> simp only [mapEnts] at h ⊢ <;> try exact h
  rename_i id
  cases hg : s.get id with
  | none => rw [hg] at h; simp at h
  | some o =>
    rw [hg] at h
    rw [he id o hg]
    exact h

theorem aLen_ext {s s' : S} (he : Ext s s') {u : TypeDesc} {x v : V} (h : aLen s u x = some v) : aLen s' u x = some v := by
  unfold aLen at h ⊢
  split at h <;> try exact h
  rename_i id
  cases hg : s.get id with
  | none => rw [hg] at h; simp at h
  | some o =>
    rw [hg] at h
    rw [he id o hg]
    exact h

theorem aLookup_ext {cfg : Cfg} {s s' : S} (he : Ext s s') {t : TypeId} {m k v : V} {ok : Bool} (h : aLookup cfg s t m k ok = some v) : aLookup cfg s' t m k ok = some v := by
  unfold aLookup at h ⊢
  simp only [Option.bind_eq_bind, Option.bind_eq_some_iff] at h ⊢
  obtain ⟨a, ha, h⟩ := h
  refine ⟨a, ha, ?_⟩
  split at h
  · rename_i kt e hd
    simp only [Option.bind_eq_some_iff] at h ⊢
    obtain ⟨z, hz, h⟩ := h
    refine ⟨z, hz, ?_⟩
    split at h
    · cases h
    · rename_i hp
      rw [if_neg hp]
      simp only [Option.bind_eq_some_iff] at h ⊢
      obtain ⟨es, hes, h⟩ := h
      exact ⟨es, mapEnts_ext he hes, h⟩
  · cases h

theorem lay_ext : ∀ (k : Nat), (∀ (s s' : S) (v v' : V) (s1 : S), Ext s s' → lay k s v = some (v', s1) → ∃ s1', lay k s' v = some (v', s1') ∧ Ext s1 s1') ∧
    (∀ (s s' : S) (l l' : List V) (s1 : S), Ext s s' → layL k s l = some (l', s1) → ∃ s1', layL k s' l = some (l', s1') ∧ Ext s1 s1') := by
  intro k
  induction k with
  | zero => exact ⟨fun s s' v v' s1 _ h => by simp [lay] at h, fun s s' l l' s1 _ h => by simp [layL] at h⟩
  | succ k ih =>
    obtain ⟨ih1, ih2⟩ := ih
    refine ⟨fun s s' v v' s1 he h => ?_, fun s s' l l' s1 he h => ?_⟩
    · cases v <;> simp only [lay] at h ⊢
      case arr id off len sz ag cp =>
        cases hg : s.get id with
        | none => rw [hg] at h; simp at h
        | some o =>
          rw [hg] at h
          rw [he id o hg]
          cases o with
          | map es c => simp at h
          | iter m a b c => simp at h
          | siter a b => simp at h
          | dblk a => simp at h
          | loop a b c d e f => simp at h
          | cells cs frz ty ex =>
            simp only at h ⊢
            split at h
            · rename_i hc
              rw [if_pos hc]
              split at h
              · rename_i cs' s2 hl
                obtain ⟨s2', h1, h2⟩ := ih2 _ _ _ _ _ (he.del id) hl
                rw [h1]
                simp only
                split at h
                · rename_i hone
                  rw [if_pos hone]
                  simp only [Option.some.injEq, Prod.mk.injEq] at h
                  exact ⟨s2', by rw [h.1], h.2 ▸ h2⟩
                · cases h
              · cases h
            · cases h
      case agg cs =>
        split at h
        · rename_i cs' s2 hl
          obtain ⟨s2', h1, h2⟩ := ih2 _ _ _ _ _ he hl
          simp only [Option.some.injEq, Prod.mk.injEq] at h
          rw [h1]
          exact ⟨s2', by simp [h.1], h.2 ▸ h2⟩
        · cases h
      case tup cs =>
        split at h
        · rename_i cs' s2 hl
          obtain ⟨s2', h1, h2⟩ := ih2 _ _ _ _ _ he hl
          simp only [Option.some.injEq, Prod.mk.injEq] at h
          rw [h1]
          exact ⟨s2', by simp [h.1], h.2 ▸ h2⟩
        · cases h
      case iface t v =>
        split at h
        · rename_i cs' s2 hl
          obtain ⟨s2', h1, h2⟩ := ih1 _ _ _ _ _ he hl
          simp only [Option.some.injEq, Prod.mk.injEq] at h
          rw [h1]
          exact ⟨s2', by simp [h.1], h.2 ▸ h2⟩
        · cases h
      all_goals
        simp only [Option.some.injEq, Prod.mk.injEq] at h
        exact ⟨s', by simp [h.1], h.2 ▸ he⟩
    · cases l with
      | nil =>
        simp only [layL, Option.some.injEq, Prod.mk.injEq] at h ⊢
        exact ⟨s', by simp [h.1], h.2 ▸ he⟩
      | cons v l =>
        simp only [layL] at h ⊢
        split at h
        · rename_i v1 s2 hv
          obtain ⟨s2', h1, h2⟩ := ih1 _ _ _ _ _ he hv
          rw [h1]
          simp only
          split at h
          · rename_i l1 s3 hl
            obtain ⟨s3', h3, h4⟩ := ih2 _ _ _ _ _ h2 hl
            simp only [Option.some.injEq, Prod.mk.injEq] at h
            rw [h3]
            exact ⟨s3', by simp [h.1], h.2 ▸ h4⟩
          · cases h
        · cases h

theorem lentCall_ext {cf : CallF} {s s' : S} (he : Ext s s') {f : FuncId} {args : List V} {v : V} (h : lentCall cf f args s = some v) : lentCall cf f args s' = some v := by
  unfold lentCall at h ⊢
  cases hl : layL FUEL s args with
  | none => rw [hl] at h; simp at h
  | some r =>
    obtain ⟨l', s1⟩ := r
    rw [hl] at h
    obtain ⟨s1', h1, _⟩ := (lay_ext FUEL).2 _ _ _ _ _ he hl
    rw [h1]
    exact h

section
variable {cfg : Cfg} {cf : CF} {sl : Bool} {tm : List V}

theorem aConvert_read {nw : Nat} {s s' : S} (he : Ext s s') {t u : TypeId} {x : V} {i : ATy} (hi : cfg.ty t = some i) (h : (∃ e, i.und = .slice e) ∨ (∃ e, i.und = .pointer e) ∨ i.und = .unsafePointer)
    {r : V × S} (hr : aConvert cfg nw s t u x = some r) (nw' : Nat) : r.2 = s ∧ aConvert cfg nw' s' t u x = some (r.1, s') := by
  unfold aConvert at hr ⊢
  simp only [hi, Option.bind_eq_bind, Option.bind_some] at hr ⊢
  cases hu : cfg.ty u with
  | none => rw [hu] at hr; simp at hr
  | some j =>
    rw [hu] at hr
    simp only [Option.bind_some] at hr ⊢
    split at hr
    · simp_all
    · simp_all
    · rename_i e e1 e2
      simp only [Option.bind_eq_some_iff] at hr ⊢
      obtain ⟨k, hk, hr⟩ := hr
      split at hr
      · rename_i ek
        split at hr
        · injection hr with hr; subst hr
          refine ⟨rfl, k, hk, ?_⟩
          simp [ek]
        · rename_i hnn
          simp only [Option.bind_eq_some_iff] at hr
          obtain ⟨⟨cs, n⟩, hel, l, hl, hr⟩ := hr
          split at hr
          · cases hr
          · rename_i hns
            injection hr with hr; subst hr
            refine ⟨rfl, k, hk, ?_⟩
            simp only [ek]
            simp only [elemsOf_ext he hel, Option.bind_some, hl]
      · cases hr
    · simp_all
    · rename_i e1 e2
      injection hr with hr; subst hr
      simp [e1, e2]
    · rename_i e id off e1 e2
      simp only [Option.bind_eq_some_iff] at hr ⊢
      obtain ⟨k, hk, hr⟩ := hr
      cases hg : s.get id with
      | none => rw [hg] at hr; simp at hr
      | some o =>
        rw [hg] at hr
        cases o with
        | map es c => simp at hr
        | iter m a b c => simp at hr
        | siter a b => simp at hr
        | dblk a => simp at hr
        | loop a b c d e f => simp at hr
        | cells cs frz ty ex =>
          simp only at hr
          split at hr
          · rename_i hc
            injection hr with hr; subst hr
            exact ⟨rfl, k, hk, by rw [he id _ hg]; simp [hc]⟩
          · cases hr
    · rename_i e1 e2
      injection hr with hr; subst hr
      simp [e1, e2]
    · rename_i e id off e1 e2
      simp only [Option.bind_eq_some_iff] at hr ⊢
      obtain ⟨k, hk, hr⟩ := hr
      cases hg : s.get id with
      | none => rw [hg] at hr; simp at hr
      | some o =>
        rw [hg] at hr
        cases o with
        | map es c => simp at hr
        | iter m a b c => simp at hr
        | siter a b => simp at hr
        | dblk a => simp at hr
        | loop a b c d e f => simp at hr
        | cells cs frz ty ex =>
          simp only at hr
          split at hr
          · rename_i hc
            injection hr with hr; subst hr
            exact ⟨rfl, k, hk, by rw [he id _ hg]; simp [hc]⟩
          · cases hr
    · cases hr

theorem doOp_read {o : Oper} (hk : opKind cfg o = 1) (nw : Nat) (s : S) {r : R} (h : doOp cfg cf sl nw o tm s = some r) : ∃ v, r = .val v s ∧ ∀ nw' s', Ext s s' → doOp cfg cf sl nw' o tm s' = some (.val v s') := by
  cases hop : o.op <;> simp only [opKind, hop, reduceCtorEq, Nat.reduceEqDiff] at hk <;> try contradiction
  all_goals simp only [doOp_at, doOp0, hop] at h ⊢
  case load =>
    simp only [Option.bind_eq_bind, Option.bind_eq_some_iff, Option.map_eq_some_iff] at h
    obtain ⟨a, ha, b, hb, v, hv, rfl⟩ := h
    exact ⟨v, rfl, fun _ _ he => by simp [ha, hb, aLoad_ext he hv]⟩
  case lookup =>
    simp only [Option.bind_eq_bind, Option.bind_eq_some_iff, Option.map_eq_some_iff] at h
    obtain ⟨a, ha, b, hb, v, hv, rfl⟩ := h
    exact ⟨v, rfl, fun _ _ he => by simp [ha, hb, aLookup_ext he hv]⟩
  case convert t u p =>
    simp only [Option.bind_eq_bind, Option.bind_eq_some_iff, Option.map_eq_some_iff] at h
    obtain ⟨a, ha, r', hv, rfl⟩ := h
    cases hi : cfg.ty t with
    | none => rw [hi] at hk; simp at hk
    | some i =>
      rw [hi] at hk
      simp only at hk
      have hpl : (∃ e, i.und = .slice e) ∨ (∃ e, i.und = .pointer e) ∨ i.und = .unsafePointer := by
        cases hd : i.und <;> rw [hd] at hk <;> simp at hk ⊢
        cases hu : cfg.ty u with
        | none => rw [hu] at hk; simp at hk
        | some j =>
          rw [hu] at hk
          simp only at hk
          split at hk <;> simp at hk
      have key := fun nw' s' he => aConvert_read (s' := s') he hi hpl hv nw'
      refine ⟨r'.1, by rw [(key 0 s (.refl s)).1], fun nw' s' he => ?_⟩
      simp [ha, (key nw' s' he).2]
  case call c =>
    unfold doCall at h ⊢
    split at h
    · cases h
    rename_i args hargs
    cases hc : c.callee with
    | invoke r m => rw [hc] at hk; simp at hk
    | builtin b =>
      rw [hc] at hk
      simp only [hc] at h ⊢
      cases b <;> simp at hk
      unfold builtinOp at h ⊢
      split at h <;> try (simp at *; done)
      rename_i t l x _ _
      simp only [Option.bind_eq_bind, Option.bind_eq_some_iff, Option.map_eq_some_iff] at h
      obtain ⟨a, ha, v, hv, rfl⟩ := h
      exact ⟨v, rfl, fun _ _ he => by simp [*, aLen_ext he hv]⟩
    | value f =>
      rw [hc] at hk
      simp only [hc] at h ⊢
      cases f with
      | func g =>
        simp only at hk
        simp only [ev, List.nil_append, List.append_nil] at h ⊢
        cases hfn : cfg.fn g with
        | none => rw [hfn] at h; simp at h
        | some fn =>
          rw [hfn] at h hk
          simp only at h ⊢ hk
          have hp : cfg.pure g = 2 := by
            split at hk <;> first | assumption | (simp at hk; done) | (split at hk <;> simp at hk)
          by_cases hb : fn.body.isNone = true
          · rw [if_pos hb] at h
            simp only [extOp, hp] at h
            simp at h
          · rw [if_neg hb] at h
            simp only [if_neg hb]
            unfold callOp at h ⊢
            cases ht : cfg.tab g args with
            | some v =>
              rw [ht] at h
              injection h with h
              exact ⟨v, h.symm, fun _ _ _ => rfl⟩
            | none =>
              rw [ht] at h
              simp only [hp, Option.map_eq_some_iff] at h ⊢
              obtain ⟨v, hv, rfl⟩ := h
              exact ⟨v, rfl, fun _ _ he => ⟨v, lentCall_ext he hv, rfl⟩⟩
      | _ => simp at hk

theorem doOp_new {o : Oper} (hk : opKind cfg o = 2) (nw : Nat) (s : S) {r : R} (h : doOp cfg cf sl nw o tm s = some r) : ∃ v ob, r = .val v (s.add nw ob) ∧ ∀ s', doOp cfg cf sl nw o tm s' = some (.val v (s'.add nw ob)) := by
  cases hop : o.op <;> simp only [opKind, hop, reduceCtorEq, Nat.reduceEqDiff] at hk <;> try contradiction
  all_goals simp only [doOp_at, doOp0, hop] at h ⊢
  case alloc =>
    simp only [Option.bind_eq_bind, Option.bind_eq_some_iff] at h
    obtain ⟨a, ha, h⟩ := h
    injection h with h; subst h
    exact ⟨_, _, rfl, fun _ => by simp [ha]⟩
  case box =>
    simp only [Option.bind_eq_bind, Option.bind_eq_some_iff] at h
    obtain ⟨a, ha, h⟩ := h
    split at h
    · rename_i hone
      injection h with h; subst h
      exact ⟨_, _, rfl, fun _ => by simp [ha]; simpa using hone⟩
    · cases h
  case buildSlice t n ps =>
    simp only [Option.bind_eq_bind, Option.bind_eq_some_iff, Option.map_eq_some_iff] at h
    obtain ⟨qs, hq, ⟨v, s1⟩, hv, rfl⟩ := h
    have key : ∃ ob, s1 = s.add nw ob ∧ ∀ s', aBuildSlice cfg nw s' t n qs = some (v, s'.add nw ob) := by
      unfold aBuildSlice at hv ⊢
      simp only [Option.bind_eq_bind, Option.bind_eq_some_iff] at hv ⊢
      obtain ⟨a, ha, hv⟩ := hv
      split at hv
      · rename_i e he
        simp only [Option.bind_eq_some_iff] at hv
        obtain ⟨b, hb, hv⟩ := hv
        split at hv
        · cases hv
        · rename_i hsz
          simp only [Option.bind_eq_some_iff] at hv
          obtain ⟨cs, hcs, hv⟩ := hv
          split at hv
          · rename_i hone
            simp only [Option.some.injEq, Prod.mk.injEq] at hv
            obtain ⟨rfl, rfl⟩ := hv
            refine ⟨_, rfl, fun s' => ⟨a, ha, ?_⟩⟩
            simp only [he, hb, Option.bind_some, hsz, if_false, hcs, hone, if_true]
          · cases hv
      · cases hv
    obtain ⟨ob, h1, h2⟩ := key
    exact ⟨v, ob, by rw [h1], fun s' => by simp [hq, h2]⟩
  case makeMap t r' =>
    cases r' with
    | none =>
      simp only at h ⊢
      injection h with h; subst h
      exact ⟨_, _, rfl, fun _ => rfl⟩
    | some p =>
      simp only [Option.bind_eq_bind, Option.bind_eq_some_iff] at h ⊢
      obtain ⟨a, ha, h⟩ := h
      split at h
      · rename_i hm hv
        injection h with h; subst h
        exact ⟨_, _, rfl, fun _ => ⟨a, ha, by simp [hm, hv]⟩⟩
      · cases h
  case makeSlice t l c =>
    simp only [Option.bind_eq_bind, Option.bind_eq_some_iff, Option.map_eq_some_iff] at h
    obtain ⟨lv, hlv, cv, hcv, ⟨v, s1⟩, hv, rfl⟩ := h
    have key : ∃ ob, s1 = s.add nw ob ∧ ∀ s', aMakeSlice cfg nw s' t lv cv = some (v, s'.add nw ob) := by
      unfold aMakeSlice at hv ⊢
      simp only [Option.bind_eq_bind, Option.bind_eq_some_iff] at hv ⊢
      obtain ⟨a, ha, hv⟩ := hv
      split at hv
      · rename_i e he
        simp only [Option.bind_eq_some_iff] at hv
        obtain ⟨b, hb, n, hn, c', hc', hv⟩ := hv
        split at hv
        · rename_i hcond
          simp only [Option.some.injEq, Prod.mk.injEq] at hv
          obtain ⟨rfl, rfl⟩ := hv
          refine ⟨_, rfl, fun s' => ⟨a, ha, ?_⟩⟩
          simp [he, hb, hn, hc', hcond]
        · cases hv
      · cases hv
    obtain ⟨ob, h1, h2⟩ := key
    exact ⟨v, ob, by rw [h1], fun s' => by simp [hlv, hcv, h2]⟩
  case convert t u p =>
    simp only [Option.bind_eq_bind, Option.bind_eq_some_iff, Option.map_eq_some_iff] at h
    obtain ⟨a, ha, ⟨v, s1⟩, hv, rfl⟩ := h
    cases hi : cfg.ty t with
    | none => rw [hi] at hk; simp at hk
    | some i =>
      rw [hi] at hk
      simp only at hk
      have hst : i.und = .string ∧ ∃ j e, cfg.ty u = some j ∧ j.und = .slice e := by
        cases hd : i.und <;> rw [hd] at hk <;> simp at hk ⊢
        cases hu : cfg.ty u with
        | none => rw [hu] at hk; simp at hk
        | some j =>
          rw [hu] at hk
          simp only at hk
          split at hk
          · rename_i e he; exact ⟨j, rfl, e, he⟩
          · simp at hk
      obtain ⟨hstr, j, e, hj, hje⟩ := hst
      have key : ∃ ob, s1 = s.add nw ob ∧ ∀ s', aConvert cfg nw s' t u a = some (v, s'.add nw ob) := by
        unfold aConvert at hv ⊢
        simp only [hi, hj, Option.bind_eq_bind, Option.bind_some, hstr, hje] at hv ⊢
        cases a <;> simp only [reduceCtorEq, Option.bind_eq_some_iff] at hv ⊢
        obtain ⟨k, hk', hv⟩ := hv
        split at hv
        · rename_i ek
          split at hv
          · rename_i hsz
            simp only [Option.some.injEq, Prod.mk.injEq] at hv
            obtain ⟨rfl, rfl⟩ := hv
            exact ⟨_, rfl, fun s' => ⟨k, hk', by simp [ek, hsz]⟩⟩
          · cases hv
        · cases hv
      obtain ⟨ob, h1, h2⟩ := key
      exact ⟨v, ob, by rw [h1], fun s' => by simp [ha, h2]⟩
  case call c =>
    cases hc : c.callee with
    | invoke r m => rw [hc] at hk; simp at hk
    | builtin b => rw [hc] at hk; cases b <;> simp at hk
    | value f =>
      rw [hc] at hk
      cases f <;> simp only at hk <;> try (simp at hk; done)
      split at hk <;> try (simp at hk; done)
      all_goals (split at hk <;> first | (simp at hk; done) | (split at hk <;> simp at hk))
end
end Go.Proofs.YtejjnakhijgkaaaGreatDoor.Ai
