/- Part of a reckoning of a Go program over abstract values, proved sound against the model. -/
import Derived.Test.YtejjnakhijgkaaaGreatDoorAiB3
import Derived.Laws.StructEq
import Derived.ChangeKeysEq
namespace Go.Proofs.YtejjnakhijgkaaaGreatDoor.Ai
open Go.RowKit (Below)

theorem eqAt_ok {P : Program} {x : Cx} {t : TypeId} {d : TypeDesc} (hu : P.underlying t = some d) {a b : V} {c c' : Value} {r : Bool} (ha : Rep x a c) (hb : Rep x b c') (h : eqAt d a b = some r) (n : Nat) (w : World) :
    (Op.equalIn (n + 1) t c c').run P w = .ok r w := by
  unfold eqAt at h
  split at h
  · cases ha; cases hb
    injection h with h; subst h
    simp [Op.equalIn, run_underlying hu]
  · rename_i k a' l b'
    cases ha; cases hb
    split at h
    · rename_i e; subst e; injection h with h; subst h
      simp [Op.equalIn, run_underlying hu]
    · cases h
  · cases ha; cases hb
    injection h with h; subst h
    simp [Op.equalIn, run_underlying hu, beq_toListBytes]
  · cases h

theorem eqAt_scalar {d : TypeDesc} {a b : V} {r : Bool} (h : eqAt d a b = some r) : isAggD d = false := by
  unfold eqAt at h
  split at h <;> first | rfl | cases h

theorem eqFs_ok {P : Program} {cfg : Cfg} (hc : cfg.Ok P) {x : Cx} {xs ys : List V} {X Y : Array Value} (hx : RepL x xs X.toList) (hy : RepL x ys Y.toList) (n : Nat) (w : World) :
    ∀ {fs : List Field} {r : Bool}, eqFs cfg xs ys fs = some r → (Op.eqFields (n + 1) X Y fs).run P w = .ok r w
  | [], r, h => by simp [eqFs] at h; subst h; simp [Op.eqFields]
  | f :: fs, r, h => by
    unfold eqFs at h
    split at h
    · cases h
    · rename_i a hty
      split at h
      · cases h
      · rename_i hname
        split at h
        · rename_i v u q h1 h2 h3
          split at h
          · rename_i b h4
            injection h with h; subst h
            have ht := hc.ty _ _ hty
            obtain ⟨c, hc1, hc2⟩ := hx.get _ _ h1
            obtain ⟨c', hc1', hc2'⟩ := hy.get _ _ h2
            rw [Array.getElem?_toList] at hc1 hc1'
            have hag := eqAt_scalar h4
            have ih := eqFs_ok hc hx hy n w h3
            have he := eqAt_ok ht.und hc2 hc2' h4 n w
            have hp1 : (part f.type X f.offset).run P w = .ok c w := by simp [part, ht.run_agg, hag, hc1]
            have hp2 : (part f.type Y f.offset).run P w = .ok c' w := by simp [part, ht.run_agg, hag, hc1']
            simp only [Op.eqFields, ne_eq, hname, not_false_eq_true, if_true, Sem.run_bind, hp1, hp2, Result.andThen_ok, he, Sem.run_ite, ih]
            cases b <;> simp
          · cases h
        · cases h

theorem eqIs_ok {P : Program} {x : Cx} {e : TypeId} {a : ATy} (ht : TyOk P e a) (hs : a.size = 1) (hag : isAggD a.und = false) (n : Nat) (w : World) {X Y : Array Value} :
    ∀ {xs ys : List V} {r : Bool} (k : Nat), eqIs a.und xs ys = some r → RepL x xs (X.toList.drop k) → RepL x ys (Y.toList.drop k) →
      (Op.eqItems (n + 1) e 1 X Y (List.range' k xs.length)).run P w = .ok r w
  | [], [], r, k, h, _, _ => by simp [eqIs] at h; subst h; simp [Op.eqItems]
  | [], _ :: _, r, k, h, _, _ => by simp [eqIs] at h
  | _ :: _, [], r, k, h, _, _ => by simp [eqIs] at h
  | u :: xs, v :: ys, r, k, h, hx, hy => by
    unfold eqIs at h
    split at h
    · rename_i b q h1 h2
      injection h with h; subst h
      obtain ⟨c, hc1, hc2⟩ := hx.get 0 u (by simp)
      obtain ⟨c', hc1', hc2'⟩ := hy.get 0 v (by simp)
      rw [List.getElem?_drop, Nat.add_zero, Array.getElem?_toList] at hc1 hc1'
      have hx2 := hx.drop 1
      have hy2 := hy.drop 1
      simp only [List.drop_drop, List.drop_succ_cons, List.drop_zero] at hx2 hy2
      have ih := eqIs_ok ht hs hag n w (X := X) (Y := Y) (k + 1) h2 hx2 hy2
      have he := eqAt_ok ht.und hc2 hc2' h1 n w
      have hp1 : (part e X (k * 1)).run P w = .ok c w := by simp [part, ht.run_agg, hag, hc1]
      have hp2 : (part e Y (k * 1)).run P w = .ok c' w := by simp [part, ht.run_agg, hag, hc1']
      simp only [List.length_cons, List.range'_succ, Op.eqItems, Sem.run_bind, hp1, hp2, Result.andThen_ok, he, Sem.run_ite, ih]
      cases b <;> simp
    · cases h

theorem flat_struct {P : Program} {t : TypeId} {fs : Array Field} (hu : P.underlying t = some (.struct fs)) (h : flatT P t = true) : P.stoodInHeld t = false ∧ P.eqGuardType P.depth t = false := by
  simpa [flatT, hu] using h
theorem flat_array {P : Program} {t e : TypeId} {n : Nat} (hu : P.underlying t = some (.array n e)) (h : flatT P t = true) : P.eqGuardType P.depth t = false := by
  simpa [flatT, hu] using h

theorem aEq_agg {P : Program} {cfg : Cfg} (hc : cfg.Ok P) {x : Cx} {t : TypeId} {ty : ATy} (hty : cfg.ty t = some ty) (hag : isAggD ty.und = true) {a b : V} {ca cb : Value} {r : Bool} (ha : Rep x a ca) (hb : Rep x b cb) (h : aEq cfg t a b = some r) (w : World) (m : Nat) :
    (Op.equalIn (m + 1 + 1) t ca cb).run P w = .ok r w := by
  have ht := hc.ty _ _ hty
  have hu := ht.und
  unfold aEq at h
  rw [hty] at h
  simp only at h
  cases hd : ty.und <;> rw [hd] at hag h hu <;> simp [isAggD] at hag
  · rename_i n el
    split at h <;> first | contradiction | skip
    rename_i e
    cases e
    rename_i xs ys _
    split at h
    · rename_i b hel
      split at h
      · rename_i hf
        obtain ⟨h1, h2, h3, h4, h5⟩ := hf
        cases ha with
        | agg hX => cases hb with
          | agg hY =>
            have hte := hc.ty _ _ hel
            obtain ⟨i, hi1, hi2, hi3, hi4⟩ := hte.run_info w
            have hco : P.cellsOf el = 1 := by simp [Program.cellsOf, hi4, hi2, h2]
            rw [run_equalIn_array w (m + 1) _ _ hu hi4, hco, List.range_eq_range', ← h4]
            exact eqIs_ok hte h2 h3 m w 0 h (by simpa using hX) (by simpa using hY)
      · cases h
    · cases h
  · rename_i fs
    split at h <;> first | contradiction | skip
    rename_i e
    cases e
    split at h
    · rename_i hf
      cases ha with
      | agg hX => cases hb with
        | agg hY =>
          have hfl := flat_struct hu (ht.flat hf)
          have hfo : P.fieldsOf t = fs := by simp [Program.fieldsOf, hu]
          rw [run_equalIn_struct w (m + 1) t _ _ (by rw [hfo]; exact hu) hfl.1, hfo]
          exact eqFs_ok hc hX hY m w h
    · cases h

theorem aEq_one {P : Program} {cfg : Cfg} (hc : cfg.Ok P) {x : Cx} {t : TypeId} {ty : ATy} (hty : cfg.ty t = some ty) (hag : isAggD ty.und = false) {a b : V} {ca cb : Value} {r : Bool} (ha : Rep x a ca) (hb : Rep x b cb) (h : aEq cfg t a b = some r) (w : World) (m : Nat) :
    (Op.equalIn (m + 1) t ca cb).run P w = .ok r w := by
  have ht := hc.ty _ _ hty
  simp only [Op.equalIn, Sem.run_bind, run_underlying ht.und, Result.andThen_ok]
  unfold aEq at h
  rw [hty] at h
  simp only at h
  generalize ty.und = d at hag h
  clear ht
  split at h
  · cases ha; cases hb; injection h with h; subst h; rfl
  · cases ha; cases hb
    split at h
    · rename_i e; subst e; injection h with h; subst h; simp
    · cases h
  · cases ha; cases hb; injection h with h; subst h; simp [beq_toListBytes]
  · cases ha; cases hb; injection h with h; subst h; rfl
  · cases ha; cases hb; injection h with h; subst h; rfl
  · cases ha; cases hb; injection h with h; subst h; rfl
  · cases ha; cases hb; injection h with h; subst h; rfl
  · cases ha; cases hb; injection h with h; subst h; rfl
  · rename_i el i o j p
    split at h
    · rename_i hij
      obtain ⟨rfl, hsz⟩ := hij
      cases ha; cases hb
      injection h with h; subst h
      cases hel : cfg.ty el with
      | none => simp [hel] at hsz
      | some el' =>
        have hte := hc.ty _ _ hel
        simp only [hel, Option.any_some, bne_iff_ne, ne_eq] at hsz
        simp only [Sem.run_bind, hte.run_size, Result.andThen_ok]
        simp [hsz, sameAddr]
        rw [Bool.eq_iff_iff]; simp
    · cases h
  · cases ha; cases hb; injection h with h; subst h; rfl
  · cases ha; cases hb; injection h with h; subst h; rfl
  · split at h
    · cases ha; cases hb; injection h with h; subst h; rfl
    · cases h
  · simp [isAggD] at hag
  · simp [isAggD] at hag
  · cases ha; cases hb; injection h with h; subst h; rfl
  · cases ha; cases hb; injection h with h; subst h; rfl
  · cases ha; cases hb; injection h with h; subst h; rfl
  · rename_i es
    split at h
    · cases h
    · rename_i hne
      injection h with h; subst h
      cases ha
      cases hb with
      | list b o cap sz hh hl hcap he => rfl
      | lempty => simp at hne
  · rename_i es
    split at h
    · cases h
    · rename_i hne
      injection h with h; subst h
      cases hb
      cases ha with
      | list b o cap sz hh hl hcap he => rfl
      | lempty => simp at hne
  · cases ha; cases hb; injection h with h; subst h; rfl
  · cases ha; cases hb; injection h with h; subst h; rfl
  · cases ha; cases hb; injection h with h; subst h; rfl
  · cases ha; cases hb; injection h with h; subst h; rfl
  · cases ha; cases hb; injection h with h; subst h; rfl
  · cases ha; cases hb; injection h with h; subst h; rfl
  · cases h

theorem aEq_ok {P : Program} {cfg : Cfg} (hc : cfg.Ok P) {x : Cx} {t : TypeId} {a b : V} {ca cb : Value} {r : Bool} (ha : Rep x a ca) (hb : Rep x b cb) (h : aEq cfg t a b = some r) (w : World) :
    (Op.equal t ca cb).run P w = .ok r w := by
  cases hty : cfg.ty t with
  | none => simp [aEq, hty] at h
  | some ty =>
    show (Op.equalIn (9998 + 1 + 1) t ca cb).run P w = _
    generalize 9998 = m
    cases hag : isAggD ty.und with
    | true => exact aEq_agg hc hty hag ha hb h w m
    | false => exact aEq_one hc hty hag ha hb h w (m + 1)

end Go.Proofs.YtejjnakhijgkaaaGreatDoor.Ai
