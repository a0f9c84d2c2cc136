/- Part of a reckoning of a Go program over abstract values, proved sound against the model. -/
import Derived.Test.YtcmcedphaipgkaaGreatDoorAiB10
set_option linter.unusedSimpArgs false
set_option linter.unusedVariables false
namespace Go.Proofs.YtcmcedphaipgkaaGreatDoor.Ai
open Go.RowKit (Below)

/-! maps -/
theorem run_checkKey {P : Program} {cfg : Cfg} (hc : cfg.Ok P) {x : Cx} {kt : TypeId} {k : V} {ck : Value} (hk : Rep x k ck) (h : plainKey cfg kt k = true) (em : Bool) (w : World) (n : Nat) :
    (Instr.checkKey em (n + 1 + 1) kt ck).run P w = .ok () w := by
  unfold plainKey at h
  split at h
  · cases h
  · rename_i a hta
    have ht := (hc.ty _ _ hta).und
    split at h
    · rename_i e; cases hk; rw [e] at ht; simp [Instr.checkKey, run_underlying ht]
    · rename_i e; cases hk; rw [e] at ht; simp [Instr.checkKey, run_underlying ht]
    · rename_i e; cases hk; rw [e] at ht; simp [Instr.checkKey, run_underlying ht]
    · rename_i fs cs e
      rw [e] at ht
      cases hk with
      | agg hl =>
        rename_i C
        have key : ∀ (l : List Field), plainFs cfg cs l = true →
            (forIn l PUnit.unit (fun f _ => (if f.name ≠ "_" then (do Instr.checkKey em (n + 1) f.type (← part f.type C f.offset); pure (ForInStep.yield PUnit.unit)) else (do pure PUnit.unit; pure (ForInStep.yield PUnit.unit)) : Sem (ForInStep PUnit)))).run P w = .ok PUnit.unit w := by
          intro l
          induction l with
          | nil => intro _; simp
          | cons f l ih =>
            intro hp
            simp only [plainFs, Bool.and_eq_true, decide_eq_true_eq] at hp
            obtain ⟨⟨h1, h2⟩, h3⟩ := hp
            cases hty : cfg.ty f.type with
            | none => simp [hty] at h1
            | some b =>
              rw [hty] at h1
              simp only at h1
              have hb := hc.ty _ _ hty
              have hag : isAggD b.und = false := by cases hd : b.und <;> simp_all [plainD, isAggD]
              obtain ⟨c, hc1, hc2⟩ := hl.get f.offset _ (List.getElem?_eq_getElem h2)
              rw [Array.getElem?_toList] at hc1
              have hpart : (part f.type C f.offset).run P w = .ok c w := by simp [part, hb.run_agg, hag, hc1]
              have hck : (Instr.checkKey em (n + 1) f.type c).run P w = .ok () w := by
                have := hb.und
                cases hd : b.und <;> rw [hd] at h1 this <;> simp [plainD] at h1 <;> simp [Instr.checkKey, run_underlying this]
              rw [List.forIn_cons]
              by_cases hname : f.name = "_"
              · simp only [hname, ne_eq, not_true_eq_false, if_false, Sem.run_bind, Sem.run_pure, Result.andThen_ok]
                exact ih h3
              · simp only [hname, ne_eq, not_false_eq_true, if_true, Sem.run_bind, hpart, hck, Sem.run_pure, Result.andThen_ok]
                exact ih h3
        have := key fs.toList h
        rw [Instr.checkKey]
        simp only [Sem.run_bind, run_underlying ht, Result.andThen_ok]
        rw [← Array.forIn_toList]
        simp at this ⊢
        rw [this]
        rfl
    · cases h

theorem sameNow_ok {P : Program} {cfg : Cfg} (hc : cfg.Ok P) {x : Cx} {kt : TypeId} {a : ATy} (hta : cfg.ty kt = some a) {k k' : V} {ck ck' : Value} (hk : Rep x k ck) (hk' : Rep x k' ck') {b : Bool} (h : aEq cfg kt k k' = some b) :
    Instr.sameNow a.und ck ck' = some b ∨ Instr.sameNow a.und ck ck' = none := by
  unfold Instr.sameNow
  unfold aEq at h
  rw [hta] at h
  simp only at h
  split
  · rename_i e
    cases hk; cases hk'
    rw [e] at h
    simp only at h
    split at h
    · rename_i e2; injection h with h; subst h; subst e2; simp
    · cases h
  · rename_i e
    cases hk; cases hk'
    rw [e] at h
    simp only at h
    injection h with h; subst h
    left; simp [beq_toListBytes]
  · rename_i e
    cases hk; cases hk'
    rw [e] at h
    simp only at h
    injection h with h; subst h
    exact .inl rfl
  · exact .inr rfl

/-- What is found, and what stands there. -/
def Found (x : Cx) (E : List MapEntry) : Option (Nat × V) → Option (Nat × Value) → Prop
  | none, none => True
  | some (i, v), some (j, c) => i = j ∧ Rep x v c ∧ ∃ m, E[i]? = some m ∧ m.val = c
  | _, _ => False

theorem find_ok {P : Program} {cfg : Cfg} (hc : cfg.Ok P) {x : Cx} {kt : TypeId} {a : ATy} (hta : cfg.ty kt = some a) {k : V} {ck : Value} (hk : Rep x k ck) (w : World) (E0 : List MapEntry) :
    ∀ (es : List (V × V × Nat)) (E : List MapEntry) (i : Nat) (r : Option (Nat × V)), EntL x es E → (∀ j, E[j]? = E0[i + j]?) → findE (keyEq cfg kt) k es i = some r →
      ∃ r', Found x E0 r r' ∧ (Instr.findNow a.und ck E i = some r' ∨ Instr.findNow a.und ck E i = none) ∧ (Instr.findAsking kt ck E i).run P w = .ok r' w
  | [], [], i, r, _, _, h => by
    simp [findE] at h; subst h
    exact ⟨none, trivial, .inl rfl, rfl⟩
  | [], _ :: _, i, r, he, _, _ => by have := he.1; simp at this
  | e :: es, [], i, r, he, _, _ => by have := he.1; simp at this
  | e :: es, m :: E, i, r, he, hE, h => by
    obtain ⟨m', hm', r1, r2, r3⟩ := he.2 0 e (by simp)
    simp at hm'; subst hm'
    have he' : EntL x es E := ⟨by simpa using he.1, fun j e hj => by simpa using he.2 (j + 1) e (by simpa using hj)⟩
    simp only [findE] at h
    split at h
    · rename_i hq
      injection h with h; subst h
      have hs := sameNow_ok hc hta hk r1 hq
      have hq2 := aEq_ok hc hk r1 hq w
      refine ⟨some (i, m.val), ⟨rfl, r2, m, by have := hE 0; simp at this; exact this.symm, rfl⟩, ?_, ?_⟩
      · rcases hs with hs | hs
        · left; simp [Instr.findNow, hs]
        · right; simp [Instr.findNow, hs]
      · simp [Instr.findAsking, hq2]
    · rename_i hq
      have hs := sameNow_ok hc hta hk r1 hq
      have hq2 := aEq_ok hc hk r1 hq w
      obtain ⟨r', g1, g2, g3⟩ := find_ok hc hta hk w E0 es E (i + 1) r he' (fun j => by rw [show i + 1 + j = i + (j + 1) by omega, ← hE (j + 1)]; simp) h
      refine ⟨r', g1, ?_, ?_⟩
      · rcases hs with hs | hs
        · simpa [Instr.findNow, hs] using g2
        · right; simp [Instr.findNow, hs]
      · simp [Instr.findAsking, hq2, g3]
    · cases h

theorem findKey_ok {P : Program} {cfg : Cfg} (hc : cfg.Ok P) {x : Cx} {kt : TypeId} {a : ATy} (hta : cfg.ty kt = some a) {k : V} {ck : Value} (hk : Rep x k ck) (w : World) {es : List (V × V × Nat)} {E : List MapEntry} (he : EntL x es E) {r : Option (Nat × V)}
    (h : findE (keyEq cfg kt) k es 0 = some r) : ∃ r', Found x E r r' ∧ (Instr.findKey kt ck E).run P w = .ok r' w := by
  obtain ⟨r', g1, g2, g3⟩ := find_ok hc hta hk w E es E 0 r he (fun j => by simp) h
  refine ⟨r', g1, ?_⟩
  simp only [Instr.findKey, Sem.run_bind, run_underlying (hc.ty _ _ hta).und, Result.andThen_ok]
  rcases g2 with g2 | g2
  · rw [g2]; simp
  · rw [g2]; exact g3

theorem EntL.isEmpty {x : Cx} {es : List (V × V × Nat)} {E : List MapEntry} (h : EntL x es E) : es.isEmpty = E.isEmpty := by
  have := h.1
  cases es <;> cases E <;> simp at this ⊢

theorem aLookup_ok {P : Program} {cfg : Cfg} (hc : cfg.Ok P) {x : Cx} (hx : Rel x) {t : TypeId} {m k v : V} {cm ck : Value} {ok : Bool} (hm : Rep x m cm) (hk : Rep x k ck) (h : aLookup cfg x.s t m k ok = some v) :
    ∃ c, (Instr.lookup t cm ck ok).run P x.w = .ok c x.w ∧ Rep x v c := by
  unfold aLookup at h
  simp only [Option.bind_eq_bind, Option.bind_eq_some_iff] at h
  obtain ⟨a, hta, h⟩ := h
  have hu := (hc.ty _ _ hta).und
  split at h
  case h_2 => cases h
  rename_i kt e he
  rw [he] at hu
  simp only [Option.bind_eq_some_iff] at h
  obtain ⟨z, hz, h⟩ := h
  have htz := hc.ty _ _ hz
  split at h
  · cases h
  rename_i hpk
  have hpk' : plainKey cfg kt k = true := by simpa using hpk
  simp only [Option.bind_eq_some_iff] at h
  obtain ⟨es, hes, r, hr, h⟩ := h
  cases hkt : cfg.ty kt with
  | none => simp [plainKey, hkt] at hpk'
  | some ka =>
    obtain ⟨zc, hzr, hzrep, _⟩ := htz.run_zero x.w
    have fin : ∀ (E : Array MapEntry), EntL x es E.toList → ∃ r', Found x E.toList r r' ∧ (Instr.findKey kt ck E.toList).run P x.w = .ok r' x.w := fun E hE => findKey_ok hc hkt hk x.w hE hr
    have hck : ∀ em, (Instr.checkKey em 10000 kt ck).run P x.w = .ok () x.w := fun em => run_checkKey hc hk hpk' em x.w 9998
    have last : ∀ (E : Array MapEntry) (r' : Option (Nat × Value)), Found x E.toList r r' → ∃ c, (match r' with
          | some (_, v) => .ok (if ok then .tuple #[v, .bool true] else v) x.w
          | none => .ok (if ok then .tuple #[zc, .bool false] else zc) x.w : Result Value) = .ok c x.w ∧ Rep x v c := by
      intro E r' g1
      cases r with
      | none =>
        injection h with h; subst h
        cases r' with
        | none =>
          cases ok
          · exact ⟨zc, rfl, hzrep x⟩
          · exact ⟨.tuple #[zc, .bool false], rfl, .tup (.cons (hzrep x) (.cons (.bool _) .nil))⟩
        | some p => exact g1.elim
      | some p =>
        obtain ⟨i, v⟩ := p
        injection h with h; subst h
        cases r' with
        | none => exact g1.elim
        | some q =>
          obtain ⟨j, c⟩ := q
          obtain ⟨_, g3, _⟩ := g1
          cases ok
          · exact ⟨c, rfl, g3⟩
          · exact ⟨.tuple #[c, .bool true], rfl, .tup (.cons g3 (.cons (.bool _) .nil))⟩
    unfold mapEnts at hes
    split at hes
    · injection hes with hes; subst hes
      cases hm
      obtain ⟨r', g1, g2⟩ := fin #[] ⟨rfl, fun j e hj => by simp at hj⟩
      obtain ⟨c, h1, h2⟩ := last #[] r' g1
      refine ⟨c, ?_, h2⟩
      simp only [Instr.lookup, Sem.run_bind, run_underlying hu, Result.andThen_ok, Sem.run_pure, hck, g2]
      rw [← h1]
      cases r' with
      | none => simp [hzr]
      | some q => simp
    · rename_i id
      split at hes
      · rename_i es' clock hg
        injection hes with hes; subst hes
        cases hm with
        | map _ hk' =>
          obtain ⟨E, hb, hE⟩ := (hx.live id _ hg).2
          obtain ⟨r', g1, g2⟩ := fin E hE
          obtain ⟨c, h1, h2⟩ := last E r' g1
          refine ⟨c, ?_, h2⟩
          have hgo : (getObj (x.ρ id).1).run P x.w = .ok (.map E clock) x.w := by simp [getObj, Sem.run, hb]
          simp only [Instr.lookup, Sem.run_bind, run_underlying hu, Result.andThen_ok, Sem.run_pure, hgo, hck, g2]
          rw [← h1]
          cases r' with
          | none => simp [hzr]
          | some q => simp
      · cases hes
    · cases hes

/-! maps written -/
theorem rep_scalar1 {x : Cx} {v : V} {c c' : Value} (h : scalar1 v = true) (hc : Rep x v c) (hc' : Rep x v c') : c = c' := by
  cases hc <;> simp [scalar1] at h <;> cases hc' <;> rfl

theorem repL_scalar1 {x : Cx} : ∀ {l : List V} {m m' : List Value}, l.all scalar1 = true → RepL x l m → RepL x l m' → m = m'
  | _, _, _, _, .nil, .nil => rfl
  | _, _, _, h, .cons a b, .cons c d => by
    simp only [List.all_cons, Bool.and_eq_true] at h
    rw [rep_scalar1 h.1 a c, repL_scalar1 h.2 b d]

theorem rep_scalar {x : Cx} {v : V} {c c' : Value} (h : scalarV v = true) (hc : Rep x v c) (hc' : Rep x v c') : c = c' := by
  cases v with
  | agg cs =>
    cases hc with
    | agg a => cases hc' with
      | agg b =>
        have := repL_scalar1 (by simpa [scalarV] using h) a b
        rw [Array.toList_inj] at this
        rw [this]
  | _ => exact rep_scalar1 (by simpa only [scalarV] using h) hc hc'

theorem sameBits1 {x : Cx} {v : V} {c : Value} (h : scalar1 v = true) (hc : Rep x v c) (n : Nat) : Instr.sameBits n c c = true := by
  cases hc <;> simp [scalar1] at h <;> cases n <;> simp [Instr.sameBits, beq_toListBytes]

theorem sameBitsL {x : Cx} (n : Nat) : ∀ {l : List V} {m : List Value}, l.all scalar1 = true → RepL x l m → (m.zip m).all (fun (p : Value × Value) => Instr.sameBits n p.1 p.2) = true
  | _, _, _, .nil => by simp
  | _, _, h, .cons a b => by
    simp only [List.all_cons, Bool.and_eq_true] at h
    simp only [List.zip_cons_cons, List.all_cons, Bool.and_eq_true]
    exact ⟨sameBits1 h.1 a n, sameBitsL n h.2 b⟩

theorem sameBits_ok {x : Cx} {v : V} {c : Value} (h : scalarV v = true) (hc : Rep x v c) (n : Nat) : Instr.sameBits (n + 1) c c = true := by
  cases v with
  | agg cs =>
    cases hc with
    | agg a =>
      have := sameBitsL n (by simpa [scalarV] using h) a
      simpa [Instr.sameBits] using this
  | _ => exact sameBits1 (by simpa only [scalarV] using h) hc _

theorem wrote_setObj (w : World) (b : Nat) (o : Obj) (h : csize w b = none) : Wrote w { w with heap := w.heap.setIfInBounds b o } b where
  size := by simp
  keep := fun k hk => by simp [Array.getElem?_setIfInBounds_ne (Ne.symm hk)]
  csz := fun k n hn => by
    by_cases e : k = b
    · subst e; rw [h] at hn; cases hn
    · simpa [csize, Array.getElem?_setIfInBounds_ne (Ne.symm e)] using hn
  os := rfl
  tape := rfl
  output := rfl

theorem aMapUpdate_ok {P : Program} {cfg : Cfg} (hc : cfg.Ok P) {x : Cx} (hx : Rel x) {t : TypeId} {m k v : V} {cm ck cv : Value} (hm : Rep x m cm) (hk : Rep x k ck) (hv : Rep x v cv) {s' : S} (h : aMapUpdate cfg x.s t m k v = some s') :
    ∃ y, (Instr.mapUpdate t cm ck cv).run P x.w = .ok () y.w ∧ x.le y ∧ Rel y ∧ y.s = s' ∧ y.K = x.K := by
  unfold aMapUpdate at h
  simp only [Option.bind_eq_bind, Option.bind_eq_some_iff] at h
  obtain ⟨a, hta, h⟩ := h
  have hu := (hc.ty _ _ hta).und
  split at h
  case h_2 => cases h
  rename_i kt e he
  rw [he] at hu
  split at h
  · cases h
  rename_i hpk
  have hpk' : plainKey cfg kt k = true := by simpa using hpk
  cases hkt : cfg.ty kt with
  | none => simp [plainKey, hkt] at hpk'
  | some ka =>
    split at h
    case h_2 => cases h
    rename_i id
    split at h
    case h_2 => cases h
    rename_i es clock hg
    simp only [Option.bind_eq_some_iff] at h
    obtain ⟨r, hr, h⟩ := h
    cases hm with
    | map _ hk' =>
      obtain ⟨E, hb, hE⟩ := (hx.live id _ hg).2
      obtain ⟨r', g1, g2⟩ := findKey_ok hc hkt hk x.w hE hr
      have hck := run_checkKey hc hk hpk' false x.w 9998
      have hgo : (getObj (x.ρ id).1).run P x.w = .ok (.map E clock) x.w := by simp [getObj, Sem.run, hb]
      have hcs : csize x.w (x.ρ id).1 = none := by simp [csize, hb]
      have hso : ∀ o : Obj, (setObj (x.ρ id).1 o).run P x.w = .ok () { x.w with heap := x.w.heap.setIfInBounds (x.ρ id).1 o } := fun o => by simp [setObj, Sem.run, hb]
      have hlt := (hx.live id _ hg).2.lt
      have hself : ∀ o : Obj, ({ x.w with heap := x.w.heap.setIfInBounds (x.ρ id).1 o } : World).heap[(x.ρ id).1]? = some o := fun o => by simp [hlt]
      have fin : ∀ (es' : List (V × V × Nat)) (E' : Array MapEntry) (cl : Nat), EntL x es' E'.toList →
          x.le (x.putc id (.map es' cl) { x.w with heap := x.w.heap.setIfInBounds (x.ρ id).1 (.map E' cl) }) ∧ Rel (x.putc id (.map es' cl) { x.w with heap := x.w.heap.setIfInBounds (x.ρ id).1 (.map E' cl) }) := by
        intro es' E' cl hE'
        have hw := wrote_setObj x.w (x.ρ id).1 (.map E' cl) hcs
        have hle := putc_le (o' := .map es' cl) hg hw
        exact ⟨hle, putc_rel hx hg hw ⟨E', hself _, hE'.mono hle⟩⟩
      cases r with
      | none =>
        cases r' with
        | some p => exact g1.elim
        | none =>
          injection h with h; subst h
          obtain ⟨f1, f2⟩ := fin (es ++ [(k, v, clock)]) (E.push { key := ck, val := cv, born := clock }) (clock + 1) ⟨by simpa using hE.1, fun j e hj => by
            have hl := hE.1
            simp only [Array.length_toList] at hl
            by_cases hjl : j < es.length
            · rw [List.getElem?_append_left hjl] at hj
              obtain ⟨m, hm, r1⟩ := hE.2 j e hj
              refine ⟨m, ?_, r1⟩
              simp only [Array.toList_push]
              rw [List.getElem?_append_left (by rw [Array.length_toList]; omega)]
              exact hm
            · have hje : j = es.length := by
                have := (List.getElem?_eq_some_iff.1 hj).1
                simp only [List.length_append, List.length_singleton] at this
                omega
              subst hje
              rw [List.getElem?_append_right (Nat.le_refl _)] at hj
              simp at hj; subst hj
              refine ⟨{ key := ck, val := cv, born := clock }, ?_, hk, hv, rfl⟩
              simp only [Array.toList_push]
              rw [List.getElem?_append_right (by rw [Array.length_toList]; omega)]
              have hE2 : E.toList.length = E.size := Array.length_toList
              have h0 : es.length - E.toList.length = 0 := by omega
              rw [h0]; rfl⟩
          refine ⟨_, ?_, f1, f2, rfl, rfl⟩
          simp only [Instr.mapUpdate, Sem.run_bind, run_underlying hu, Result.andThen_ok, hgo, hck, g2, hso]
          rfl
      | some p =>
        obtain ⟨i, u⟩ := p
        cases r' with
        | none => exact g1.elim
        | some q =>
          obtain ⟨j, c⟩ := q
          obtain ⟨rfl, g3, me, hme, _⟩ := g1
          simp only at h
          split at h
          case isFalse => cases h
          rename_i hcond
          injection h with h; subst h
          simp only [Bool.and_eq_true, Option.any_eq_true, decide_eq_true_eq] at hcond
          obtain ⟨⟨ent, hent, hkeq⟩, hsc⟩ := hcond
          obtain ⟨m2, hm2, q1, q2, q3⟩ := hE.2 i ent hent
          have hmm : me = m2 := Option.some.inj (hme.symm.trans hm2)
          subst hmm
          rw [hkeq] at q1
          have hkk : me.key = ck := rep_scalar hsc q1 hk
          rw [Array.getElem?_toList] at hme
          have hks : (Instr.keyThatStays (((E[i]?).map (·.key)).getD ck) ck).run P x.w = .ok ck x.w := by
            rw [hme]
            simp only [Option.map_some, Option.getD_some, hkk, Instr.keyThatStays]
            rw [sameBits_ok hsc hk 9999]
            simp
          obtain ⟨f1, f2⟩ := fin (es.modify i fun e => (k, v, e.2.2)) (E.modify i fun e => { e with key := ck, val := cv }) clock ⟨by simpa using hE.1, fun j e hj => by
            rw [List.getElem?_modify] at hj
            simp only [Option.map_eq_map, Option.map_eq_some_iff] at hj
            obtain ⟨e0, he0, hj⟩ := hj
            obtain ⟨m, hm, r1, r2, r3⟩ := hE.2 j e0 he0
            rw [Array.getElem?_toList] at hm
            by_cases hij : i = j
            · subst hij
              simp only [if_true] at hj; subst hj
              exact ⟨{ m with key := ck, val := cv }, by rw [Array.getElem?_toList, Array.getElem?_modify, if_pos rfl, hm]; rfl, hk, hv, r3⟩
            · rw [if_neg hij] at hj
              have hj2 : e0 = e := hj
              subst hj2
              exact ⟨m, by rw [Array.getElem?_toList, Array.getElem?_modify, if_neg hij]; exact hm, r1, r2, r3⟩⟩
          refine ⟨_, ?_, f1, f2, rfl, rfl⟩
          simp only [Instr.mapUpdate, Sem.run_bind, run_underlying hu, Result.andThen_ok, hgo, hck, g2, hks, hso]
          rfl

theorem aDelete_ok {P : Program} {cfg : Cfg} (hc : cfg.Ok P) {x : Cx} (hx : Rel x) {t : TypeId} {m k : V} {cm ck : Value} (hm : Rep x m cm) (hk : Rep x k ck) {s' : S} (h : aDelete cfg x.s t m k = some s') (ts : Array TypeId) (hts : ts[0]? = some t) (ty : TypeId) :
    ∃ y, (Builtin.delete_ ts ty #[cm, ck]).run P x.w = .ok (.tuple #[]) y.w ∧ x.le y ∧ Rel y ∧ y.s = s' ∧ y.K = x.K := by
  unfold aDelete at h
  simp only [Option.bind_eq_bind, Option.bind_eq_some_iff] at h
  obtain ⟨a, hta, h⟩ := h
  have hu := (hc.ty _ _ hta).und
  split at h
  case h_2 => cases h
  rename_i kt e he
  rw [he] at hu
  split at h
  · cases h
  rename_i hpk
  have hpk' : plainKey cfg kt k = true := by simpa using hpk
  have hargs : ∀ (F : TypeId → Value → Value → Sem Value) (G : Sem Value), (match ts[0]?, (#[cm, ck] : Array Value)[0]?, (#[cm, ck] : Array Value)[1]? with
      | some mapType, some m, some k => F mapType m k
      | _, _, _ => G) = F t cm ck := by
    intro F G
    rw [hts]; rfl
  have hck : ∀ em, (Instr.checkKey em 10000 kt ck).run P x.w = .ok () x.w := fun em => run_checkKey hc hk hpk' em x.w 9998
  cases hkt : cfg.ty kt with
  | none => simp [plainKey, hkt] at hpk'
  | some ka =>
    split at h
    · injection h with h; subst h
      cases hm
      refine ⟨x, ?_, .refl x, hx, rfl, rfl⟩
      simp [Builtin.delete_, hts, run_underlying hu, hck]
    · rename_i id
      split at h
      case h_2 => cases h
      rename_i es clock hg
      simp only [Option.bind_eq_some_iff] at h
      obtain ⟨r, hr, h⟩ := h
      cases hm with
      | map _ hk' =>
        obtain ⟨E, hb, hE⟩ := (hx.live id _ hg).2
        obtain ⟨r', g1, g2⟩ := findKey_ok hc hkt hk x.w hE hr
        have hgo : (getObj (x.ρ id).1).run P x.w = .ok (.map E clock) x.w := by simp [getObj, Sem.run, hb]
        have hcs : csize x.w (x.ρ id).1 = none := by simp [csize, hb]
        have hso : ∀ o : Obj, (setObj (x.ρ id).1 o).run P x.w = .ok () { x.w with heap := x.w.heap.setIfInBounds (x.ρ id).1 o } := fun o => by simp [setObj, Sem.run, hb]
        have hlt := (hx.live id _ hg).2.lt
        have hself : ∀ o : Obj, ({ x.w with heap := x.w.heap.setIfInBounds (x.ρ id).1 o } : World).heap[(x.ρ id).1]? = some o := fun o => by simp [hlt]
        have fin : ∀ (es' : List (V × V × Nat)) (E' : Array MapEntry) (cl : Nat), EntL x es' E'.toList →
            x.le (x.putc id (.map es' cl) { x.w with heap := x.w.heap.setIfInBounds (x.ρ id).1 (.map E' cl) }) ∧ Rel (x.putc id (.map es' cl) { x.w with heap := x.w.heap.setIfInBounds (x.ρ id).1 (.map E' cl) }) := by
          intro es' E' cl hE'
          have hw := wrote_setObj x.w (x.ρ id).1 (.map E' cl) hcs
          have hle := putc_le (o' := .map es' cl) hg hw
          exact ⟨hle, putc_rel hx hg hw ⟨E', hself _, hE'.mono hle⟩⟩
        cases r with
        | none =>
          cases r' with
          | some p => exact g1.elim
          | none =>
            injection h with h; subst h
            obtain ⟨f1, f2⟩ := fin es E clock hE
            refine ⟨_, ?_, f1, f2, rfl, rfl⟩
            simp [Builtin.delete_, hts, run_underlying hu, hck, hgo, g2, hso]
            rfl
        | some p =>
          obtain ⟨i, u⟩ := p
          cases r' with
          | none => exact g1.elim
          | some q =>
            obtain ⟨j, c⟩ := q
            obtain ⟨rfl, g3, me, hme, _⟩ := g1
            injection h with h; subst h
            have hE' : EntL x (es.eraseIdx i) (E.eraseIdxIfInBounds i).toList := by
              have ht : (E.eraseIdxIfInBounds i).toList = E.toList.eraseIdx i := by simp
              rw [ht]
              refine ⟨?_, fun j e hj => ?_⟩
              · rw [List.length_eraseIdx, List.length_eraseIdx, hE.1]
              · rw [List.getElem?_eraseIdx] at hj ⊢
                split at hj
                · rename_i hlt2; rw [if_pos hlt2]; exact hE.2 j e hj
                · rename_i hlt2; rw [if_neg hlt2]; exact hE.2 (j + 1) e hj
            obtain ⟨f1, f2⟩ := fin _ _ clock hE'
            refine ⟨_, ?_, f1, f2, rfl, rfl⟩
            simp [Builtin.delete_, hts, run_underlying hu, hck, hgo, g2, hso]
            rfl
    · cases h

end Go.Proofs.YtcmcedphaipgkaaGreatDoor.Ai

