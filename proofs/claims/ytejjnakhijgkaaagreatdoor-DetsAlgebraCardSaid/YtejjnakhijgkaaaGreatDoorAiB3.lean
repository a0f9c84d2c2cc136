/- Part of a reckoning of a Go program over abstract values, proved sound against the model. -/
import Derived.Test.YtejjnakhijgkaaaGreatDoorAiB2
import Derived.Calls
import Derived.Laws.Append
import Derived.Laws.Slices
namespace Go.Proofs.YtejjnakhijgkaaaGreatDoor.Ai
open Go.RowKit (Below)

structure TyOk (P : Program) (t : TypeId) (a : ATy) : Prop where
  und : P.underlying t = some a.und
  info : ∃ i z, P.info? t = some i ∧ i.size = a.size ∧ i.bytes = a.bytes ∧ i.zero = some z ∧ (∃ k, ofConst k z = some a.zero) ∧ z.cells.size = a.size
  flat : a.flat = true → flatT P t = true

/-- The package-level variables that are known. -/
def GOk (cfg : Cfg) (x : Cx) : Prop := ∀ g cs, cfg.glob g = some cs → ∃ vs, held x g 0 vs ∧ RepL x cs vs

/-- A function that gives this value for these arguments, and leaves all as it is. -/
def PureOk (P : Program) (cfg : Cfg) (f : FuncId) (args : List V) (v : V) : Prop :=
  ∀ (x : Cx) (cargs : List Value), GOk cfg x → Rel x → RepL x args cargs → Calls P f cargs.toArray x.w fun E w' => ∃ y c, y.w = w' ∧ x.le y ∧ Rel y ∧ y.s = x.s ∧ y.K = x.K ∧ E = .returned c ∧ Rep y v c

structure Cfg.Ok (P : Program) (cfg : Cfg) : Prop where
  fn : ∀ f fn, cfg.fn f = some fn → P.funcs[f]? = some fn
  draws : ∀ f fn c, cfg.fn f = some fn → fn.body = some c → drawsOk cfg c = true
  ty : ∀ t a, cfg.ty t = some a → TyOk P t a
  lies : ∀ e n off u, cfg.lies e n off u = true → liesAt P P.depth e (n / P.cellsOf e) off u 1 = true
  mixed : P.follows .mixedOrders = true
  tab : ∀ f args v, cfg.tab f args = some v → PureOk P cfg f args v
  gfree : ∀ g cs, cfg.glob g = some cs → V.freeL cs = true
  names : ∀ f fn, cfg.fn f = some fn → (fn.name == "runtime.NumGoroutine") = false
  ext10 : ∀ f fn, cfg.fn f = some fn → fn.body = none → cfg.pure f = 10 → ∀ args w, (callFunc f args).run P w = ((Extern.AbiNoEscape.same args).run P w).andThen fun v w => .ok (.value v) w
  ext11 : ∀ f fn, cfg.fn f = some fn → fn.body = none → cfg.pure f = 11 → ∀ args w, (callFunc f args).run P w = ((Extern.BytealgCompare.compare args).run P w).andThen fun v w => .ok (.value v) w
  ext12 : ∀ f fn, cfg.fn f = some fn → fn.body = none → cfg.pure f = 12 → ∀ args w, (callFunc f args).run P w = ((Extern.BytealgIndexByte.indexByte args).run P w).andThen fun v w => .ok (.value v) w

theorem GOk.mono {cfg : Cfg} {x y : Cx} (h : x.le y) (hg : GOk cfg x) : GOk cfg y :=
  fun g cs hc => let ⟨vs, h1, h2⟩ := hg g cs hc; ⟨vs, h1.mono h, h2.mono h⟩

theorem mapM_some {α β : Type} (f : α → Option β) : ∀ (l : List α) (r : List β), l.mapM f = some r → l.length = r.length ∧ ∀ (j : Nat) (b : β), r[j]? = some b → ∃ a, l[j]? = some a ∧ f a = some b
  | [], r, h => by simp at h; subst h; simp
  | a :: l, r, h => by
    simp only [List.mapM_cons, Option.bind_eq_bind, Option.bind_eq_some_iff, Option.pure_def, Option.some.injEq] at h
    obtain ⟨b, hb, r', hr, rfl⟩ := h
    obtain ⟨h1, h2⟩ := mapM_some f l r' hr
    refine ⟨by simp [h1], fun j c hj => ?_⟩
    cases j with
    | zero => simp at hj; subst hj; exact ⟨a, by simp, hb⟩
    | succ j => simpa using h2 j c (by simpa using hj)

theorem RepL.of_get {x : Cx} : ∀ {l : List V} {m : List Value}, l.length = m.length → (∀ (j : Nat) (v : V), l[j]? = some v → ∃ c, m[j]? = some c ∧ Rep x v c) → RepL x l m
  | [], [], _, _ => .nil
  | v :: l, c :: m, hl, h => by
    obtain ⟨c', hc, hv⟩ := h 0 v (by simp)
    simp at hc; subst hc
    exact .cons hv (RepL.of_get (by simpa using hl) fun j v hj => by simpa using h (j + 1) v (by simpa using hj))

theorem rep_const {x : Cx} : ∀ (k : Nat) (c : Value) (v : V), ofConst k c = some v → Rep x v c
  | k, .bool b, v, h => by cases k <;> (simp [ofConst] at h; subst h; exact .bool b)
  | k, .int i n, v, h => by cases k <;> (simp [ofConst] at h; subst h; exact .int i n)
  | k, .string s, v, h => by cases k <;> (simp [ofConst] at h; subst h; exact .str s)
  | k, .pointer none, v, h => by cases k <;> (simp [ofConst] at h; subst h; exact .nilp)
  | k, .pointer (some a), v, h => by cases k <;> simp [ofConst] at h
  | k, .slice a n c, v, h => by
    cases k <;> (unfold ofConst at h; split at h <;> simp_all) <;> (obtain ⟨rfl, rfl, rfl⟩ := ‹_ ∧ _›; subst_vars; exact .nils)
  | k, .map none, v, h => by cases k <;> (simp [ofConst] at h; subst h; exact .nilm)
  | k, .map (some r), v, h => by cases k <;> simp [ofConst] at h
  | k, .nilFunc, v, h => by cases k <;> (simp [ofConst] at h; subst h; exact .nilf)
  | k, .nilIface, v, h => by cases k <;> (simp [ofConst] at h; subst h; exact .nili)
  | 0, .agg _, v, h => by simp [ofConst] at h
  | k + 1, .agg cs, v, h => by
    simp only [ofConst, Option.map_eq_some_iff] at h
    obtain ⟨l, hl, rfl⟩ := h
    obtain ⟨h1, h2⟩ := mapM_some _ _ _ hl
    exact .agg (RepL.of_get h1.symm fun j v hj => let ⟨a, ha, hf⟩ := h2 j v hj; ⟨a, ha, rep_const k a v hf⟩)
  | 0, .tuple _, v, h => by simp [ofConst] at h
  | k + 1, .tuple cs, v, h => by
    simp only [ofConst, Option.map_eq_some_iff] at h
    obtain ⟨l, hl, rfl⟩ := h
    obtain ⟨h1, h2⟩ := mapM_some _ _ _ hl
    exact .tup (RepL.of_get h1.symm fun j v hj => let ⟨a, ha, hf⟩ := h2 j v hj; ⟨a, ha, rep_const k a v hf⟩)
  | 0, .iface _ _, v, h => by simp [ofConst] at h
  | k + 1, .iface t c, v, h => by
    simp only [ofConst, Option.map_eq_some_iff] at h
    obtain ⟨l, hl, rfl⟩ := h
    exact .iface t (rep_const k c l hl)
  | k, .float _ _, v, h => by cases k <;> simp [ofConst] at h
  | k, .complex _ _ _, v, h => by cases k <;> simp [ofConst] at h
  | k, .chan _, v, h => by cases k <;> simp [ofConst] at h
  | k, .func _ _ _, v, h => by cases k <;> simp [ofConst] at h

/-! operands -/
theorem ev_rep {P : Program} {cfg : Cfg} {x : Cx} (hg : GOk cfg x) {tmps : List V} {a : Act} (ht : RepL x tmps a.tmps.toList) {o : Operand} {v : V} (h : ev cfg tmps o = some v) : Rep x v (a.eval o) := by
  cases o with
  | tmp t =>
    simp only [ev, nth_eq] at h
    obtain ⟨c, hc, hr⟩ := ht.get t v h
    have : a.tmps.getD t undef = c := by
      rw [Array.getElem?_toList] at hc
      simp [hc]
    simpa [Act.eval, this] using hr
  | const c => exact rep_const 3 c v h
  | global g =>
    simp only [ev, Option.map_eq_some_iff] at h
    obtain ⟨cs, hc, rfl⟩ := h
    obtain ⟨vs, h1, h2⟩ := hg g cs hc
    exact .cptr g 0 0 h1 h2
  | func f =>
    simp only [ev, Option.some.injEq] at h
    subst h
    exact .func (.func f) .nil .nil

theorem evL_rep {P : Program} {cfg : Cfg} {x : Cx} (hg : GOk cfg x) {tmps : List V} {a : Act} (ht : RepL x tmps a.tmps.toList) : ∀ {os : List Operand} {vs : List V}, evL cfg tmps os = some vs → RepL x vs (os.map a.eval)
  | [], vs, h => by simp [evL] at h; subst h; exact .nil
  | o :: os, vs, h => by
    simp only [evL] at h
    split at h
    · rename_i v r h1 h2
      injection h with h; subst h
      exact .cons (ev_rep (P := P) hg ht h1) (evL_rep (P := P) hg ht h2)
    · cases h

/-! types -/
section
variable {P : Program} {t : TypeId} {a : ATy} (w : World)
theorem TyOk.run_und (h : TyOk P t a) : (underlying t).run P w = .ok a.und w := run_underlying h.und w
theorem TyOk.run_size (h : TyOk P t a) : (sizeOf t).run P w = .ok a.size w := by
  obtain ⟨i, z, h1, h2, _⟩ := h.info
  simp [sizeOf, typeInfo, h1, h2]
theorem TyOk.run_info (h : TyOk P t a) : ∃ i, (typeInfo t).run P w = .ok i w ∧ i.size = a.size ∧ i.bytes = a.bytes ∧ P.info? t = some i := by
  obtain ⟨i, z, h1, h2, h3, _⟩ := h.info
  exact ⟨i, by simp [typeInfo, h1], h2, h3, h1⟩
theorem TyOk.run_zero (h : TyOk P t a) : ∃ z, (zeroValue t).run P w = .ok z w ∧ (∀ x, Rep x a.zero z) ∧ z.cells.size = a.size := by
  obtain ⟨i, z, h1, h2, h3, h4, ⟨k, h5⟩, h6⟩ := h.info
  exact ⟨z, by simp [zeroValue, typeInfo, h1, h4], fun x => rep_const k z _ h5, h6⟩
theorem TyOk.run_agg (h : TyOk P t a) : (isAgg t).run P w = .ok (isAggD a.und) w := by
  simp only [isAgg, Sem.run_bind, h.run_und w, Result.andThen_ok]
  cases a.und <;> simp [isAggD]
end

/-! loads -/
theorem add_lit' (b o n : Nat) : (⟨b, o, none⟩ : Addr).add n = ⟨b, o + n, none⟩ := by
  unfold Addr.add; split
  · subst_vars; rfl
  · rfl

/-- What stands at an address. -/
def at_ (w : World) (b o : Nat) (vs : List Value) : Prop := ∀ (j : Nat) (c : Value), vs[j]? = some c → w.cell? ⟨b, o + j, none⟩ = some c

theorem at_.drop {w : World} {b o : Nat} {vs : List Value} (h : at_ w b o vs) (n : Nat) : at_ w b (o + n) (vs.drop n) := fun j c hj => by
  rw [List.getElem?_drop] at hj
  have := h (n + j) c hj
  rwa [show o + n + j = o + (n + j) by omega]

theorem at_.take {w : World} {b o : Nat} {vs : List Value} (h : at_ w b o vs) (n : Nat) : at_ w b o (vs.take n) := fun j c hj => by
  rw [List.getElem?_take] at hj
  split at hj
  · exact h j c hj
  · cases hj

theorem held.at {x : Cx} {b o : Nat} {vs : List Value} (h : held x b o vs) : at_ x.w b o vs := h.2.2

theorem orep_at {x : Cx} {b base : Nat} {cs : List V} {frz : Nat} {ty : TypeId} {ex : Bool} (h : ORep x b base (.cells cs frz ty ex)) : ∃ vs, RepL x cs vs ∧ at_ x.w b base vs := by
  obtain ⟨C, lo, hi, vs, h1, h2, h3, _⟩ := h
  exact ⟨vs, h2, fun j c hj => by simp [World.cell?, h1, h3 j c hj]⟩

theorem run_loadAt {P : Program} {x : Cx} {t : TypeId} {a : ATy} (ht : TyOk P t a) {cs : List V} {vs : List Value} {b o off : Nat} {v : V} (hl : RepL x cs vs) (hat : at_ x.w b o vs)
    (h : sub cs off a.size (isAggD a.und) = some v) : ∃ c, (Instr.loadAt t (.pointer (some ⟨b, o + off, none⟩))).run P x.w = .ok c x.w ∧ Rep x v c := by
  simp only [Instr.loadAt, Instr.sureAddr, Sem.run_bind, Sem.run_pure, Result.andThen_ok, loadVar, ht.run_agg]
  unfold sub at h
  split at h
  · rename_i hag
    split at h
    · rename_i hle
      injection h with h; subst h
      have hl2 := (hl.drop off).take a.size
      have hlen : ((vs.drop off).take a.size).length = a.size := by
        have := hl.length
        rw [List.length_take, List.length_drop]; omega
      have hr := run_loadCells_list (P := P) x.w ⟨b, o + off, none⟩ ((vs.drop off).take a.size) (fun j c hj => by rw [add_lit']; exact ((hat.drop off).take a.size) j c hj)
      rw [hlen] at hr
      refine ⟨.agg ((vs.drop off).take a.size).toArray, ?_, .agg (by simpa using hl2)⟩
      simp [hag, ht.run_size, hr]
    · cases h
  · rename_i hag
    obtain ⟨c, hc, hv⟩ := hl.get off v h
    refine ⟨c, ?_, hv⟩
    have := hat off c hc
    simp [hag, this]

theorem aLoad_ok {P : Program} {x : Cx} (hx : Rel x) {t : TypeId} {a : ATy} (ht : TyOk P t a) {p v : V} {c : Value} (hp : Rep x p c) (h : aLoad x.s a.size (isAggD a.und) p = some v) :
    ∃ c', (Instr.loadAt t c).run P x.w = .ok c' x.w ∧ Rep x v c' := by
  unfold aLoad at h
  split at h
  · rename_i id off
    split at h
    · rename_i cs _ _ _ hg
      cases hp
      obtain ⟨vs, hl, hat⟩ := orep_at (hx.live id _ hg).2
      exact run_loadAt ht hl hat h
    · cases h
  · rename_i cs off
    cases hp with
    | cptr b o _ hh hl => exact run_loadAt ht hl hh.at h
  · cases h

/-! stores -/
theorem splice_rep {x : Cx} {cs : List V} {vs : List Value} (hl : RepL x cs vs) {off : Nat} {us : List V} {ws : List Value} (hu : RepL x us ws) : RepL x (splice cs off us) (vs.take off ++ ws ++ vs.drop (off + ws.length)) := by
  unfold splice
  rw [hu.length]
  exact ((hl.take off).append hu).append (hl.drop _)

/-- Cells of an object written. -/
theorem write_ok {P : Program} {x : Cx} (hx : Rel x) {id off frz : Nat} {cs : List V} {ty : TypeId} {ex : Bool} (hg : x.s.get id = some (.cells cs frz ty ex)) {us : List V} {ws : List Value} (hu : RepL x us ws)
    (h1 : us.all V.one = true) (h2 : off + us.length ≤ cs.length) (h3 : frz ≤ off) :
    ∃ w', (storeCells ⟨(x.ρ id).1, (x.ρ id).2 + off, none⟩ ws).run P x.w = .ok () w' ∧ x.le (x.putc id (.cells (splice cs off us) frz ty ex) w') ∧ Rel (x.putc id (.cells (splice cs off us) frz ty ex) w') := by
  obtain ⟨C, lo, hi, vs, hb, hl, hpre, hfr, hex⟩ := (hx.live id _ hg).2
  have hlen := hl.length
  have hlen2 := hu.length
  have hC : ∀ k, k < cs.length → (x.ρ id).2 + k < C.size := fun k hk => by
    have h : vs[k]? = some (vs[k]'(by omega)) := List.getElem?_eq_getElem (by omega)
    have := hpre k _ h
    exact (Array.getElem?_eq_some_iff.1 this).1
  obtain ⟨w', C', hr, hw, hb', hs, hgj⟩ := run_storeCells (P := P) ws x.w (x.ρ id).1 ((x.ρ id).2 + off) 0 C ty lo hi hb (hu.ones h1) (fun k hk => by
    have hlt := hC (off + k) (by omega)
    refine ⟨by omega, fun ⟨ha, hb⟩ => ?_⟩
    have := hfr _ (by omega) ha hb
    omega)
  have hle := putc_le (o' := .cells (splice cs off us) frz ty ex) hg hw
  refine ⟨w', hr, hle, putc_rel hx hg hw ⟨C', lo, hi, vs.take off ++ ws ++ vs.drop (off + ws.length), hb', (splice_rep hl hu).mono hle, fun j c hj => ?_, fun o ho => by rw [hs] at ho; exact hfr o ho, fun he => ?_⟩⟩
  · rw [hgj]
    simp only [Nat.add_zero]
    have hto : (vs.take off).length = off := by rw [List.length_take]; omega
    by_cases e1 : j < off
    · rw [if_neg (by omega)]
      apply hpre
      rw [List.append_assoc, List.getElem?_append_left (by omega)] at hj
      rw [List.getElem?_take] at hj
      simpa [e1] using hj
    · by_cases e2 : j < off + ws.length
      · rw [if_pos (by omega)]
        rw [List.append_assoc, List.getElem?_append_right (by omega), List.getElem?_append_left (by omega), hto] at hj
        rw [← hj]; congr 1; omega
      · rw [if_neg (by omega)]
        apply hpre
        rw [List.getElem?_append_right (by rw [List.length_append]; omega), List.getElem?_drop] at hj
        rw [← hj]; congr 1; rw [List.length_append]; omega
  · obtain ⟨h5, h6⟩ := hex he
    refine ⟨h5, ?_⟩
    rw [hs, h6]
    simp only [splice, List.length_append, List.length_take, List.length_drop]
    omega

theorem aStore_ok {P : Program} {x : Cx} (hx : Rel x) {t : TypeId} {a : ATy} (ht : TyOk P t a) {p v : V} {cp cv : Value} (hp : Rep x p cp) (hv : Rep x v cv) {s' : S} (h : aStore x.s a.size p v = some s') :
    ∃ y, (Instr.storeAt t cp cv).run P x.w = .ok () y.w ∧ x.le y ∧ Rel y ∧ y.s = s' ∧ y.K = x.K := by
  unfold aStore at h
  split at h
  · rename_i id off
    split at h
    · rename_i cs frz ty ex hg
      split at h
      · rename_i hc
        obtain ⟨h1, h2, h3, h4⟩ := hc
        injection h with h; subst h
        cases hp
        have hcl := hv.cells
        obtain ⟨w', hr, hle, hrel⟩ := write_ok (P := P) hx hg hcl h4 (by omega) h3
        refine ⟨_, ?_, hle, hrel, rfl, rfl⟩
        have hsz : cv.cells.size = a.size := by
          have h6 := hcl.length
          simp only [Array.length_toList] at h6
          exact h6.symm.trans h1
        simp only [Instr.storeAt, Instr.sureAddr, Sem.run_bind, Sem.run_pure, Result.andThen_ok, storeVar, ht.run_size, hsz]
        simpa [Cx.putc] using hr
      · cases h
    · cases h
  · cases h

end Go.Proofs.YtejjnakhijgkaaaGreatDoor.Ai
