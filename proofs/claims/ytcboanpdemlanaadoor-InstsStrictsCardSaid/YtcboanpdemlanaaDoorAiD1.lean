/- Part of a reckoning of a Go program over abstract values, proved sound against the model. -/
import Derived.Test.YtcboanpdemlanaaDoorAiC9
import Derived.Defers
namespace Go.Proofs.YtcboanpdemlanaaDoor.Ai

section
variable {P : Program} {cfg : Cfg} {cf : CallF} {x : Cx}

/-! results -/
def resF (tmps : Array Value) : ResultVar → Sem Value
  | .tmp t => pure (tmps.getD t undef)
  | .cell a t => do loadVar t (← asAddr (tmps.getD a undef))

theorem getD_rep {tmps : List V} {T : Array Value} (h : RepL x tmps T.toList) {t : Nat} {v : V} (hv : tmps[t]? = some v) : Rep x v (T.getD t undef) := by
  obtain ⟨c, hc, hr⟩ := h.get t v hv
  rw [Array.getElem?_toList] at hc
  simpa [hc] using hr

theorem aLoad_var (hx : Rel x) {t : TypeId} {a : ATy} (ht : TyOk P t a) {p v : V} {c : Value} (hp : Rep x p c) (h : aLoad x.s a.size (isAggD a.und) p = some v) :
    ∃ c', (do loadVar t (← asAddr c) : Sem Value).run P x.w = .ok c' x.w ∧ Rep x v c' := by
  obtain ⟨c', h1, h2⟩ := aLoad_ok (P := P) hx ht hp h
  refine ⟨c', ?_, h2⟩
  rw [← h1]
  cases hp <;> first | rfl | simp [aLoad] at h

theorem resV_ok (hc : cfg.Ok P) (hx : Rel x) {tmps : List V} {T : Array Value} (ht : RepL x tmps T.toList) : ∀ {rs : List ResultVar} {vs : List V}, resV cfg x.s tmps rs = some vs →
    ∃ cs, (rs.mapM (resF T)).run P x.w = .ok cs x.w ∧ RepL x vs cs
  | [], vs, h => by
    simp only [resV, Option.some.injEq] at h; subst h
    exact ⟨[], by simp, .nil⟩
  | .tmp t :: l, vs, h => by
    simp only [resV] at h
    split at h
    · rename_i v r h1 h2
      injection h with h; subst h
      obtain ⟨cs, h3, h4⟩ := resV_ok hc hx ht h2
      exact ⟨T.getD t undef :: cs, by simp only [List.mapM_cons, resF, Sem.run_bind, Sem.run_pure, Result.andThen_ok, h3], .cons (getD_rep ht h1) h4⟩
    · cases h
  | .cell a t :: l, vs, h => by
    simp only [resV] at h
    split at h
    · rename_i p i r h1 hi h2
      split at h
      · rename_i v hv
        injection h with h; subst h
        obtain ⟨cs, h3, h4⟩ := resV_ok hc hx ht h2
        obtain ⟨c, h5, h6⟩ := aLoad_var (P := P) hx (hc.ty _ _ hi) (getD_rep ht h1) hv
        refine ⟨c :: cs, ?_, .cons h6 h4⟩
        simp only [List.mapM_cons, resF]
        rw [Sem.run_bind, h5]
        simp only [Result.andThen_ok, Sem.run_bind, h3, Sem.run_pure]
      · cases h
    · cases h

theorem results_ok (hc : cfg.Ok P) (hx : Rel x) {tmps : List V} {T : Array Value} (ht : RepL x tmps T.toList) {fn : Func} {vs : List V} (h : resV cfg x.s tmps fn.results.toList = some vs) :
    ∃ c, (results fn T).run P x.w = .ok c x.w ∧ Rep x (tupV vs) c := by
  obtain ⟨cs, h1, h2⟩ := resV_ok hc hx ht h
  have hm : (fn.results.mapM (resF T)).run P x.w = .ok cs.toArray x.w := by
    rw [Array.mapM_eq_mapM_toList]
    have : (List.toArray <$> (fn.results.toList.mapM (resF T))) = (do let l ← fn.results.toList.mapM (resF T); pure l.toArray) := map_eq_pure_bind _ _
    rw [this, Sem.run_bind, h1]
    simp
  have hdef : results fn T = (do let vs ← fn.results.mapM (resF T); pure (if h : vs.size = 1 then vs[0] else .tuple vs)) := by
    unfold results
    congr 1
  refine ⟨if h : cs.toArray.size = 1 then cs.toArray[0] else .tuple cs.toArray, ?_, ?_⟩
  · rw [hdef, Sem.run_bind, hm]
    simp
  · cases h2 with
    | nil => exact .tup (C := #[]) .nil
    | cons hv hl =>
      cases hl with
      | nil => exact hv
      | cons hv' hl' => exact .tup (C := _) (.cons hv (.cons hv' hl'))

/-! bodies -/
theorem body_ok (hc : cfg.Ok P) (hcf : CallOk P cfg cf) {fuel : Nat} {f : FuncId} {args : List V} {cargs : List Value} {fn : Func} {e : AX} {fr : Fr} {s' : S} (hg : GOk cfg x) (hx : Rel x) (ha : RepL x args cargs)
    (h : body cfg cf fuel f args x.s = some (fn, e, fr, s')) :
    P.funcs[f]? = some fn ∧ ∃ c, fn.body = some c ∧ ∀ Q, Then x Q e fr s' → c.wp P Q { tmps := cargs.toArray ++ Array.replicate (fn.ntmps - cargs.toArray.size) undef, defers := [] } x.w := by
  unfold body at h
  split at h
  · cases h
  rename_i fn' hfn
  split at h
  · cases h
  rename_i c hb
  split at h
  case h_2 => cases h
  rename_i e1 fr1 s1 hex
  simp only [Option.some.injEq, Prod.mk.injEq] at h
  obtain ⟨rfl, rfl, rfl, rfl⟩ := h
  refine ⟨hc.fn f fn' hfn, c, hb, fun Q hp => ?_⟩
  refine exec_ok hc hcf c (hc.draws f fn' c hfn hb) x _ _ _ _ _ Q hg hx ⟨?_, .nil⟩ hex hp
  have := ha.append (RepL.replicate (rep_undef x) (fn'.ntmps - args.length))
  rw [ha.length] at this
  simpa [ha.length] using this

theorem run_invoke_fn (hc : cfg.Ok P) {g : FuncId} {fn : Func} (hfn : cfg.fn g = some fn) {c : Code} (hb : fn.body = some c) (cap args : Array Value) (w : World) :
    (invoke (.fn (.func g) cap) args).run P w = .ok (.enter g (args ++ cap)) w := by
  have := run_callFunc_body hc hfn hb (args ++ cap) w
  simpa [invoke] using this

theorem body_fn {fuel : Nat} {f : FuncId} {args : List V} {fn : Func} {e : AX} {fr : Fr} {s s' : S} (h : body cfg cf fuel f args s = some (fn, e, fr, s')) : cfg.fn f = some fn := by
  unfold body at h
  split at h
  · cases h
  rename_i fn' hfn
  split at h
  · cases h
  split at h
  case h_2 => cases h
  simp only [Option.some.injEq, Prod.mk.injEq] at h
  obtain ⟨rfl, _⟩ := h
  exact hfn

/-- The deferred calls. -/
theorem leave_ok (hc : cfg.Ok P) (hcf : CallOk P cfg cf) {fuel : Nat} {fn : Func} {tmps : Array Value} {R : Ending → World → Prop} {u : FrameMode} (hu : u ≠ .run) (hs : settle u = u) : ∀ (ds : List DF) (D : List Deferred) (x : Cx) (s' : S),
    GOk cfg x → Rel x → DRepL x ds D → leave cfg cf fuel ds x.s = some s' → (∀ y, Grew x s' y → Leaves P fn tmps R [] u y.w) → Leaves P fn tmps R D u x.w
  | [], D, x, s', hg, hx, hD, h, hp => by
    cases hD
    simp only [leave, Option.some.injEq] at h; subst h
    exact hp x (.refl hx)
  | d :: ds, D, x, s', hg, hx, hD, h, hp => by
    cases hD with
    | cons hd hD =>
      rename_i d' D
      obtain ⟨cap, dargs0, h1, h2, h3, h4⟩ := hd
      obtain ⟨tgt, dargs⟩ := d'
      simp only at h1 h2
      subst h1 h2
      simp only [leave] at h
      split at h
      case h_2 => cases h
      rename_i g hdg
      split at h
      case h_2 => cases h
      rename_i fn' e fr s1 hbody
      have hfn := body_fn hbody
      have hargs : RepL x (d.args ++ d.cap) (dargs.toList ++ cap.toList) := h4.append h3
      obtain ⟨hP, c, hb, hwp⟩ := body_ok hc hcf hg hx hargs hbody
      have harr : (dargs.toList ++ cap.toList).toArray = dargs ++ cap := by simp
      rw [harr] at hwp
      rw [hdg]
      refine leaves_cons hu (run_invoke_fn hc hfn hb cap dargs x.w) ?_
      have key : fr.dfs = [] → (∃ vs, resV cfg s1 fr.tmps fn'.results.toList = some vs) → (e = .normal ∨ e = .ret) → CallsD P g (dargs ++ cap) u x.w fun E u' w' => u' = u ∧ ∃ y : Cx, y.w = w' ∧ Grew x s1 y ∧ ∃ v, E = .returned v := by
        intro hdfs ⟨vs, hres⟩ he
        refine callsD_of_wp hP hb (hwp _ fun y E a' hgr ho hf => ?_)
        have hd0 : a'.defers = [] := by
          have := hf.dfs
          rw [hdfs] at this
          generalize a'.defers = D' at this
          cases this; rfl
        have hys := hgr.s
        subst hys
        obtain ⟨v, hr, hv⟩ := results_ok hc hgr.rel hf.tmps hres
        rcases he with rfl | rfl
        · cases E <;> try exact ho.elim
          exact ⟨hd0, v, hr, y, rfl, hgr, v, rfl⟩
        · cases E <;> try exact ho.elim
          exact ⟨hd0, v, hr, y, rfl, hgr, v, rfl⟩
      have fin : (CallsD P g (dargs ++ cap) u x.w fun E u' w' => u' = u ∧ ∃ y : Cx, y.w = w' ∧ Grew x s1 y ∧ ∃ v, E = .returned v) → leave cfg cf fuel ds s1 = some s' → CallsD P g (dargs ++ cap) u x.w (fun
          | .returned _, u', w' => Leaves P fn tmps R D (settle u') w'
          | .panicked chain, u', w' => Leaves P fn tmps R D (raised u' chain) w'
          | .outgrown, _, w' => R .outgrown w') := by
        intro hC hl
        refine hC.mono ?_
        rintro E u' w' ⟨rfl, y, rfl, hgr, v, rfl⟩
        simp only
        rw [hs]
        have hys := hgr.s
        subst hys
        exact leave_ok hc hcf hu hs ds D y s' (hg.mono hgr.le) hgr.rel (hD.mono hgr.le) hl fun z hz => hp z (hgr.trans hz)
      split at h
      · rename_i hdfs hres
        exact fin (key hdfs ⟨_, hres⟩ (.inl rfl)) h
      · rename_i hdfs hres
        exact fin (key hdfs ⟨_, hres⟩ (.inr rfl)) h
      · cases h

theorem settle_plain {chain : List PanicEntry} (h : ∀ q ∈ chain, q.recovered = false) : settle (.panicking chain) = .panicking chain := by
  cases chain with
  | nil => rfl
  | cons q l =>
    have hq := h q (by simp)
    obtain ⟨v, r, g⟩ := q
    simp only at hq
    subst hq
    rfl

theorem PRep.plain {ch : List AP} {d : List PanicEntry} (h : PRep x ch d) (hp : ch.all (fun p => !p.rcv) = true) : ∀ q ∈ d, q.recovered = false := by
  intro q hq
  obtain ⟨j, hj, rfl⟩ := List.getElem_of_mem hq
  have hjc : j < ch.length := by rw [h.1]; exact hj
  obtain ⟨q', h1, _, h3, _⟩ := h.2 j ch[j] (List.getElem?_eq_getElem hjc)
  rw [List.getElem?_eq_getElem hj] at h1
  injection h1 with h1
  rw [h1, h3]
  have := List.all_eq_true.1 hp ch[j] (List.getElem_mem hjc)
  simpa using this

/-- Every call that the reckoning runs is a call of the program. -/
theorem call_ok (hc : cfg.Ok P) : ∀ n, CallOk P cfg (call cfg n) := by
  intro n
  induction n with
  | zero => intro x f fn args cargs e s' _ _ _ _ h; simp [call] at h
  | succ n ih =>
    intro x f fn args cargs e s' hfn hg hx ha h
    simp only [call] at h
    split at h
    · cases h
    rename_i fn1 e1 fr s1 hbody
    have hfn1 := body_fn hbody
    have : fn = fn1 := Option.some.inj (hfn.symm.trans hfn1)
    subst this
    obtain ⟨hP, c, hb, hwp⟩ := body_ok hc ih hg hx ha hbody
    refine calls_of_wp_defers hP hb (hwp _ fun y E a' hgr ho hf => ?_)
    have hys := hgr.s
    subst hys
    have hgy := hg.mono hgr.le
    have went : ∀ {z : Cx} {s2 : S}, Grew y s2 z → Went x x.s.next s2 z := fun {z s2} hz => by
      have := hgr.trans hz
      exact ⟨this.le, this.rel, this.s, fun i hi => (this.grow i hi).elim .inl fun h => .inr (.inr h)⟩
    have normal : (∃ s2, leave cfg (call cfg n) n fr.dfs y.s = some s2 ∧ ∃ vs, resV cfg s2 fr.tmps fn.results.toList = some vs ∧ e = .ret (tupV vs) ∧ s' = s2) →
        Leaves P fn a'.tmps (fun E w' => ∃ y : Cx, y.w = w' ∧ Went x x.s.next s' y ∧ EndOk y e E) a'.defers .returning y.w := by
      rintro ⟨s2, hl, vs, hres, rfl, rfl⟩
      refine leave_ok hc ih (by simp) rfl fr.dfs a'.defers y s' hgy hgr.rel hf.dfs hl fun z hz => ?_
      have hzs := hz.s
      subst hzs
      obtain ⟨v, hr, hv⟩ := results_ok hc hz.rel (hf.tmps.mono hz.le) hres
      exact ⟨v, hr, z, rfl, went hz, hv⟩
    have unpack : (match leave cfg (call cfg n) n fr.dfs y.s with
        | some s'' => match resV cfg s'' fr.tmps fn.results.toList with
          | some vs => some (AE.ret (tupV vs), s'')
          | none => none
        | none => none) = some (e, s') → ∃ s2, leave cfg (call cfg n) n fr.dfs y.s = some s2 ∧ ∃ vs, resV cfg s2 fr.tmps fn.results.toList = some vs ∧ e = .ret (tupV vs) ∧ s' = s2 := by
      intro h
      split at h
      · rename_i s2 hl
        split at h
        · rename_i vs hres
          simp only [Option.some.injEq, Prod.mk.injEq] at h
          exact ⟨s2, hl, vs, hres, h.1.symm, h.2.symm⟩
        · cases h
      · cases h
    cases e1 with
    | normal =>
      cases E <;> try exact ho.elim
      exact normal (unpack h)
    | ret =>
      cases E <;> try exact ho.elim
      exact normal (unpack h)
    | pan ch =>
      cases E <;> try exact ho.elim
      rename_i chain
      simp only at h
      split at h
      case isFalse => cases h
      rename_i hplain
      split at h
      case h_2 => cases h
      rename_i s2 hl
      simp only [Option.some.injEq, Prod.mk.injEq] at h
      obtain ⟨rfl, rfl⟩ := h
      refine leave_ok hc ih (by simp) (settle_plain (PRep.plain ho hplain)) fr.dfs a'.defers y s2 hgy hgr.rel hf.dfs hl fun z hz => ?_
      exact ⟨z, rfl, went hz, PRep.mono hz.le ho⟩
    | exit id => cases h
end
end Go.Proofs.YtcboanpdemlanaaDoor.Ai
