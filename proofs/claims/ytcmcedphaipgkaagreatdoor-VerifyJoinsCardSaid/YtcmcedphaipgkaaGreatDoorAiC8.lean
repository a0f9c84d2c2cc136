/- Part of a reckoning of a Go program over abstract values, proved sound against the model. -/
import Derived.Test.YtcmcedphaipgkaaGreatDoorAiC7F
set_option linter.unusedSimpArgs false
set_option linter.unusedVariables false
namespace Go.Proofs.YtcmcedphaipgkaaGreatDoor.Ai
noncomputable section

theorem filter_le {p q : Nat → Bool} : ∀ (l : List Nat), (∀ e ∈ l, p e = true → q e = true) → (l.filter p).length ≤ (l.filter q).length
  | [], _ => Nat.le_refl _
  | e :: l, h => by
    have ih := filter_le l fun e he => h e (by simp [he])
    have he := h e (by simp)
    simp only [List.filter_cons]
    split
    · rename_i hp
      rw [if_pos (he hp)]
      simp only [List.length_cons]; omega
    · split
      · simp only [List.length_cons]; omega
      · exact ih

theorem filter_lt {p q : Nat → Bool} {j : Nat} (hq : q j = true) (hp : p j = false) : ∀ (l : List Nat), (∀ e ∈ l, p e = true → q e = true) → j ∈ l → (l.filter p).length < (l.filter q).length
  | [], _, hj => by simp at hj
  | e :: l, h, hj => by
    have hle := filter_le (p := p) (q := q) l fun e he => h e (by simp [he])
    rcases List.mem_cons.1 hj with rfl | hj
    · rw [List.filter_cons_of_neg (by simp [hp]), List.filter_cons_of_pos hq, List.length_cons]; omega
    · have ih := filter_lt hq hp l (fun e he => h e (by simp [he])) hj
      have he := h e (by simp)
      simp only [List.filter_cons]
      split
      · rename_i hp
        rw [if_pos (he hp)]
        simp only [List.length_cons]; omega
      · split
        · simp only [List.length_cons]; omega
        · exact ih

theorem pends_at {cfg : Cfg} {cf : CF} {sl : Bool} {b : List Nat} {effs : List Nat} {starts : List S} : ∀ (l : List Oper) (rs : List Rec) (i : Nat), pendsOk cfg cf sl b effs starts l rs i = true →
    ∀ (t : Nat) (o : Oper) (r : Rec), l[t]? = some o → rs[t]? = some r → r.k = 1 → pendOk cfg cf sl b effs starts o (i + t) r = true
  | [], rs, i, h, t, o, r, ho, hr, hk => by simp at ho
  | o' :: l, [], i, h, t, o, r, ho, hr, hk => by simp at hr
  | o' :: l, r' :: rs, i, h, t, o, r, ho, hr, hk => by
    simp only [pendsOk, Bool.and_eq_true] at h
    cases t with
    | zero =>
      simp at ho hr
      subst ho hr
      simpa [hk] using h.1
    | succ t =>
      have := pends_at l rs (i + 1) h.2 t o r (by simpa using ho) (by simpa using hr) hk
      rwa [show i + 1 + t = i + (t + 1) by omega] at this

section
variable {P : Program} {cfg : Cfg} {cf : CF} {sl : Bool} {ops : Array Oper} {base : Nat} {Q : Exit → Act → World → Prop}
variable {x0 : Cx} {fr : Fr} {rs : List Rec} {s0 : S}

/-- What is made, listed, and met by no change. -/
def pL (ops : Array Oper) (rs : List Rec) (L : Nat → Bool) (k : Nat) : Bool := L k && !absB (bef ops) ((effsOf rs 0).filter L) k

structure Inv (cfg : Cfg) (ops : Array Oper) (base : Nat) (x0 : Cx) (fr : Fr) (rs : List Rec) (s0 : S) (L : Nat → Bool) (x : Cx) (a : Act) : Prop where
  closed : Closed ops L
  rel : Rel x
  gok : GOk cfg x
  le : x0.le x
  frep : FRep x ⟨tmF L ops.toList rs 0 fr.tmps, fr.dfs⟩ a
  s : x.s = addF (pL ops rs L) base rs 0 (coreF L rs 0 s0)
  K : ∀ i, x.K i → x0.K i ∨ (∃ k, L k = true ∧ i = base + k) ∨ base + ops.size ≤ i
  next : base + ops.size ≤ (coreF L rs 0 s0).next
  fresh : ∀ (k : Nat) (r : Rec), rs[k]? = some r → r.ob ≠ none → pL ops rs L k = true → (coreF L rs 0 s0).get (base + k) = none
  last : (s0 :: startsOf rs)[((effsOf rs 0).filter L).length]? = some (coreF L rs 0 s0)

theorem draw_step (hc : cfg.Ok P) (hcf : CFOk P cfg cf) (hord : Ordered cfg ops) {tmE : List V} {sE : S} (hrun : drawRun cfg cf sl ops (bef ops) base ops.toList 0 [] fr.tmps s0 = some (rs, tmE, sE))
    (hpend : pendsOk cfg cf sl (bef ops) (effsOf rs 0) (s0 :: startsOf rs) ops.toList rs 0 = true) (h0 : ∀ i, x0.K i → i < base)
    {L : Nat → Bool} {x : Cx} {a : Act} (hI : Inv cfg ops base x0 fr rs s0 L x a) {j : Nat} {o : Oper} (hj : ops[j]? = some o) (hLj : L j = false) (hready : ∀ k ∈ binding o, L k = true)
    {K : Act → World → Prop} (hK : ∀ y a', Inv cfg ops base x0 fr rs s0 (ins L j) y a' → K a' y.w) {lr : Option Nat} {n : Nat} : wpOpIn (FW lr) n P ops Q j K a x.w := by
  obtain ⟨new, hnew, hlen, _, _, hat⟩ := draw_at (cfg := cfg) ops.toList 0 _ _ _ _ _ _ hrun
  rw [List.nil_append] at hnew
  subst hnew
  have hlen' : rs.length = ops.size := by simpa using hlen
  have hjn : j < ops.size := (Array.getElem?_eq_some_iff.1 hj).1
  obtain ⟨r, hr⟩ : ∃ r, rs[j]? = some r := ⟨_, List.getElem?_eq_getElem (by omega)⟩
  have hjl : ops.toList[j]? = some o := by rw [Array.getElem?_toList]; exact hj
  obtain ⟨hst, htm, hcc⟩ := hat j o r hjl hr
  simp only [Nat.zero_add, List.nil_append] at hst htm hcc
  have hsome : ∀ {k : Nat} {r' : Rec}, rs[k]? = some r' → ∃ ok, ops[k]? = some ok ∧ (r'.k = 3 → opKind cfg ok = 3) := fun {k r'} hk => by
    have hkn : k < ops.size := by have := (List.getElem?_eq_some_iff.1 hk).1; omega
    refine ⟨ops[k], Array.getElem?_eq_getElem hkn, fun h3 => ?_⟩
    obtain ⟨h1, _⟩ := hat k ops[k] r' (by rw [Array.getElem?_toList]; exact Array.getElem?_eq_getElem hkn) hk
    obtain ⟨_, _, h⟩ := step_inv h1
    rcases h with h | h | h | h <;> omega
  have before : ∀ {k : Nat}, ordB (bef ops) k j = true → L k = true ∧ k < j := fun h => ⟨ord_ready hord hI.closed hj hready h, ord_lt hord h⟩
  have later : ∀ {k : Nat}, ordB (bef ops) j k = true → L k = false ∧ j < k := fun {k} h => by
    refine ⟨?_, ord_lt hord h⟩
    cases hLk : L k with
    | false => rfl
    | true =>
      have := ord_closed hord hI.closed h hLk
      rw [hLj] at this; cases this
  have agree : ∀ {k : Nat}, ordB (bef ops) k j = true ∨ ordB (bef ops) j k = true → L k = decide (k < j) := fun {k} h => by
    rcases h with h | h
    · obtain ⟨h1, h2⟩ := before h
      simp [h1, h2]
    · obtain ⟨h1, h2⟩ := later h
      have : ¬ k < j := by omega
      simp [h1, this]
  have hself : L j = decide (j < j) := by simp [hLj]
  have hlook : ∀ d ∈ looks ops o, (tmF L ops.toList rs 0 fr.tmps)[d]? = r.tm[d]? := fun d hd => by
    rw [htm]
    refine tmF_same d ops.toList rs 0 _ _ (fun k o' ho hdk => ?_) rfl
    rw [Nat.zero_add]
    rw [Array.getElem?_toList] at ho
    by_cases e : k = j
    · subst e; exact hself
    · exact agree ((hord.dst k j o' o d ho hj e hdk).2 hd)
  obtain ⟨hop, hwant⟩ := looks_congr (cfg := cfg) (cf := cf) (sl := sl) hlook
  have hclosed : Closed ops (ins L j) := fun k o' ho hk b hb => by
    by_cases e : k = j
    · subst e
      rw [hj] at ho; injection ho with ho; subst ho
      simp [ins, hready b hb]
    · have : (k == j) = false := by simpa using e
      simp only [ins, this, Bool.false_or] at hk
      simp [ins, hI.closed k o' ho hk b hb]
  have htmE : ∀ v, v = r.v → tmF (ins L j) ops.toList rs 0 fr.tmps = putT o.dst (tmF L ops.toList rs 0 fr.tmps) v := fun v hv => by
    subst hv
    refine tmF_ins L j o r ops.toList rs 0 j fr.tmps (by omega) hjl hr hLj fun k o' ho hne t ht => ?_
    rw [Array.getElem?_toList] at ho
    exact (hord.dst j k o o' t hj ho (by omega) ht).1
  have hnx : ¬ x.K (base + j) := fun h => by
    rcases hI.K _ h with h | ⟨k, hk, he⟩ | h
    · have := h0 _ h; omega
    · have : k = j := by omega
      subst this; rw [hLj] at hk; cases hk
    · omega
  have hxnext : x.s.next = (coreF L rs 0 s0).next := by rw [hI.s]; exact addF_next (n := base + ops.size) rs 0 _ (by omega) hI.next
  have hpj : pL ops rs L j = false := by simp [pL, hLj]
  have hcoreExt : Ext (coreF L rs 0 s0) x.s := by
    rw [hI.s]
    exact addF_ext rs 0 _ (.refl _) fun k r' hr' hob hp => by rw [Nat.zero_add] at hp ⊢; exact hI.fresh k r' hr' hob hp
  -- the next context
  have fin : ∀ (y : Cx) (c : Value) (s2 : S), Went x (base + j) s2 y → Rep y r.v c → s2 = addF (pL ops rs (ins L j)) base rs 0 (coreF (ins L j) rs 0 s0) → base + ops.size ≤ (coreF (ins L j) rs 0 s0).next →
      (∀ (k : Nat) (r' : Rec), rs[k]? = some r' → r'.ob ≠ none → pL ops rs (ins L j) k = true → (coreF (ins L j) rs 0 s0).get (base + k) = none) →
      (s0 :: startsOf rs)[((effsOf rs 0).filter (ins L j)).length]? = some (coreF (ins L j) rs 0 s0) → K (a.put o.dst c) y.w := fun y c s2 hw hv hs hn hfr hlast => by
    refine hK y _ ⟨hclosed, hw.rel, hI.gok.mono hw.le, hI.le.trans hw.le, ?_, hw.s.trans hs, fun i hi => ?_, hn, hfr, hlast⟩
    · have := (hI.frep.mono hw.le).put hv o.dst
      rw [htmE r.v rfl]
      cases hd : o.dst with
      | none => rw [hd] at this; exact this
      | some d => rw [hd] at this; exact this
    · rcases hw.grow i hi with h | h | h
      · rcases hI.K i h with h | ⟨k, hk, he⟩ | h
        · exact .inl h
        · exact .inr (.inl ⟨k, by simp [ins, hk], he⟩)
        · exact .inr (.inr h)
      · exact .inr (.inl ⟨j, by simp [ins], h⟩)
      · refine .inr (.inr (Nat.le_trans ?_ h))
        rw [hxnext]; exact hI.next
  -- where the core stays
  have coreStay : r.k ≠ 3 → coreF (ins L j) rs 0 s0 = coreF L rs 0 s0 ∧ (effsOf rs 0).filter (ins L j) = (effsOf rs 0).filter L ∧ (s0 :: startsOf rs)[((effsOf rs 0).filter (ins L j)).length]? = some (coreF (ins L j) rs 0 s0) := fun h3 => by
    have e1 : coreF (ins L j) rs 0 s0 = coreF L rs 0 s0 := coreF_congr rs 0 s0 fun k r' hk hkk => by
      rw [Nat.zero_add]
      have : k ≠ j := by rintro rfl; rw [hr] at hk; injection hk with hk; subst hk; exact h3 hkk
      have : (k == j) = false := by simpa using this
      simp [ins, this]
    have e2 : (effsOf rs 0).filter (ins L j) = (effsOf rs 0).filter L := List.filter_congr fun e he => by
      obtain ⟨t, r', h1, h2, h4⟩ := (effs_mem rs 0 e).1 he
      rw [Nat.zero_add] at h1
      subst h1
      have : e ≠ j := by rintro rfl; rw [hr] at h2; injection h2 with h2; subst h2; exact h3 h4
      have : (e == j) = false := by simpa using this
      simp [ins, this]
    exact ⟨e1, e2, by rw [e1, e2]; exact hI.last⟩
  have pStay : r.k ≠ 3 → ∀ k, k ≠ j → pL ops rs (ins L j) k = pL ops rs L k := fun h3 k hk => by
    have : (k == j) = false := by simpa using hk
    unfold pL
    rw [(coreStay h3).2.1]
    simp [ins, this]
  have stay : r.k ≠ 3 → r.ob = none → x.s = addF (pL ops rs (ins L j)) base rs 0 (coreF (ins L j) rs 0 s0) ∧
      (∀ (k : Nat) (r' : Rec), rs[k]? = some r' → r'.ob ≠ none → pL ops rs (ins L j) k = true → (coreF (ins L j) rs 0 s0).get (base + k) = none) := fun h3 hob => by
    have hne : ∀ {k : Nat} {r' : Rec}, rs[k]? = some r' → r'.ob ≠ none → k ≠ j := fun {k r'} hk ho => by
      rintro rfl; rw [hr] at hk; injection hk with hk; subst hk; exact ho hob
    rw [(coreStay h3).1]
    refine ⟨?_, fun k r' hk ho hp => ?_⟩
    · rw [hI.s]
      refine addF_congr rs 0 _ fun k r' hk ho => ?_
      rw [Nat.zero_add]
      exact (pStay h3 k (hne hk ho)).symm
    · rw [pStay h3 k (hne hk ho)] at hp
      exact hI.fresh k r' hk ho hp
  obtain ⟨_, _, hstep⟩ := step_inv hst
  have nodef : ∀ {nw : Nat} {tm : List V} {s s' : S} {v : V}, doOp cfg cf sl nw o tm s = some (.val v s') → lr = none ∨ ∀ c, o.op ≠ .defer c := fun {nw tm s s' v} hd => by
    right
    intro c hop
    rw [doOp_at] at hd
    unfold doOp0 at hd
    rw [hop] at hd
    simp only at hd
    split at hd
    · split at hd
      · cases hd
      · cases hd
    · cases hd
  unfold wpOpIn
  simp only [hj, wanted_ok hI.frep.tmps, hwant]
  rcases hstep with ⟨hw, o3, k3, hd, hn, hob⟩ | ⟨hw, o2, k2, hcs, ob, s', hob, hget, hd⟩ | ⟨hw, hk, hk2, hcs, hob, s', hd⟩ | ⟨hw, hk, hv, hcs, hob⟩
  · -- a change of the store
    rw [if_pos hw]
    have ag : ∀ (k : Nat) (r' : Rec), rs[k]? = some r' → r'.k = 3 → L k = decide (k < j) := fun k r' hrk hkk => by
      by_cases e : k = j
      · subst e; exact hself
      · obtain ⟨ok, hok, hkind⟩ := hsome hrk
        exact agree ((hord.eff j k o ok hj hok (Ne.symm e) o3 (hkind hkk)).symm)
    have hcore : r.c = coreF L rs 0 s0 := by
      rw [hcc]
      exact coreF_congr rs 0 s0 fun k r' hrk hkk => by rw [Nat.zero_add]; exact (ag k r' hrk hkk).symm
    have heffs : effsOf (rs.take j) 0 = (effsOf rs 0).filter L := by
      rw [effs_take]
      refine List.filter_congr fun e he => ?_
      obtain ⟨t, r', h1, h2, h4⟩ := (effs_mem rs 0 e).1 he
      rw [Nat.zero_add] at h1 ⊢
      subst h1
      exact (ag e r' h2 h4).symm
    have hin : addF (fun k => !absB (bef ops) (effsOf (rs.take j) 0) k && ordB (bef ops) k j) base (rs.take j) 0 r.c = addF (fun k => pL ops rs L k && ordB (bef ops) k j) base rs 0 (coreF L rs 0 s0) := by
      rw [addF_take, hcore, heffs]
      refine addF_congr rs 0 _ fun k r' hrk _ => ?_
      rw [Nat.zero_add, Nat.zero_add]
      cases h : ordB (bef ops) k j with
      | false => simp
      | true =>
        obtain ⟨h1, h2⟩ := before h
        simp [pL, h1, h2]
    rw [hin] at hd
    have hsplit : x.s = addF (fun k => pL ops rs L k && !ordB (bef ops) k j) base rs 0 (addF (fun k => pL ops rs L k && ordB (bef ops) k j) base rs 0 (coreF L rs 0 s0)) := by
      rw [hI.s]
      exact addF_split (c := fun k => ordB (bef ops) k j) rs 0 _
    have hnext1 : (addF (fun k => pL ops rs L k && ordB (bef ops) k j) base rs 0 (coreF L rs 0 s0)).next = (coreF L rs 0 s0).next := addF_next (n := base + ops.size) rs 0 _ (by omega) hI.next
    obtain ⟨x1, hr1, hs1, hsh, hback⟩ := frameF (n := base + ops.size) rs 0 _ x hI.rel hsplit (by omega) (by rw [hnext1]; exact hI.next) (fun k r' hrk hob' hp => by
      rw [Nat.zero_add] at hp ⊢
      simp only [Bool.and_eq_true, Bool.not_eq_true'] at hp
      rw [addF_get rs 0 _ fun k' hk' hp' => by
        rw [Nat.zero_add] at hp' ⊢
        simp only [Bool.and_eq_true] at hp'
        intro e
        have : k = k' := by omega
        subst this
        rw [hp.2] at hp'; cases hp'.2]
      exact hI.fresh k r' hrk hob' hp.1)
    have hcoreI : coreF (ins L j) rs 0 s0 = r.c' := coreF_eff k3 rs 0 j s0 (by omega) hr hLj fun k r' hrk hlt hkk => by
      rw [Nat.zero_add] at hlt ⊢
      rw [ag k r' hrk hkk]
      have : ¬ k < j := by omega
      simp [this]
    have hjeff : j ∈ effsOf rs 0 := (effs_mem rs 0 j).2 ⟨j, r, by omega, hr, k3⟩
    have hpI : ∀ k, k ≠ j → pL ops rs (ins L j) k = (pL ops rs L k && !ordB (bef ops) k j) := fun k hk => by
      have : (k == j) = false := by simpa using hk
      have hins : ins L j k = L k := by simp [ins, this]
      unfold pL
      rw [absB_ins hjeff, hins]
      generalize L k = p1, absB (bef ops) ((effsOf rs 0).filter L) k = p2, ordB (bef ops) k j = p3
      revert p1 p2 p3
      decide
    have hne : ∀ {k : Nat} {r' : Rec}, rs[k]? = some r' → r'.ob ≠ none → k ≠ j := fun {k r'} hk ho => by
      rintro rfl; rw [hr] at hk; injection hk with hk; subst hk; exact ho hob
    have hd' : doOp cfg cf sl (base + j) o (tmF L ops.toList rs 0 fr.tmps) x1.s = some (.val r.v r.c') := by
      rw [hop, hs1]; exact hd
    have hwp : o.wpIn (FW lr) n P a x1.w K Q := doOp_in hc hcf (hI.gok.shift hsh) hr1 (by rw [hsh.K]; exact hnx) (hI.frep.shift hsh).tmps (nodef hd') hd' fun y1 c hwent hv => by
      obtain ⟨y, h1, h2, h3⟩ := hback _ _ _ hwent hn
      have := fin y c _ h1 (hv.shift h2) (by
        rw [hcoreI]
        refine addF_congr rs 0 _ fun k r' hrk hob' => ?_
        rw [Nat.zero_add]
        exact (hpI k (hne hrk hob')).symm) (by rw [hcoreI]; exact hn) (fun k r' hrk hob' hp => by
        rw [hcoreI]
        have := h3 k r' hrk hob' (by rw [Nat.zero_add, ← hpI k (hne hrk hob')]; exact hp)
        rwa [Nat.zero_add] at this) (by
        rw [hcoreI, effs_ins rs 0 j (by omega) hr hLj, if_pos k3, List.getElem?_cons_succ]
        have e : ((effsOf rs 0).filter L).length = ((effsOf rs 0).filter fun e => decide (e < 0 + j)).length := by rw [← effs_take, heffs]
        rw [e]
        exact starts_at k3 rs 0 j hr)
      rw [h2.w] at this
      exact this
    rw [hsh.w] at hwp
    exact hwp
  · -- something new
    rw [if_pos hw]
    have h3 : r.k ≠ 3 := by omega
    obtain ⟨v, ob', e, hany⟩ := doOp_new o2 _ _ hd
    injection e with e1 e2
    subst e1
    have : ob' = ob := by
      rw [e2, S.get_add, if_pos rfl] at hget
      exact Option.some.inj hget
    subst this
    have hpnew : ∀ k, pL ops rs (ins L j) k = ins (pL ops rs L) j k := fun k => by
      by_cases e : k = j
      · subst e
        have : absB (bef ops) ((effsOf rs 0).filter L) k = false := by
          rw [absB_filter, List.any_eq_false]
          intro e' he' h
          simp only [Bool.and_eq_true] at h
          have := (later h.2).1
          rw [h.1] at this; cases this
        unfold pL
        rw [(coreStay h3).2.1, this]
        simp [ins]
      · rw [pStay h3 k e]
        have : (k == j) = false := by simpa using e
        simp [ins, this]
    refine doOp_in hc hcf hI.gok hI.rel hnx hI.frep.tmps (nodef ((hop _ _).trans (hany x.s))) ((hop _ _).trans (hany x.s)) fun y c hwent hv => fin y c _ hwent hv ?_ ?_ ?_ (coreStay h3).2.2
    · rw [(coreStay h3).1, addF_congr (q := ins (pL ops rs L) j) rs 0 _ fun k _ _ _ => by rw [Nat.zero_add]; exact hpnew k, addF_new hob rs 0 j _ (by omega) hr hpj, hI.s]
    · rw [(coreStay h3).1]; exact hI.next
    · intro k r' hrk hob' hp
      rw [(coreStay h3).1]
      by_cases e : k = j
      · subst e
        have hnone := get_none hI.rel hnx
        cases hg : (coreF L rs 0 s0).get (base + k) with
        | none => rfl
        | some q => rw [hcoreExt _ _ hg] at hnone; cases hnone
      · rw [pStay h3 k e] at hp
        exact hI.fresh k r' hrk hob' hp
  · rw [if_pos hw]
    have h3 : r.k ≠ 3 := by omega
    obtain ⟨hs1, hs2⟩ := stay h3 hob
    have post : doOp cfg cf sl (base + j) o r.tm x.s = some (.val r.v x.s) → o.wpIn (FW lr) n P a x.w K Q := fun h1 =>
      doOp_in hc hcf hI.gok hI.rel hnx hI.frep.tmps (nodef ((hop _ _).trans h1)) ((hop _ _).trans h1) fun y c hwent hv => fin y c x.s hwent hv hs1 (by rw [(coreStay h3).1]; exact hI.next) hs2 (coreStay h3).2.2
    by_cases k1 : r.k = 1
    · -- a read
      have o1 : opKind cfg o = 1 := by rw [← hk]; exact k1
      have hp := pends_at ops.toList rs 0 hpend j o r hjl hr k1
      rw [Nat.zero_add] at hp
      simp only [pendOk, List.all_eq_true, List.mem_range] at hp
      have hm := hp ((effsOf rs 0).filter L).length (by
        have := filter_le (p := L) (q := fun e => !ordB (bef ops) j e) (effsOf rs 0) fun e he hL => by
          cases h : ordB (bef ops) j e with
          | false => rfl
          | true => have := (later h).1; rw [hL] at this; cases this
        omega)
      have hlo := filter_le (p := fun e => ordB (bef ops) e j) (q := L) (effsOf rs 0) fun e he h => (before h).1
      have hnlt : ¬ ((effsOf rs 0).filter L).length < ((effsOf rs 0).filter fun e => ordB (bef ops) e j).length := by omega
      simp only [hnlt, decide_false, Bool.false_or, hI.last] at hm
      cases hdo : doOp cfg cf sl 0 o r.tm (coreF L rs 0 s0) with
      | none => rw [hdo] at hm; simp at hm
      | some rr =>
        rw [hdo] at hm
        cases rr with
        | val v s3 =>
          simp only [decide_eq_true_eq] at hm
          subst hm
          obtain ⟨v', e, hany⟩ := doOp_read o1 _ _ hdo
          injection e with e1 e2
          subst e1
          exact post (hany _ _ hcoreExt)
        | dfr d s3 => simp at hm
        | pan ch s3 => simp at hm
    · have o0 : opKind cfg o = 0 := by omega
      obtain ⟨v', e, hany⟩ := doOp_pure o0 _ _ hd
      injection e with e1 e2
      subst e1
      exact post (hany _ _)
  · rw [if_neg (by simp [hw])]
    have h3 : r.k ≠ 3 := by omega
    obtain ⟨h1, h2⟩ := stay h3 hob
    exact ⟨fun _ _ => trivial, fin x undef x.s (.same hI.rel _) (by rw [hv]; exact rep_undef x) h1 (by rw [(coreStay h3).1]; exact hI.next) h2 (coreStay h3).2.2⟩
end
end
end Go.Proofs.YtcmcedphaipgkaaGreatDoor.Ai

