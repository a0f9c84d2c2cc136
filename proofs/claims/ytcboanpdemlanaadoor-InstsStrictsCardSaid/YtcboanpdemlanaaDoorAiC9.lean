/- Part of a reckoning of a Go program over abstract values, proved sound against the model. -/
import Derived.Test.YtcboanpdemlanaaDoorAiC8
namespace Go.Proofs.YtcboanpdemlanaaDoor.Ai

section
variable {P : Program} {cfg : Cfg} {cf : CallF} {sl : Bool} {ops : Array Oper} {base : Nat} {Q : Exit → Act → World → Prop}
variable {x0 : Cx} {fr : Fr} {rs : List Rec} {s0 : S}

theorem addF_mono {p : Nat → Bool} {base : Nat} : ∀ (rs : List Rec) (i : Nat) (s : S), s.next ≤ (addF p base rs i s).next
  | [], i, s => Nat.le_refl _
  | r :: rs, i, s => by
    simp only [addF]
    refine Nat.le_trans ?_ (addF_mono rs (i + 1) _)
    cases r.ob with
    | none => exact Nat.le_refl _
    | some ob =>
      cases p i with
      | false => exact Nat.le_refl _
      | true => show s.next ≤ (s.add (base + i) ob).next; rw [S.next_add]; omega

def listedL (listed : Array Bool) : Nat → Bool := fun i => listed.getD i false

theorem listed_ins {listed : Array Bool} {j : Nat} (hj : j < listed.size) : listedL (listed.setIfInBounds j true) = ins (listedL listed) j := by
  funext i
  unfold listedL ins
  by_cases e : i = j
  · subst e; simp [hj]
  · have h1 : (i == j) = false := by simpa using e
    have h2 : j ≠ i := fun k => e k.symm
    simp [h1, Array.getElem?_setIfInBounds_ne h2]

theorem ready_iff {listed : Array Bool} (hs : listed.size = ops.size) {j : Nat} : j ∈ Region.ready .any ops listed ↔ listedL listed j = false ∧ ∃ o, ops[j]? = some o ∧ ∀ k ∈ binding o, listedL listed k = true := by
  rw [mem_ready]
  constructor
  · rintro ⟨h1, o, ho, h2⟩
    have hj : j < ops.size := (Array.getElem?_eq_some_iff.1 ho).1
    refine ⟨?_, o, ho, fun k hk => ?_⟩
    · have : j < listed.size := by omega
      simpa [listedL, this] using h1
    · simp only [binding, List.mem_map, List.mem_filter] at hk
      obtain ⟨e, ⟨he, hb⟩, rfl⟩ := hk
      exact h2 e (by simpa using he) hb
  · rintro ⟨h1, o, ho, h2⟩
    have hj : j < ops.size := (Array.getElem?_eq_some_iff.1 ho).1
    refine ⟨?_, o, ho, fun e he hb => ?_⟩
    · have : j < listed.size := by omega
      simpa [listedL, this] using h1
    · exact h2 e.on (by
        simp only [binding, List.mem_map, List.mem_filter]
        exact ⟨e, ⟨by simpa using he, hb⟩, rfl⟩)

theorem draw_all (hord : Ordered cfg ops) {listed : Array Bool} (hs : listed.size = ops.size) (hr : Region.ready .any ops listed = []) : ∀ i, i < ops.size → listedL listed i = true := by
  intro i
  induction i using Nat.strongRecOn with
  | _ i ih =>
    intro hi
    cases h : listedL listed i with
    | true => rfl
    | false =>
      exfalso
      have ho : ops[i]? = some ops[i] := Array.getElem?_eq_getElem hi
      have : i ∈ Region.ready .any ops listed := (ready_iff hs).2 ⟨h, _, ho, fun k hk => by
        have := hord.lt i _ ho k hk
        exact ih k this (by omega)⟩
      rw [hr] at this
      cases this

theorem draw_loop (hc : cfg.Ok P) (hcf : CallOk P cfg cf) (hord : Ordered cfg ops) {tmE : List V} {sE : S} (hrun : drawRun cfg cf sl ops (bef ops) base ops.toList 0 [] fr.tmps s0 = some (rs, tmE, sE))
    (hpend : pendsOk cfg cf sl (bef ops) (effsOf rs 0) (s0 :: startsOf rs) ops.toList rs 0 = true) (h0 : ∀ i, x0.K i → i < base)
    (hQ : ∀ y a', x0.le y → Rel y → y.s = addF (fun k => !absB (bef ops) (effsOf rs 0) k) base rs 0 sE → FRep y ⟨tmE, fr.dfs⟩ a' → (∀ i, y.K i → x0.K i ∨ base ≤ i) → Q .normal a' y.w) :
    ∀ (fuel : Nat) (listed : Array Bool) (x : Cx) (a : Act), listed.size = ops.size → ((List.range ops.size).filter fun i => !listedL listed i).length ≤ fuel → Inv cfg ops base x0 fr rs s0 (listedL listed) x a → wpAny P .any ops Q fuel listed a x.w := by
  have done : ∀ (listed : Array Bool) (x : Cx) (a : Act), listed.size = ops.size → Inv cfg ops base x0 fr rs s0 (listedL listed) x a → (∀ i, i < ops.size → listedL listed i = true) → Q .normal a x.w := by
    intro listed x a hs hI hall
    obtain ⟨new, hnew, hlen, h1, h2, _⟩ := draw_at (cfg := cfg) ops.toList 0 _ _ _ _ _ _ hrun
    rw [List.nil_append] at hnew
    subst hnew
    have hlen' : rs.length = ops.size := by simpa using hlen
    have hlt : ∀ {k : Nat} {r : Rec}, rs[k]? = some r → listedL listed k = true := fun {k r} hk => hall k (by have := (List.getElem?_eq_some_iff.1 hk).1; omega)
    have he : (effsOf rs 0).filter (listedL listed) = effsOf rs 0 := List.filter_eq_self.2 fun e he => by
      obtain ⟨t, r, e1, e2, _⟩ := (effs_mem rs 0 e).1 he
      rw [Nat.zero_add] at e1
      subst e1
      exact hlt e2
    refine hQ x a hI.le hI.rel ?_ ?_ fun i hi => ?_
    · rw [hI.s, h2, coreF_congr (L' := fun _ => true) rs 0 s0 fun k r hk _ => by rw [Nat.zero_add]; exact hlt hk]
      refine addF_congr rs 0 _ fun k r hk _ => ?_
      rw [Nat.zero_add]
      unfold pL
      rw [he, hlt hk, Bool.true_and]
    · have := hI.frep
      rw [h1]
      rw [tmF_congr (L' := fun _ => true) ops.toList rs 0 fr.tmps fun k hk => by rw [Nat.zero_add]; exact hall k (by omega)] at this
      exact this
    · rcases hI.K i hi with h | ⟨k, _, h⟩ | h
      · exact .inl h
      · exact .inr (by omega)
      · exact .inr (by omega)
  intro fuel
  induction fuel with
  | zero =>
    intro listed x a hs hf hI
    have hall : ∀ i, i < ops.size → listedL listed i = true := fun i hi => by
      have h1 : ((List.range ops.size).filter fun i => !listedL listed i) = [] := List.eq_nil_of_length_eq_zero (by omega)
      have := List.filter_eq_nil_iff.1 h1 i (by simpa using hi)
      simpa using this
    refine ⟨?_, done listed x a hs hI hall⟩
    apply List.eq_nil_iff_forall_not_mem.2
    intro j hj
    obtain ⟨h1, o, ho, _⟩ := (ready_iff hs).1 hj
    rw [hall j (Array.getElem?_eq_some_iff.1 ho).1] at h1
    cases h1
  | succ fuel ih =>
    intro listed x a hs hf hI
    refine ⟨fun hr => done listed x a hs hI (draw_all hord hs hr), fun j hj => ?_⟩
    obtain ⟨h1, o, ho, h2⟩ := (ready_iff hs).1 hj
    have hjn : j < ops.size := (Array.getElem?_eq_some_iff.1 ho).1
    refine draw_step hc hcf hord hrun hpend h0 hI ho h1 h2 fun y a' hI' => ?_
    have he := listed_ins (listed := listed) (j := j) (by omega)
    refine ih (listed.setIfInBounds j true) y a' (by simp [hs]) ?_ (by rw [he]; exact hI')
    rw [he]
    have := filter_lt (p := fun i => !ins (listedL listed) j i) (q := fun i => !listedL listed i) (j := j) (by simp [h1]) (by simp [ins]) (List.range ops.size) (fun e _ h => by
      simp only [ins, Bool.not_or, Bool.and_eq_true] at h; exact h.2) (by simpa using hjn)
    omega

theorem region_draw_ok (hc : cfg.Ok P) (hcf : CallOk P cfg cf) (hdr : drawOk cfg ops = true) {id : Nat} {x : Cx} {a : Act} (hg : GOk cfg x) (hx : Rel x) (hf : FRep x fr a) {fr' : Fr} {s' : S}
    (h : runDraw cfg cf sl ops fr x.s = some (fr', s')) (hp : Then x Q .normal fr' s') : (Code.region id ops true).wp P Q a x.w := by
  unfold runDraw at h
  split at h
  case h_2 => cases h
  rename_i rs tm s1 hrun
  split at h
  case isFalse => cases h
  rename_i hcond
  simp only [Bool.and_eq_true] at hcond
  obtain ⟨hn, hpend⟩ := hcond
  injection h with h; injection h with h1 h2; subst h1 h2
  refine wp_region_any hc.mixed ?_
  let x1 : Cx := { x with w := { x.w with drawn := x.w.drawn + 1 } }
  let x2 : Cx := { x1 with s := ⟨x.s.next + ops.size, x.s.tr⟩ }
  have hle1 : x.le x1 := le_drew rfl rfl rfl rfl
  have hr1 : Rel x1 := hx.drew rfl rfl rfl rfl
  have hless : ∀ i o, x2.s.get i = some o → x1.s.get i = some o := fun i o h => h
  have hle2 : x.le x2 := ⟨hle1.B, hle1.K, hle1.size, hle1.keep, hle1.csz, hle1.own, hle1.os, hle1.tape, hle1.output⟩
  have hr2 : Rel x2 := {
    lt := fun i hi => by have := hr1.lt i hi; show i < x.s.next + ops.size; have : i < x.s.next := this; omega
    live := fun i o hi => by
      obtain ⟨h1, h2⟩ := hr1.live i o hi
      refine ⟨h1, ORep.mono (x := x1) (y := x2) ?_ rfl h2⟩
      exact ⟨rfl, fun i h => ⟨h, rfl⟩, Nat.le_refl _, fun _ _ _ => rfl, fun _ _ h => h, fun _ _ h => h, rfl, rfl, rfl⟩
    inj := hr1.inj
    room := hr1.room
    apart := hr1.apart }
  have hlf : listedL (Array.replicate ops.size false) = fun _ => false := by
    funext i
    unfold listedL
    by_cases hi : i < ops.size <;> simp [hi]
  obtain ⟨new, hnew, hlen, _, hcore, _⟩ := draw_at (cfg := cfg) ops.toList 0 _ _ _ _ _ _ hrun
  rw [List.nil_append] at hnew
  subst hnew
  have hlen' : rs.length = ops.size := by simpa using hlen
  refine draw_loop (x0 := x2) hc hcf (ordered_of hdr) hrun hpend hx.lt (fun y a' hle hrel hs hfr hK => ?_) ops.size (Array.replicate ops.size false) x2 a (by simp) ?_ ?_
  · exact hp y .normal a' ⟨hle2.trans hle, hrel, hs, hK, Nat.le_trans (Nat.le_of_ble_eq_true hn) (addF_mono rs 0 _)⟩ trivial hfr
  · have := List.length_filter_le (fun i => !listedL (Array.replicate ops.size false) i) (List.range ops.size)
    simpa using this
  · rw [hlf]
    have ht : tmF (fun _ => false) ops.toList rs 0 fr.tmps = fr.tmps := by
      have := tmF_lt 0 ops.toList rs 0 fr.tmps (Nat.le_refl _)
      simpa using this
    have hp0 : ∀ k, pL ops rs (fun _ => false) k = false := fun k => by simp [pL]
    have hc0 : coreF (fun _ => false) rs 0 x2.s = x2.s := coreF_none rs 0 _ fun _ _ _ _ => rfl
    refine ⟨fun _ _ _ h => absurd h (by simp), hr2, hg.mono hle2, .refl x2, ?_, ?_, fun i hi => .inl hi, ?_, fun k r _ _ h => ?_, ?_⟩
    · rw [ht]; exact hf.mono hle2
    · show x2.s = addF _ _ rs 0 (coreF _ rs 0 x2.s)
      rw [hc0]
      exact (addF_none rs 0 _ fun k _ _ _ => hp0 _).symm
    · show _ ≤ (coreF _ rs 0 x2.s).next
      rw [hc0]
      exact Nat.le_refl _
    · rw [hp0] at h; cases h
    · show (x2.s :: startsOf rs)[_]? = some (coreF _ rs 0 x2.s)
      rw [hc0]
      have : (effsOf rs 0).filter (fun _ => false) = [] := by simp
      rw [this]; rfl
end

/-! code -/
section
variable {P : Program} {cfg : Cfg} {cf : CallF} {sl : Bool} {Q : Exit → Act → World → Prop}

theorem iter_ok {fuel : Nat} {c : Code} (ihc : ∀ (x : Cx) (a : Act) (fr : Fr) (e : AX) (fr' : Fr) (s' : S) (Q : Exit → Act → World → Prop), GOk cfg x → Rel x → FRep x fr a → exec cfg cf fuel sl c fr x.s = some (e, fr', s') → Then x Q e fr' s' → c.wp P Q a x.w) :
    ∀ (n : Nat) (x : Cx) (a : Act) (fr : Fr) (e : AX) (fr' : Fr) (s' : S), GOk cfg x → Rel x → FRep x fr a → iter (exec cfg cf fuel sl c) n fr x.s = some (e, fr', s') → Then x Q e fr' s' → Code.rounds P c Q n a x.w := by
  intro n
  induction n with
  | zero => intro x a fr e fr' s' _ _ _ h; simp [iter] at h
  | succ n ih =>
    intro x a fr e fr' s' hg hx hf h hp
    rw [rounds_succ]
    simp only [iter] at h
    split at h
    · rename_i fr1 s1 hb
      refine ihc x a fr _ _ _ _ hg hx hf hb fun y E a' hgr ho hf' => ?_
      cases E <;> try exact ho.elim
      have hs := hgr.s
      subst hs
      exact ih y a' fr1 e fr' s' (hg.mono hgr.le) hgr.rel hf' h (hp.after hgr)
    · rename_i hne
      refine ihc x a fr e fr' s' _ hg hx hf h fun y E a' hgr ho hf' => ?_
      cases E with
      | normal =>
        cases e <;> try exact ho.elim
        exact absurd h (hne _ _)
      | _ => exact hp y _ a' hgr ho hf'

theorem exec_ok (hc : cfg.Ok P) (hcf : CallOk P cfg cf) {fuel : Nat} : ∀ (c : Code), drawsOk cfg c = true → ∀ (x : Cx) (a : Act) (fr : Fr) (e : AX) (fr' : Fr) (s' : S) (Q : Exit → Act → World → Prop), GOk cfg x → Rel x → FRep x fr a →
    exec cfg cf fuel sl c fr x.s = some (e, fr', s') → Then x Q e fr' s' → c.wp P Q a x.w := by
  intro c
  induction c with
  | skip =>
    intro hd x a fr e fr' s' Q hg hx hf h hp
    simp only [exec, Option.some.injEq, Prod.mk.injEq] at h
    obtain ⟨rfl, rfl, rfl⟩ := h
    exact Go.wp_skip (hp x .normal a (.refl hx) trivial hf)
  | label l =>
    intro hd x a fr e fr' s' Q hg hx hf h hp
    simp only [exec, Option.some.injEq, Prod.mk.injEq] at h
    obtain ⟨rfl, rfl, rfl⟩ := h
    exact wp_label (hp x .normal a (.refl hx) trivial hf)
  | region id ops draw =>
    intro hd x a fr e fr' s' Q hg hx hf h hp
    cases draw with
    | true =>
      simp only [exec] at h
      split at h
      · rename_i fr1 s1 hr
        simp only [Option.some.injEq, Prod.mk.injEq] at h
        obtain ⟨rfl, rfl, rfl⟩ := h
        exact region_draw_ok hc hcf hd hg hx hf hr hp
      · cases h
    | false =>
      simp only [exec] at h
      refine wp_region ?_
      have := runOps_ok hc hcf (Q := Q) ops.toList 0 (by simp) x a fr e fr' s' hg hx hf h hp
      rw [List.range_eq_range']
      simpa using this
  | seq c d ihc ihd =>
    intro hd x a fr e fr' s' Q hg hx hf h hp
    simp only [drawsOk, Bool.and_eq_true] at hd
    simp only [exec] at h
    refine wp_seq ?_
    split at h
    · rename_i fr1 s1 hb
      refine ihc hd.1 x a fr _ _ _ _ hg hx hf hb fun y E a' hgr ho hf' => ?_
      cases E <;> try exact ho.elim
      have hs := hgr.s
      subst hs
      exact ihd hd.2 y a' fr1 e fr' s' Q (hg.mono hgr.le) hgr.rel hf' h (hp.after hgr)
    · rename_i hne
      refine ihc hd.1 x a fr e fr' s' _ hg hx hf h fun y E a' hgr ho hf' => ?_
      cases E with
      | normal =>
        cases e <;> try exact ho.elim
        exact absurd h (hne _ _)
      | _ => exact hp y _ a' hgr ho hf'
  | cond p c d ihc ihd =>
    intro hd x a fr e fr' s' Q hg hx hf h hp
    simp only [drawsOk, Bool.and_eq_true] at hd
    simp only [exec] at h
    split at h
    · rename_i hv
      have hr := ev_rep (P := P) hg hf.tmps hv
      generalize hcv : a.eval p = cv at hr
      cases hr
      exact wp_cond_true hcv (ihc hd.1 x a fr e fr' s' Q hg hx hf h hp)
    · rename_i hv
      have hr := ev_rep (P := P) hg hf.tmps hv
      generalize hcv : a.eval p = cv at hr
      cases hr
      exact wp_cond_false hcv (ihd hd.2 x a fr e fr' s' Q hg hx hf h hp)
    · cases h
  | block id c ih =>
    intro hd x a fr e fr' s' Q hg hx hf h hp
    simp only [drawsOk] at hd
    simp only [exec] at h
    refine wp_block ?_
    split at h
    · rename_i j fr1 s1 hb
      refine ih hd x a fr _ _ _ _ hg hx hf hb fun y E a' hgr ho hf' => ?_
      cases E <;> try exact ho.elim
      simp only [Out] at ho
      subst ho
      simp only [Exit.inBlock]
      split at h
      · rename_i hj
        rw [if_pos hj]
        simp only [Option.some.injEq, Prod.mk.injEq] at h
        obtain ⟨rfl, rfl, rfl⟩ := h
        exact hp y .normal a' hgr trivial hf'
      · rename_i hj
        rw [if_neg hj]
        simp only [Option.some.injEq, Prod.mk.injEq] at h
        obtain ⟨rfl, rfl, rfl⟩ := h
        exact hp y (.exit _) a' hgr rfl hf'
    · rename_i hne
      refine ih hd x a fr e fr' s' _ hg hx hf h fun y E a' hgr ho hf' => ?_
      cases E with
      | exit id' =>
        cases e <;> try exact ho.elim
        exact absurd h (hne _ _ _)
      | _ => exact hp y _ a' hgr ho hf'
  | loop c ih =>
    intro hd x a fr e fr' s' Q hg hx hf h hp
    simp only [drawsOk] at hd
    simp only [exec] at h
    exact wp_loop_rounds fuel (iter_ok (ih hd) fuel x a fr e fr' s' hg hx hf h hp)
  | exit id =>
    intro hd x a fr e fr' s' Q hg hx hf h hp
    simp only [exec, Option.some.injEq, Prod.mk.injEq] at h
    obtain ⟨rfl, rfl, rfl⟩ := h
    exact wp_exit (hp x (.exit _) a (.refl hx) rfl hf)
  | ret =>
    intro hd x a fr e fr' s' Q hg hx hf h hp
    simp only [exec, Option.some.injEq, Prod.mk.injEq] at h
    obtain ⟨rfl, rfl, rfl⟩ := h
    exact wp_ret (hp x .ret a (.refl hx) trivial hf)
  | scope c ih =>
    intro hd x a fr e fr' s' Q hg hx hf h hp
    simp only [drawsOk] at hd
    simp only [exec] at h
    refine wp_scope_straight (ih hd x a fr e fr' s' _ hg hx hf h fun y E a' hgr ho hf' => ?_)
    cases E with
    | goto l => cases e <;> exact ho.elim
    | _ => exact hp y _ a' hgr ho hf'
  | _ =>
    intro hd x a fr e fr' s' Q hg hx hf h hp
    simp [exec] at h
end
end Go.Proofs.YtcboanpdemlanaaDoor.Ai
