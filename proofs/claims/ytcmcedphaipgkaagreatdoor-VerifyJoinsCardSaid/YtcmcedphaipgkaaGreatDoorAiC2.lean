/- Part of a reckoning of a Go program over abstract values, proved sound against the model. -/
import Derived.Test.YtcmcedphaipgkaaGreatDoorAiC1
set_option linter.unusedSimpArgs false
set_option linter.unusedVariables false
namespace Go.Proofs.YtcmcedphaipgkaaGreatDoor.Ai
open Go.RowKit (Below)

section
variable {P : Program} {cfg : Cfg} {x : Cx} {o : Oper} {a : Act} {next : Act → World → Prop} {Q : Exit → Act → World → Prop} {nw : Nat} {r : R} {v : V}

theorem post_read (hx : Rel x) {c : Value} (hp : Post x nw a o.dst next Q (.val v x.s)) (h1 : (execOp a.eval o).run P x.w = .ok (.value c) x.w) (h2 : Rep x v c) : o.wp P a x.w next Q :=
  wp_val h1 (hp x c (.same hx nw) h2)

theorem post_new {y : Cx} {c : Value} {s' : S} (hp : Post x nw a o.dst next Q (.val v s')) (h1 : (execOp a.eval o).run P x.w = .ok (.value c) y.w) (h2 : x.le y) (h3 : Rel y) (h4 : y.s = s') (h5 : Rep y v c) (h6 : ∀ i, y.K i → i = nw ∨ x.K i) : o.wp P a x.w next Q :=
  wp_val h1 (hp y c ⟨h2, h3, h4, fun i hi => (h6 i hi).elim (fun h => .inr (.inl h)) .inl⟩ h5)

theorem post_skip {y : Cx} {s' : S} (hp : Post x nw a o.dst next Q (.val undefV s')) (h1 : (execOp a.eval o).run P x.w = .ok .skip y.w) (h2 : x.le y) (h3 : Rel y) (h4 : y.s = s') (h6 : y.K = x.K) : o.wp P a x.w next Q :=
  wp_skip h1 (hp y undef ⟨h2, h3, h4, fun i hi => .inl (h6 ▸ hi)⟩ (.tup (C := #[]) .nil))

theorem post_cells (hx : Rel x) (hn : ¬ x.K nw) {cs : List V} {C : Array Value} {t : TypeId} {ag : Bool} (hl : RepL x cs C.toList)
    (hp : Post x nw a o.dst next Q (.val (.ptr nw 0) (x.s.add nw (.cells cs 0 t true)))) (h1 : (execOp a.eval o).run P x.w = .ok (.value (.pointer (some ⟨x.w.heap.size, 0, none⟩))) (x.w.alloc (.cells C t))) : o.wp P a x.w next Q := by
  obtain ⟨hle, hrel, hk, hrho⟩ := alloc_cells (x := x) (nw := nw) (frz := 0) (C := C) (ty := t) (ex := true) hx hn hl (fun j u hj => by rw [← Array.getElem?_toList]; exact hj) (fun _ => by rw [hl.length, Array.length_toList])
  refine post_new hp h1 hle hrel rfl ?_ fun i hi => hi
  have := Rep.ptr (x := x.alloc nw (.cells cs 0 t true) (.cells C t)) nw 0 hk
  rw [hrho] at this
  exact this

theorem evO_rep {P : Program} (hg : GOk cfg x) {tmps : List V} (ht : RepL x tmps a.tmps.toList) {o : Option Operand} {v : Option V} (h : evO cfg tmps o = some v) : RepO x v (o.map a.eval) := by
  cases o with
  | none => simp [evO] at h; subst h; exact .none
  | some p =>
    simp only [evO, Option.map_eq_some_iff] at h
    obtain ⟨v, hv, rfl⟩ := h
    exact .some (ev_rep (P := P) hg ht hv)

theorem run_storeMap (hx : Rel x) (hn : ¬ x.K nw) {next : Act → World → Prop}
    (hp : Post x nw a o.dst next Q (.val (.map nw) (x.s.add nw (.map [] 0)))) (h1 : (execOp a.eval o).run P x.w = .ok (.value (.map (some x.w.heap.size))) (x.w.alloc (.map #[] 0))) : o.wp P a x.w next Q := by
  have hle := alloc_le (o := .map [] 0) (c := .map #[] 0) hx hn
  refine post_new (y := x.alloc nw (.map [] 0) (.map #[] 0)) hp h1 hle (alloc_rel hx hn ?_) rfl ?_ fun i hi => hi
  · exact ⟨#[], heap_alloc_self _ _, rfl, fun j e h => by simp at h⟩
  · have := Rep.map (x := x.alloc nw (.map [] 0) (.map #[] 0)) nw (.inl rfl)
    simpa [Cx.alloc, upd] using this

theorem doOp_ok (hc : cfg.Ok P) {cf : CF} (hcf : CFOk P cfg cf) (hg : GOk cfg x) (hx : Rel x) (hn : ¬ x.K nw) {sl : Bool} {tmps : List V} (ht : RepL x tmps a.tmps.toList)
    (hy : ∀ c fo id, o.op = .call c → c.callee = .value fo → ev cfg tmps fo ≠ some (.yield id)) (h : doOp cfg cf sl nw o tmps x.s = some r) (hp : Post x nw a o.dst next Q r) : o.wp P a x.w next Q := by
  have er := fun {p : Operand} {v : V} (h : ev cfg tmps p = some v) => ev_rep (P := P) hg ht h
  rw [doOp_at] at h
  unfold doOp0 at h
  split at h
  · rename_i p e
    simp only [Option.map_eq_some_iff] at h
    obtain ⟨v, hv, rfl⟩ := h
    exact post_read hx hp (by simp [execOp, e]) (er hv)
  · rename_i p e
    simp only [Option.map_eq_some_iff] at h
    obtain ⟨v, hv, rfl⟩ := h
    exact post_read hx hp (by simp [execOp, e]) (er hv)
  · rename_i c p q e
    split at h
    case h_2 => cases h
    rename_i t htv
    simp only [Option.map_eq_some_iff] at h
    obtain ⟨v, hv, rfl⟩ := h
    have hb := er htv
    generalize hcv : a.eval c = cv at hb
    cases hb
    cases t
    · exact post_read hx hp (by simp [execOp, e, hcv, asBool]) (er hv)
    · exact post_read hx hp (by simp [execOp, e, hcv, asBool]) (er hv)
  · rename_i t e
    simp only [Option.bind_eq_bind, Option.bind_eq_some_iff] at h
    obtain ⟨b, hb, h⟩ := h
    injection h with h; subst h
    obtain ⟨z, h1, h2, h3⟩ := (hc.ty _ _ hb).run_zero (P := P) x.w
    exact post_cells (ag := true) hx hn (h2 x).cells hp (by simp [execOp, e, Instr.alloc, h1, newVar, newRow, newObj, Sem.run])
  · rename_i t p e
    simp only [Option.bind_eq_bind, Option.bind_eq_some_iff] at h
    obtain ⟨v, hv, h⟩ := h
    split at h
    case isFalse => cases h
    injection h with h; subst h
    exact post_cells (ag := true) hx hn (er hv).cells hp (by simp [execOp, e, Instr.box, newVar, newRow, newObj, Sem.run])
  · rename_i t ps e
    simp only [Option.bind_eq_bind, Option.bind_eq_some_iff, Option.map_eq_some_iff] at h
    obtain ⟨qs, hq, v, hv, rfl⟩ := h
    have hps := evParts_rep (P := P) hg ht hq
    obtain ⟨c, h1, h2⟩ := aBuild_ok (P := P) hc (qs := ps.map fun p => (p.1, a.eval p.2)) (by simpa using hps) hv x.w
    exact post_read hx hp (by simp [execOp, e, h1]) h2
  · rename_i t n ps e
    simp only [Option.bind_eq_bind, Option.bind_eq_some_iff, Option.map_eq_some_iff] at h
    obtain ⟨qs, hq, ⟨v, s'⟩, hv, rfl⟩ := h
    have hps := evParts_rep (P := P) hg ht hq
    obtain ⟨y, c, h1, h2, h3, h4, h5, h6⟩ := aBuildSlice_ok (P := P) hc hx hn (qs := ps.map fun p => (p.1, a.eval p.2)) (by simpa using hps) hv
    exact post_new hp (by simp [execOp, e, h1]) h2 h3 h4 h5 h6
  · rename_i t p e
    simp only [Option.bind_eq_bind, Option.bind_eq_some_iff, Option.map_eq_some_iff] at h
    obtain ⟨b, hb, pv, hpv, v, hv, rfl⟩ := h
    obtain ⟨c, h1, h2⟩ := aLoad_ok (P := P) hx (hc.ty _ _ hb) (er hpv) hv
    exact post_read hx hp (by simp [execOp, e, h1]) h2
  · rename_i t p q e
    simp only [Option.bind_eq_bind, Option.bind_eq_some_iff, Option.map_eq_some_iff] at h
    obtain ⟨b, hb, pv, hpv, qv, hqv, s', hs, rfl⟩ := h
    obtain ⟨y, h1, h2, h3, h4, h5⟩ := aStore_ok (P := P) hx (hc.ty _ _ hb) (er hpv) (er hqv) hs
    exact post_skip hp (by simp [execOp, e, h1]) h2 h3 h4 h5
  · rename_i p e
    split at h
    · rename_i i off hv
      injection h with h; subst h
      have hr := er hv
      generalize hcv : a.eval p = cv at hr
      cases hr with
      | ptr _ _ hk => exact post_read hx hp (by simp [execOp, e, hcv]) (.ptr _ _ hk)
    · rename_i i off hv
      injection h with h; subst h
      have hr := er hv
      generalize hcv : a.eval p = cv at hr
      cases hr with
      | cptr b o off hh hl => exact post_read hx hp (by simp [execOp, e, hcv]) (.cptr b o off hh hl)
    · rename_i g aa bb hv
      injection h with h; subst h
      have hr := er hv
      generalize hcv : a.eval p = cv at hr
      cases hr with
      | func _ hA hB => exact post_read hx hp (by simp [execOp, e, hcv]) (.func _ hA hB)
    · rename_i id hv
      injection h with h; subst h
      have hr := er hv
      generalize hcv : a.eval p = cv at hr
      cases hr with
      | yield _ hk => exact post_read hx hp (by simp [execOp, e, hcv]) (.yield _ hk)
    · cases h
  · rename_i op t p q pos e
    simp only [Option.bind_eq_bind, Option.bind_eq_some_iff, Option.map_eq_some_iff] at h
    obtain ⟨pv, hpv, qv, hqv, v, hv, rfl⟩ := h
    obtain ⟨c, h1, h2⟩ := aBin_ok (P := P) hc (er hpv) (er hqv) hv p q x.w
    have h1' : ((do eqGuard op t p q (a.eval p) (a.eval q); binOp op t (a.eval p) (a.eval q)) : Sem Value).run P x.w = .ok c x.w := h1
    exact post_read hx hp (by simp only [execOp, e]; rw [Sem.run_bind, h1']; rfl) h2
  · rename_i op t p e
    simp only [Option.bind_eq_bind, Option.bind_eq_some_iff, Option.map_eq_some_iff] at h
    obtain ⟨pv, hpv, v, hv, rfl⟩ := h
    obtain ⟨c, h1, h2⟩ := aUn_ok (P := P) (er hpv) hv x.w
    exact post_read hx hp (by simp [execOp, e, h1]) h2
  · rename_i t u p e
    simp only [Option.bind_eq_bind, Option.bind_eq_some_iff, Option.map_eq_some_iff] at h
    obtain ⟨pv, hpv, ⟨v, s'⟩, hv, rfl⟩ := h
    obtain ⟨y, c, h1, h2, h3, h4, h5, h6⟩ := aConvert_ok (P := P) hc hx hn (er hpv) hv
    exact post_new hp (by simp [execOp, e, h1]) h2 h3 h4 h5 h6
  · rename_i t p e
    simp only [Option.bind_eq_bind, Option.bind_eq_some_iff] at h
    obtain ⟨b, hb, pv, hpv, h⟩ := h
    have hu := (hc.ty _ _ hb).und
    split at h
    · cases h
    · rename_i hni
      injection h with h; subst h
      refine post_read hx hp (c := .iface t (a.eval p)) ?_ (.iface t (er hpv))
      simp only [execOp, e, Instr.makeInterface, Sem.run_bind, run_underlying hu, Result.andThen_ok]
      cases hd : b.und <;> first | rfl | exact absurd hd (hni _)
  · rename_i fn p q e
    simp only [Option.bind_eq_bind, Option.bind_eq_some_iff] at h
    obtain ⟨pv, hpv, qv, hqv, h⟩ := h
    injection h with h; subst h
    exact post_read hx hp (c := .func fn (p.map a.eval) (q.map a.eval)) (by simp [execOp, e, Instr.makeFunc]) (.func fn (by simpa using evL_rep (P := P) hg ht hpv) (by simpa using evL_rep (P := P) hg ht hqv))
  · rename_i t e
    injection h with h; subst h
    exact run_storeMap hx hn hp (by simp [execOp, e, Instr.makeMap, newObj, Sem.run])
  · rename_i t p e
    simp only [Option.bind_eq_bind, Option.bind_eq_some_iff] at h
    obtain ⟨b, hb, h⟩ := h
    have hu := (hc.ty _ _ hb).und
    split at h
    · rename_i kt et k n hm hv
      injection h with h; subst h
      have hr := er hv
      generalize hcv : a.eval p = cv at hr
      cases hr
      rw [hm] at hu
      exact run_storeMap hx hn hp (by simp [execOp, e, Instr.makeMap, hcv, run_underlying hu, Go.asInt, asIntOf, newObj, Sem.run])
    · cases h
  · rename_i t p q e
    simp only [Option.bind_eq_bind, Option.bind_eq_some_iff, Option.map_eq_some_iff] at h
    obtain ⟨pv, hpv, qv, hqv, ⟨v, s'⟩, hv, rfl⟩ := h
    obtain ⟨y, c, h1, h2, h3, h4, h5, h6⟩ := aMakeSlice_ok (P := P) hc hx hn (er hpv) (er hqv) hv
    exact post_new hp (by simp [execOp, e, h1]) h2 h3 h4 h5 h6
  · rename_i t p lo hi mx e
    simp only [Option.bind_eq_bind, Option.bind_eq_some_iff, Option.map_eq_some_iff] at h
    obtain ⟨b, hb, pv, hpv, lv, hlv, hiv, hhiv, mv, hmv, v, hv, rfl⟩ := h
    obtain ⟨c, h1, h2⟩ := aSlice_ok (P := P) hc hb (er hpv) (evO_rep (P := P) hg ht hlv) (evO_rep (P := P) hg ht hhiv) (evO_rep (P := P) hg ht hmv) hv x.w
    exact post_read hx hp (by simp [execOp, e, h1]) h2
  · rename_i t p f e
    simp only [Option.bind_eq_bind, Option.bind_eq_some_iff, Option.map_eq_some_iff] at h
    obtain ⟨pv, hpv, v, hv, rfl⟩ := h
    obtain ⟨c, h1, h2⟩ := aFieldAddr_ok (P := P) hc (er hpv) hv x.w
    exact post_read hx hp (by simp [execOp, e, h1]) h2
  · rename_i t p f e
    simp only [Option.bind_eq_bind, Option.bind_eq_some_iff, Option.map_eq_some_iff] at h
    obtain ⟨pv, hpv, v, hv, rfl⟩ := h
    obtain ⟨c, h1, h2⟩ := aField_ok (P := P) hc (er hpv) hv x.w
    exact post_read hx hp (by simp [execOp, e, h1]) h2
  · rename_i t p q e
    simp only [Option.bind_eq_bind, Option.bind_eq_some_iff, Option.map_eq_some_iff] at h
    obtain ⟨pv, hpv, qv, hqv, v, hv, rfl⟩ := h
    obtain ⟨c, h1, h2⟩ := aIndexAddr_ok (P := P) hc (er hpv) (er hqv) hv x.w
    exact post_read hx hp (by simp [execOp, e, h1]) h2
  · rename_i t p q e
    simp only [Option.bind_eq_bind, Option.bind_eq_some_iff, Option.map_eq_some_iff] at h
    obtain ⟨pv, hpv, qv, hqv, v, hv, rfl⟩ := h
    obtain ⟨c, h1, h2⟩ := aIndex_ok (P := P) hc (er hpv) (er hqv) hv x.w
    exact post_read hx hp (by simp [execOp, e, h1]) h2
  · rename_i t p q ok e
    simp only [Option.bind_eq_bind, Option.bind_eq_some_iff, Option.map_eq_some_iff] at h
    obtain ⟨pv, hpv, qv, hqv, v, hv, rfl⟩ := h
    obtain ⟨c, h1, h2⟩ := aLookup_ok (P := P) hc hx (er hpv) (er hqv) hv
    exact post_read hx hp (by simp [execOp, e, h1]) h2
  · rename_i t m k p e
    simp only [Option.bind_eq_bind, Option.bind_eq_some_iff, Option.map_eq_some_iff] at h
    obtain ⟨mv, hmv, kv, hkv, pv, hpv, s', hs, rfl⟩ := h
    obtain ⟨y, h1, h2, h3, h4, h5⟩ := aMapUpdate_ok (P := P) hc hx (er hmv) (er hkv) (er hpv) hs
    exact post_skip hp (by simp [execOp, e, h1]) h2 h3 h4 h5
  · rename_i t m k p e
    simp only [Option.bind_eq_bind, Option.bind_eq_some_iff, Option.map_eq_some_iff] at h
    obtain ⟨mv, hmv, kv, hkv, pv, hpv, s', hs, rfl⟩ := h
    obtain ⟨y, h1, h2, h3, h4, h5⟩ := aMapUpdate_ok (P := P) hc hx (er hmv) (er hkv) (er hpv) hs
    exact post_skip hp (by simp [execOp, e, h1]) h2 h3 h4 h5
  · rename_i p xt t ok e
    simp only [Option.bind_eq_bind, Option.bind_eq_some_iff] at h
    obtain ⟨b, hb, h⟩ := h
    have hty := hc.ty _ _ hb
    split at h
    · cases h
    · rename_i t' v hv hni
      have hr := er hv
      generalize hcv : a.eval p = cv at hr
      cases hr with
      | iface _ hr' =>
        rename_i c
        split at h
        · rename_i htt
          injection h with h; subst h
          have hrun : (Instr.typeAssert (.iface t' c) xt t ok).run P x.w = .ok (if ok then .tuple #[c, .bool true] else c) x.w := by
            simp only [Instr.typeAssert, Sem.run_bind, run_underlying hty.und, Result.andThen_ok]
            cases hd : b.und <;> first | exact absurd hd (hni _) | (simp [htt])
          refine post_read hx hp (c := if ok then .tuple #[c, .bool true] else c) ?_ ?_
          · simp only [execOp, e, hcv, Sem.run_bind, hrun, Result.andThen_ok, Sem.run_pure]
          · cases ok
            · exact hr'
            · exact .tup (.cons hr' (.cons (.bool true) .nil))
        · rename_i htt
          split at h
          · rename_i hok
            injection h with h; subst h
            obtain ⟨z, h1, h2, h3⟩ := hty.run_zero (P := P) x.w
            have hrun : (Instr.typeAssert (.iface t' c) xt t ok).run P x.w = .ok (.tuple #[z, .bool false]) x.w := by
              simp only [Instr.typeAssert, Sem.run_bind, run_underlying hty.und, Result.andThen_ok]
              cases hd : b.und <;> first | exact absurd hd (hni _) | (simp [htt, hok, h1])
            refine post_read hx hp (c := .tuple #[z, .bool false]) ?_ (.tup (.cons (h2 x) (.cons (.bool false) .nil)))
            simp only [execOp, e, hcv, Sem.run_bind, hrun, Result.andThen_ok, Sem.run_pure]
          · cases h
    · rename_i hv hni
      split at h
      case isFalse => cases h
      rename_i hok
      injection h with h; subst h
      have hr := er hv
      generalize hcv : a.eval p = cv at hr
      cases hr
      obtain ⟨z, h1, h2, h3⟩ := hty.run_zero (P := P) x.w
      have hrun : (Instr.typeAssert .nilIface xt t ok).run P x.w = .ok (.tuple #[z, .bool false]) x.w := by
        simp only [Instr.typeAssert, Sem.run_bind, run_underlying hty.und, Result.andThen_ok]
        cases hd : b.und <;> first | exact absurd hd (hni _) | simp [hok, h1]
      refine post_read hx hp (c := .tuple #[z, .bool false]) ?_ (.tup (.cons (h2 x) (.cons (.bool false) .nil)))
      simp only [execOp, e, hcv, Sem.run_bind, hrun, Result.andThen_ok, Sem.run_pure]
    · cases h
  · rename_i p i e
    split at h
    case h_2 => cases h
    rename_i vs hv
    simp only [Option.map_eq_some_iff] at h
    obtain ⟨v, hv', rfl⟩ := h
    have hr := er hv
    generalize hcv : a.eval p = cv at hr
    cases hr with
    | tup hl =>
      obtain ⟨c, h1, h2⟩ := hl.get i v hv'
      exact post_read hx hp (c := c) (by
        rw [Array.getElem?_toList] at h1
        simp [execOp, e, hcv, Instr.extract, h1]) h2
  · rename_i t p e
    simp only [Option.bind_eq_bind, Option.bind_eq_some_iff, Option.map_eq_some_iff] at h
    obtain ⟨v, hv, ⟨r1, s1⟩, hr1, rfl⟩ := h
    obtain ⟨y, c, h1, h2, h3, h4, h5, h6⟩ := aRange_ok (P := P) hc hx hn (er hv) hr1
    exact post_new hp (by simp [execOp, e, h1]) h2 h3 h4 h5 h6
  · rename_i p str e
    simp only [Option.bind_eq_bind, Option.bind_eq_some_iff, Option.map_eq_some_iff] at h
    obtain ⟨v, hv, ⟨r1, s1⟩, hr1, rfl⟩ := h
    obtain ⟨y, c, h1, h2, h3, h4, h5, h6⟩ := aNext_ok (P := P) (ty := o.type) hx (er hv) hr1
    exact post_new hp (by simp [execOp, e, h1]) h2 h3 h4 h6 (fun i hi => .inr (h5 ▸ hi))
  · rename_i p e
    simp only [Option.bind_eq_bind, Option.bind_eq_some_iff, Option.map_eq_some_iff] at h
    obtain ⟨v, hv, r1, hr1, rfl⟩ := h
    obtain ⟨c, h1, h2⟩ := aEntry_ok (P := P) hx (er hv) hr1
    exact post_read hx hp (by simp [execOp, e, h1]) h2
  · rename_i c e
    exact doCall_ok hc hcf hg hx hn ht e (fun fo id h1 => hy c fo id e h1) h hp
  · rename_i c e
    split at h
    case h_2 => cases h
    rename_i fo args hcal hargs
    split at h
    case h_2 => cases h
    rename_i g first cap hv
    injection h with h; subst h
    have hr := er hv
    generalize hcv : a.eval fo = cv at hr
    cases hr with
    | func _ hA hB =>
      rename_i A B
      unfold Oper.wp
      have : (execOp a.eval o).run P x.w = .ok (.defer { target := .fn g B, args := A ++ c.args.map a.eval }) x.w := by
        simp [execOp, e, resolve, hcal, hcv, Deferred.ofValue]
      rw [this, Oper.upon_defer]
      exact hp rfl _ ⟨B, _, rfl, rfl, hB, by simpa using hA.append (evL_rep (P := P) hg ht hargs)⟩
  · rename_i p e
    split at h
    case h_2 => cases h
    rename_i t v hv
    injection h with h; subst h
    have hr := er hv
    generalize hcv : a.eval p = cv at hr
    cases hr with
    | iface _ hr' =>
      rename_i c
      unfold Oper.wp
      have : (execOp a.eval o).run P x.w = .halt (.panic (.iface t c)) x.w := by
        simp [execOp, e, hcv, run_panic_iface]
      rw [this, Oper.upon_panic]
      refine hp x _ (.same hx nw) ⟨rfl, fun j p hj => ?_⟩
      cases j with
      | zero =>
        simp at hj; subst hj
        exact ⟨_, rfl, .iface t hr', rfl, rfl⟩
      | succ j => simp at hj
  · cases h
/-! in the fence of a round, or of none -/
def FW (lr : Option Nat) : Fence := { fn := fun _ => True, depth := none, alive := false, round := lr }

def RoOk (x : Cx) : Option Nat → Option Nat → Prop
  | none, none => True
  | some i, some l => x.K i ∧ (x.ρ i).1 = l
  | _, _ => False

theorem RoOk.mono {x y : Cx} (h : x.le y) {ro lr : Option Nat} (hr : RoOk x ro lr) : RoOk y ro lr := by
  cases ro with
  | none => cases lr <;> first | exact trivial | exact hr.elim
  | some i =>
    cases lr with
    | none => exact hr.elim
    | some l => exact ⟨(h.K i hr.1).1, by rw [(h.K i hr.1).2]; exact hr.2⟩

theorem calls_in {lr : Option Nat} {n : Nat} {f : FuncId} {args : Array Value} {w : World} {R : Ending → World → Prop} (h : Calls P f args w R) : CallsIn (FW lr) n P f args w R :=
  show CallsIn Fence.wide n P f args w R from callsIn_wide.2 h

theorem wpIn_of_wp {lr : Option Nat} {n : Nat} {w : World} (h : o.wp P a w next Q) (hd : lr = none ∨ ∀ c, o.op ≠ .defer c) : o.wpIn (FW lr) n P a w next Q := by
  refine ⟨fun _ _ => trivial, ?_⟩
  have hs : o.semAt (FW lr).round a.eval = execOp a.eval o := by
    rcases hd with rfl | hd
    · rfl
    · exact Oper.semAt_eq _ _ _ hd
  rw [hs]
  unfold Oper.wp at h
  generalize (execOp a.eval o).run P w = r at h
  cases r with
  | ok u w' =>
    have hno : (FW lr).depth.isSome = true → 1 ≤ n := fun h => by cases h
    cases u with
    | enter f args => exact ⟨hno, calls_in (Calls.mono h fun e w'' he => by cases e <;> exact he)⟩
    | row row args => exact ⟨hno, fun c cs _ => let ⟨v, w'', r, st⟩ := h c cs; ⟨v, w'', r, stepsIn_wide.2 st⟩⟩
    | value v => exact h
    | skip => exact h
    | defer d => exact h
    | _ => exact h.elim
  | halt u w' => cases u <;> simp only [Oper.upon, Oper.uponIn] at h ⊢ <;> first | exact h | exact h.elim

theorem doOp_in (hc : cfg.Ok P) {cf : CF} (hcf : CFOk P cfg cf) (hg : GOk cfg x) (hx : Rel x) (hn : ¬ x.K nw) {sl : Bool} {tmps : List V} (ht : RepL x tmps a.tmps.toList) {lr : Option Nat} {n : Nat} (hd : lr = none ∨ ∀ c, o.op ≠ .defer c)
    (h : doOp cfg cf sl nw o tmps x.s = some r) (hp : Post x nw a o.dst next Q r) : o.wpIn (FW lr) n P a x.w next Q := by
  by_cases hy : ∃ c fo id, o.op = .call c ∧ c.callee = .value fo ∧ ev cfg tmps fo = some (.yield id)
  · obtain ⟨c, fo, id, hop, hcal, hev⟩ := hy
    have hfr := ev_rep (P := P) hg ht hev
    rw [doOp_at] at h
    unfold doOp0 at h
    rw [hop] at h
    simp only [doCall] at h
    split at h
    · cases h
    rename_i args hargs
    have ha := evL_rep (P := P) hg ht hargs
    rw [hcal] at h
    simp only [hev] at h
    split at h
    case h_2 => cases h
    rename_i v s' hrd
    injection h with h; subst h
    generalize hfo : a.eval fo = F at hfr
    cases hfr with
    | yield _ hk =>
      obtain ⟨rr, h1, h2, h3⟩ := hcf.2 x id args _ (.ret v) s' hg hx hk ha hrd
      refine ⟨fun _ _ => trivial, ?_⟩
      have hs : o.semAt (FW lr).round a.eval = execOp a.eval o := Oper.semAt_eq _ _ _ (by rw [hop]; intro c h; cases h)
      have hargs' : (c.args.toList.map a.eval).toArray = c.args.map a.eval := by apply Array.toList_inj.1; simp
      rw [hargs'] at h2 h3
      have hrun : (execOp a.eval o).run P x.w = .ok (.round (x.ρ id).1 rr.fn ((rr.params.zip (c.args.map a.eval)).foldl (fun tmps (t, a) => tmps.setIfInBounds t a) rr.tmps) rr.assign rr.body) x.w := by
        have hexec : execOp a.eval o = (do let d ← resolve a.eval c o.type; invoke d.target d.args) := by simp only [execOp, hop]
        rw [hexec]
        simp [resolve, hcal, hfo, Deferred.ofValue, invoke, Instr.yield, Instr.getLoop, getObj, Sem.run, h1] at h2 ⊢
        simp [h2, Sem.run]
      rw [hs, hrun, Oper.uponIn_round]
      refine ⟨fun h => (by cases h), RoundIn.mono (h3 (n - 1)) ?_⟩
      rintro E w' ⟨y, rfl, hw, he⟩
      have hw' : Went x nw s' y := ⟨hw.le, hw.rel, hw.s, fun i hi => (hw.grow i hi).elim .inl fun h => .inr (.inr (h.elim (fun h => Nat.le_of_eq h.symm) _root_.id))⟩
      cases E with
      | returned c => exact hp y c hw' he
      | panicked ch => exact he.elim
      | outgrown => exact he.elim
  · exact wpIn_of_wp (doOp_ok hc hcf hg hx hn ht (fun c fo id h1 h2 h3 => hy ⟨c, fo, id, h1, h2, h3⟩) h hp) hd
end
end Go.Proofs.YtcmcedphaipgkaaGreatDoor.Ai

