/- Part of a reckoning of a Go program over abstract values, proved sound against the model. -/
import Derived.Test.YtcmcedphaipgkaaGreatDoorAiB13
set_option linter.unusedSimpArgs false
set_option linter.unusedVariables false
namespace Go.Proofs.YtcmcedphaipgkaaGreatDoor.Ai
open Go.RowKit (Below)

/-! iterators -/
theorem run_getObj {P : Program} {w : World} {b : Nat} {o : Obj} (h : w.heap[b]? = some o) (hn : ∀ c e f, o ≠ .cells c e f := by intros; simp) : (getObj b).run P w = .ok o w := by
  cases o <;> first | exact absurd rfl (hn _ _ _) | simp [getObj, Sem.run, h]

theorem run_setObj {P : Program} {w : World} {b : Nat} {o o' : Obj} (h : w.heap[b]? = some o) (hn : ∀ c e f, o ≠ .cells c e f := by intros; simp) : (setObj b o').run P w = .ok () { w with heap := w.heap.setIfInBounds b o' } := by
  cases o <;> first | exact absurd rfl (hn _ _ _) | simp [setObj, Sem.run, h]

theorem new_iter {x : Cx} {nw : Nat} (hx : Rel x) (hn : ¬ x.K nw) {o : O} {c : Obj} (ho : ORep (x.alloc nw o c) x.w.heap.size 0 o) :
    x.le (x.alloc nw o c) ∧ Rel (x.alloc nw o c) ∧ Rep (x.alloc nw o c) (.ptr nw 0) (.pointer (some ⟨x.w.heap.size, 0, none⟩)) ∧ ∀ i, (x.alloc nw o c).K i → i = nw ∨ x.K i := by
  refine ⟨alloc_le hx hn, alloc_rel hx hn ho, ?_, fun i h => h⟩
  have := Rep.ptr (x := x.alloc nw o c) nw 0 (.inl rfl)
  simpa [Cx.alloc, upd] using this

theorem aRange_ok {P : Program} {cfg : Cfg} (hc : cfg.Ok P) {x : Cx} (hx : Rel x) {nw : Nat} (hn : ¬ x.K nw) {t : TypeId} {v r : V} {cv : Value} {s' : S} (hv : Rep x v cv) (h : aRange cfg nw x.s t v = some (r, s')) :
    ∃ y c, (Instr.range t cv).run P x.w = .ok c y.w ∧ x.le y ∧ Rel y ∧ y.s = s' ∧ Rep y r c ∧ ∀ i, y.K i → i = nw ∨ x.K i := by
  unfold aRange at h
  simp only [Option.bind_eq_bind, Option.bind_eq_some_iff] at h
  obtain ⟨a, hta, h⟩ := h
  have hu := (hc.ty _ _ hta).und
  split at h
  · rename_i b he
    cases hv
    rw [he] at hu
    simp only [Option.some.injEq, Prod.mk.injEq] at h
    obtain ⟨rfl, rfl⟩ := h
    obtain ⟨h1, h2, h3, h4⟩ := new_iter (x := x) (o := .siter b 0) (c := .stringIter b 0) hx hn ⟨rfl, heap_alloc_self _ _⟩
    exact ⟨_, _, by simp [Instr.range, run_underlying hu, newObj, Sem.run, Cx.alloc], h1, h2, rfl, h3, h4⟩
  · rename_i k e he
    cases hv
    rw [he] at hu
    simp only [Option.some.injEq, Prod.mk.injEq] at h
    obtain ⟨rfl, rfl⟩ := h
    obtain ⟨h1, h2, h3, h4⟩ := new_iter (x := x) (o := .iter none 0 [] 0) (c := .mapIter none 0 #[] 0) hx hn ⟨rfl, heap_alloc_self _ _⟩
    exact ⟨_, _, by simp [Instr.range, run_underlying hu, newObj, Sem.run, Cx.alloc], h1, h2, rfl, h3, h4⟩
  · rename_i k e id he
    split at h
    case h_2 => cases h
    rename_i es clock hg
    cases hv with
    | map _ hk =>
      rw [he] at hu
      simp only [Option.some.injEq, Prod.mk.injEq] at h
      obtain ⟨rfl, rfl⟩ := h
      obtain ⟨E, hb, hE⟩ := (hx.live id _ hg).2
      obtain ⟨h1, h2, h3, h4⟩ := new_iter (x := x) (o := .iter (some id) clock [] clock) (c := .mapIter (some (x.ρ id).1) clock #[] clock) hx hn (by
        have hne : id ≠ nw := by rintro rfl; exact hn hk
        refine ⟨rfl, .inr hk, ?_⟩
        have : (x.alloc nw (.iter (some id) clock [] clock) (.mapIter (some (x.ρ id).1) clock #[] clock)).ρ id = x.ρ id := by simp [Cx.alloc, upd, hne]
        rw [this]
        exact heap_alloc_self _ _)
      exact ⟨_, _, by simp [Instr.range, run_underlying hu, run_getObj hb, newObj, Sem.run, Cx.alloc], h1, h2, rfl, h3, h4⟩
  · cases h

theorem EntL.filter {x : Cx} (p : Nat → Bool) : ∀ {es : List (V × V × Nat)} {E : List MapEntry}, EntL x es E → EntL x (es.filter fun e => p e.2.2) (E.filter fun m => p m.born)
  | [], [], h => h
  | [], _ :: _, h => by have := h.1; simp at this
  | _ :: _, [], h => by have := h.1; simp at this
  | e :: es, m :: E, h => by
    obtain ⟨m', hm', r1, r2, r3⟩ := h.2 0 e (by simp)
    simp at hm'; subst hm'
    have he' : EntL x es E := ⟨by simpa using h.1, fun j e hj => by simpa using h.2 (j + 1) e (by simpa using hj)⟩
    have ih := EntL.filter p he'
    rw [List.filter_cons, List.filter_cons, r3]
    split
    · exact ⟨by simp [ih.1], fun j e' hj => by
        cases j with
        | zero => simp only [List.getElem?_cons_zero, Option.some.injEq] at hj; subst hj; exact ⟨m, rfl, r1, r2, r3⟩
        | succ j => simpa using ih.2 j e' (by simpa using hj)⟩
    · exact ih

theorem EntL.all {x : Cx} (p : Nat → Bool) : ∀ {es : List (V × V × Nat)} {E : List MapEntry}, EntL x es E → (es.all fun e => p e.2.2) = E.all fun m => p m.born
  | [], [], h => rfl
  | [], _ :: _, h => by have := h.1; simp at this
  | _ :: _, [], h => by have := h.1; simp at this
  | e :: es, m :: E, h => by
    obtain ⟨m', hm', r1, r2, r3⟩ := h.2 0 e (by simp)
    simp at hm'; subst hm'
    have he' : EntL x es E := ⟨by simpa using h.1, fun j e hj => by simpa using h.2 (j + 1) e (by simpa using hj)⟩
    simp [EntL.all p he', r3]

theorem EntL.nil_inv {x : Cx} {E : List MapEntry} (h : EntL x [] E) : E = [] := by
  have := h.1; cases E <;> simp at this ⊢

theorem EntL.one_inv {x : Cx} {e : V × V × Nat} {E : List MapEntry} (h : EntL x [e] E) : ∃ m, E = [m] ∧ Rep x e.1 m.key ∧ Rep x e.2.1 m.val ∧ m.born = e.2.2 := by
  have h1 := h.1
  match E, h1 with
  | [m], _ =>
    obtain ⟨m', hm', r⟩ := h.2 0 e rfl
    simp at hm'; subst hm'
    exact ⟨m, rfl, r⟩

theorem aNext_ok {P : Program} {x : Cx} (hx : Rel x) {it r : V} {cit : Value} {str : Bool} {ty : TypeId} {s' : S} (hv : Rep x it cit) (h : aNext x.s it str = some (r, s')) :
    ∃ y c, (Instr.next cit str ty).run P x.w = .ok c y.w ∧ x.le y ∧ Rel y ∧ y.s = s' ∧ y.K = x.K ∧ Rep y r c := by
  unfold aNext at h
  split at h
  case h_2 => cases h
  rename_i r0
  cases hv with
  | ptr _ _ hk =>
    have over : ∀ w : World, (pure (.tuple #[.bool false]) : Sem Value).run P w = .ok (.tuple #[.bool false]) w := fun _ => rfl
    have rfalse : Rep x (.tup [.bool false]) (.tuple #[.bool false]) := .tup (C := #[.bool false]) (.cons (.bool _) .nil)
    split at h
    · rename_i b pos hg
      obtain ⟨hb0, hb⟩ := (hx.live r0 _ hg).2
      rw [hb0]
      split at h
      · rename_i hp
        simp only [Option.some.injEq, Prod.mk.injEq] at h
        obtain ⟨rfl, rfl⟩ := h
        have hcs : csize x.w (x.ρ r0).1 = none := by simp [csize, hb]
        have hlt := (hx.live r0 _ hg).2.lt
        have hw := wrote_setObj x.w (x.ρ r0).1 (.stringIter b (pos + (Utf8.decode b pos).2)) hcs
        have hle := putc_le (o' := .siter b (pos + (Utf8.decode b pos).2)) hg hw
        refine ⟨_, _, ?_, hle, putc_rel hx hg hw ⟨hb0, by simp [Cx.putc, hlt]⟩, rfl, rfl, .tup (C := #[.bool true, .int .i64 pos, .int .i32 (Utf8.decode b pos).1]) (.cons (.bool _) (.cons (.int _ _) (.cons (.int _ _) .nil)))⟩
        simp [Instr.next, run_getObj hb, hp, run_setObj hb, Cx.putc, goInt]
      · rename_i hp
        simp only [Option.some.injEq, Prod.mk.injEq] at h
        obtain ⟨rfl, rfl⟩ := h
        exact ⟨x, _, by simp [Instr.next, run_getObj hb, hp], .refl x, hx, rfl, rfl, rfalse⟩
    · rename_i since seen last hg
      obtain ⟨hb0, hb⟩ := (hx.live r0 _ hg).2
      rw [hb0]
      simp only [Option.some.injEq, Prod.mk.injEq] at h
      obtain ⟨rfl, rfl⟩ := h
      exact ⟨x, _, by simp [Instr.next, run_getObj hb], .refl x, hx, rfl, rfl, rfalse⟩
    · rename_i id since seen last hg
      split at h
      case h_2 => cases h
      rename_i es clock hm
      obtain ⟨hb0, hkid, hb⟩ := (hx.live r0 _ hg).2
      obtain ⟨E, hbm, hE⟩ := (hx.live id _ hm).2
      rw [hb0]
      split at h
      · cases h
      rename_i hguard
      have hguard' : (!seen.toArray.isEmpty && !E.isEmpty && E.all fun e => decide (e.born ≥ last)) = false := by
        have h1 := EntL.all (fun n => decide (last ≤ n)) hE
        have h2 := hE.isEmpty
        have h3 : (E.all fun e => decide (e.born ≥ last)) = E.toList.all fun m => decide (last ≤ m.born) := by rw [← Array.all_toList]
        have h4 : E.isEmpty = E.toList.isEmpty := by simp
        have h5 : seen.toArray.isEmpty = seen.isEmpty := by simp
        rw [h3, h4, h5, ← h1, ← h2]
        simpa using hguard
      have hleft := (hE.filter (fun n => !seen.contains n))
      have hold := hleft.filter (fun n => decide (n < since))
      have hnew := hleft.filter (fun n => decide (since ≤ n))
      have e1 : ((E.filter fun e => !seen.toArray.contains e.born).filter fun e => decide (e.born < since)).toList = (E.toList.filter fun m => !seen.contains m.born).filter fun m => decide (m.born < since) := by
        simp
      have e2 : ((E.filter fun e => !seen.toArray.contains e.born).filter fun e => decide (e.born ≥ since)).toList = (E.toList.filter fun m => !seen.contains m.born).filter fun m => decide (since ≤ m.born) := by
        simp
      have hgm := run_getObj (P := P) hbm
      split at h
      · rename_i ho hnw
        rw [ho] at hold
        rw [hnw] at hnew
        simp only [Option.some.injEq, Prod.mk.injEq] at h
        obtain ⟨rfl, rfl⟩ := h
        have f1 : ((E.filter fun e => !seen.toArray.contains e.born).filter fun e => decide (e.born < since)) = #[] := by
          rw [← Array.toList_inj, e1, hold.nil_inv]
        have f2 : ((E.filter fun e => !seen.toArray.contains e.born).filter fun e => decide (e.born ≥ since)) = #[] := by
          rw [← Array.toList_inj, e2, hnew.nil_inv]
        refine ⟨x, _, ?_, .refl x, hx, rfl, rfl, rfalse⟩
        simp only [Instr.next, Sem.run_bind, run_getObj hb, Result.andThen_ok, hgm, hguard', f1, f2]
        simp [Question.forced]
      · rename_i e ho hnw
        rw [ho] at hold
        rw [hnw] at hnew
        simp only [Option.some.injEq, Prod.mk.injEq] at h
        obtain ⟨rfl, rfl⟩ := h
        obtain ⟨m, hm1, r1, r2, r3⟩ := hold.one_inv
        have f1 : ((E.filter fun e => !seen.toArray.contains e.born).filter fun e => decide (e.born < since)) = #[m] := by
          rw [← Array.toList_inj, e1, hm1]
        have f2 : ((E.filter fun e => !seen.toArray.contains e.born).filter fun e => decide (e.born ≥ since)) = #[] := by
          rw [← Array.toList_inj, e2, hnew.nil_inv]
        have hcs : csize x.w (x.ρ r0).1 = none := by simp [csize, hb]
        have hlt := (hx.live r0 _ hg).2.lt
        have hw := wrote_setObj x.w (x.ρ r0).1 (.mapIter (some (x.ρ id).1) since (seen ++ [e.2.2]).toArray clock) hcs
        have hle := putc_le (o' := .iter (some id) since (seen ++ [e.2.2]) clock) hg hw
        refine ⟨_, .tuple #[.bool true, m.key, m.val], ?_, hle, putc_rel hx hg hw ⟨hb0, hkid, by simp [Cx.putc, hlt]⟩, rfl, rfl, .tup (C := #[.bool true, m.key, m.val]) (.cons (.bool _) (.cons (r1.mono hle) (.cons (r2.mono hle) .nil)))⟩
        simp only [Instr.next, Sem.run_bind, run_getObj hb, Result.andThen_ok, hgm, hguard', f1, f2]
        simp [Question.forced, run_setObj hb, Cx.putc, r3]
      · cases h
    · cases h

theorem find_ent {x : Cx} (stamp : Nat) : ∀ {es : List (V × V × Nat)} {E : List MapEntry}, EntL x es E → ∀ {e : V × V × Nat}, es.find? (fun e => e.2.2 == stamp) = some e → ∃ m, E.find? (fun m => m.born == stamp) = some m ∧ Rep x e.1 m.key ∧ Rep x e.2.1 m.val
  | [], [], h, e, he => by simp at he
  | [], _ :: _, h, e, he => by simp at he
  | _ :: _, [], h, e, he => by have := h.1; simp at this
  | e0 :: es, m :: E, h, e, he => by
    obtain ⟨m', hm', r1, r2, r3⟩ := h.2 0 e0 (by simp)
    simp at hm'; subst hm'
    have he' : EntL x es E := ⟨by simpa using h.1, fun j e hj => by simpa using h.2 (j + 1) e (by simpa using hj)⟩
    rw [List.find?_cons] at he
    rw [List.find?_cons, r3]
    split at he
    · injection he with he
      subst he
      exact ⟨m, rfl, r1, r2⟩
    · exact find_ent stamp he' he

theorem aEntry_ok {P : Program} {x : Cx} (hx : Rel x) {it r : V} {cit : Value} (hv : Rep x it cit) (h : aEntry x.s it = some r) : ∃ c, (Instr.entry cit).run P x.w = .ok c x.w ∧ Rep x r c := by
  unfold aEntry at h
  split at h
  case h_2 => cases h
  rename_i r0
  cases hv with
  | ptr _ _ hk =>
    split at h
    case h_2 => cases h
    rename_i id since seen stepped hg
    split at h
    case h_2 => cases h
    rename_i es clock stamp hm hs
    obtain ⟨hb0, hkid, hb⟩ := (hx.live r0 _ hg).2
    obtain ⟨E, hbm, hE⟩ := (hx.live id _ hm).2
    rw [hb0]
    split at h
    case isFalse => cases h
    rename_i hcl
    subst hcl
    simp only [Option.map_eq_some_iff] at h
    obtain ⟨e, he, rfl⟩ := h
    obtain ⟨m, hm1, r1, r2⟩ := find_ent stamp hE he
    have hback : seen.toArray.back? = some stamp := by simpa using hs
    have hfind : E.find? (fun m => m.born == stamp) = some m := by rw [← Array.find?_toList]; exact hm1
    refine ⟨.tuple #[m.key, m.val], ?_, .tup (C := #[m.key, m.val]) (.cons r1 (.cons r2 .nil))⟩
    simp [Instr.entry, run_getObj hb, run_getObj hbm, hback, hfind]
end Go.Proofs.YtcmcedphaipgkaaGreatDoor.Ai

