/- Part of a reckoning of a Go program over abstract values, proved sound against the model. -/
import Derived.Test.YtejjnakhijgkaaaGreatDoorAiB8
namespace Go.Proofs.YtejjnakhijgkaaaGreatDoor.Ai
open Go.RowKit (Below)

/-! values laid -/
structure Less (s s' : S) : Prop where
  next : s'.next = s.next
  get : ∀ j p, s'.get j = some p → s.get j = some p

theorem Less.refl (s : S) : Less s s := ⟨rfl, fun _ _ h => h⟩
theorem Less.trans {a b c : S} (h : Less a b) (g : Less b c) : Less a c := ⟨g.next.trans h.next, fun j p hj => h.get j p (g.get j p hj)⟩
theorem Less.del (s : S) (i : Nat) : Less s (s.del i) := ⟨rfl, fun j p h => by
  rw [S.get_del] at h
  split at h
  · cases h
  · exact h⟩

theorem less_le {x : Cx} {s' : S} (h : Less x.s s') : x.le { x with s := s' } where
  B := rfl
  K := fun _ h => ⟨h, rfl⟩
  size := Nat.le_refl _
  keep := fun _ _ _ => rfl
  csz := fun _ _ h => h
  own := fun b _ ⟨j, p, hj, hb⟩ => ⟨j, p, h.get j p hj, hb⟩
  os := rfl
  tape := rfl
  output := rfl

theorem less_rel {x : Cx} (hx : Rel x) {s' : S} (h : Less x.s s') : Rel { x with s := s' } where
  lt := fun i hi => by have := hx.lt i hi; simpa [h.next] using this
  live := fun i o hi => ⟨(hx.live i o (h.get i o hi)).1, (hx.live i o (h.get i o hi)).2.mono (less_le h) rfl⟩
  inj := fun i j o p hi hj => hx.inj i j o p (h.get i o hi) (h.get j p hj)
  room := hx.room
  apart := fun i o hi => hx.apart i o (h.get i o hi)

theorem chunk_flat (ag : Bool) (sz : Nat) : ∀ (n : Nat) (cs : List V), cs.length = n * sz → (ag = false → sz = 1) → cs.all V.one = true → (chunk ag sz n cs).flatMap V.cells = cs ∧ (∀ e ∈ chunk ag sz n cs, e.cells.length = sz) ∧ (chunk ag sz n cs).length = n
  | 0, cs, h, _, _ => by simp at h; subst h; simp [chunk]
  | n + 1, cs, h, h1, h2 => by
    have hlen : (cs.drop sz).length = n * sz := by rw [List.length_drop, h, Nat.add_mul]; omega
    obtain ⟨i1, i2, i3⟩ := chunk_flat ag sz n (cs.drop sz) hlen h1 (by
      rw [List.all_eq_true] at h2 ⊢
      exact fun v hv => h2 v (List.mem_of_mem_drop hv))
    rw [chunk]
    cases ag with
    | true =>
      simp only [if_true, List.flatMap_cons, i1, V.cells, List.take_append_drop, List.length_cons, i3, true_and, and_true]
      intro e he
      rcases List.mem_cons.1 he with rfl | he
      · simp only [V.cells, List.length_take, h, Nat.add_mul]; omega
      · exact i2 e he
    | false =>
      have hs := h1 rfl
      subst hs
      cases cs with
      | nil => simp at h
      | cons v cs =>
        simp only [List.all_cons, Bool.and_eq_true] at h2
        have hv : v.cells = [v] := by cases v <;> simp_all [V.cells, V.one]
        simp only [List.drop_succ_cons, List.drop_zero] at i1 i2 i3 ⊢
        simp only [Bool.false_eq_true, if_false, List.head?_cons, Option.getD_some, List.flatMap_cons, i1, hv, List.singleton_append, List.length_cons, i3, true_and, and_true]
        intro e he
        rcases List.mem_cons.1 he with rfl | he
        · simp [hv]
        · exact i2 e he

theorem lay_ok : ∀ (k : Nat), (∀ (x : Cx) (v v' : V) (c : Value) (s' : S), Rel x → Rep x v c → lay k x.s v = some (v', s') → Less x.s s' ∧ Rep { x with s := s' } v' c) ∧
    (∀ (x : Cx) (l l' : List V) (m : List Value) (s' : S), Rel x → RepL x l m → layL k x.s l = some (l', s') → Less x.s s' ∧ RepL { x with s := s' } l' m)
  | 0 => ⟨fun x v v' c s' _ _ h => by simp [lay] at h, fun x l l' m s' _ _ h => by simp [layL] at h⟩
  | k + 1 => by
    obtain ⟨ih1, ih2⟩ := lay_ok k
    have triv : ∀ (x : Cx) (v v' : V) (c : Value) (s' : S), Rel x → Rep x v c → some (v, x.s) = some (v', s') → Less x.s s' ∧ Rep { x with s := s' } v' c := by
      intro x v v' c s' hx hr h
      injection h with h
      injection h with h1 h2
      subst h1 h2
      exact ⟨.refl _, hr⟩
    refine ⟨fun x v v' c s' hx hr h => ?_, fun x l l' m s' hx hr h => ?_⟩
    · cases hr with
      | bool b => exact triv x _ _ _ _ hx (.bool b) (by simpa [lay] using h)
      | int i n => exact triv x _ _ _ _ hx (.int i n) (by simpa [lay] using h)
      | str b => exact triv x _ _ _ _ hx (.str b) (by simpa [lay] using h)
      | nilp => exact triv x _ _ _ _ hx .nilp (by simpa [lay] using h)
      | ptr i o hk => exact triv x _ _ _ _ hx (.ptr i o hk) (by simpa [lay] using h)
      | cptr b o off hh hl => exact triv x _ _ _ _ hx (.cptr b o off hh hl) (by simpa [lay] using h)
      | list b o cap sz hh hl hc he => exact triv x _ _ _ _ hx (.list b o cap sz hh hl hc he) (by simpa [lay] using h)
      | lempty a cap => exact triv x _ _ _ _ hx (.lempty a cap) (by simpa [lay] using h)
      | map i hk => exact triv x _ _ _ _ hx (.map i hk) (by simpa [lay] using h)
      | nilm => exact triv x _ _ _ _ hx .nilm (by simpa [lay] using h)
      | yield i hk => exact triv x _ _ _ _ hx (.yield i hk) (by simpa [lay] using h)
      | func f ha hb => exact triv x _ _ _ _ hx (.func f ha hb) (by simpa [lay] using h)
      | nilf => exact triv x _ _ _ _ hx .nilf (by simpa [lay] using h)
      | nili => exact triv x _ _ _ _ hx .nili (by simpa [lay] using h)
      | nils =>
        simp only [lay, Option.some.injEq, Prod.mk.injEq] at h
        obtain ⟨rfl, rfl⟩ := h
        exact ⟨.refl _, .lempty _ _⟩
      | iface t hv =>
        simp only [lay] at h
        split at h
        · rename_i v1 s1 h1
          injection h with h; injection h with e1 e2; subst e1 e2
          obtain ⟨hl, hr⟩ := ih1 x _ _ _ _ hx hv h1
          exact ⟨hl, .iface t hr⟩
        · cases h
      | agg hl =>
        simp only [lay] at h
        split at h
        · rename_i v1 s1 h1
          injection h with h; injection h with e1 e2; subst e1 e2
          obtain ⟨hl, hr⟩ := ih2 x _ _ _ _ hx hl h1
          exact ⟨hl, .agg hr⟩
        · cases h
      | tup hl =>
        simp only [lay] at h
        split at h
        · rename_i v1 s1 h1
          injection h with h; injection h with e1 e2; subst e1 e2
          obtain ⟨hl, hr⟩ := ih2 x _ _ _ _ hx hl h1
          exact ⟨hl, .tup hr⟩
        · cases h
      | arr id off len sz ag cp o cap n hk hoff hlc hcs hroom hcp =>
        simp only [lay] at h
        split at h
        · rename_i cs frz ty ex hg
          split at h
          · rename_i hcond
            split at h
            · rename_i cs' s1 h1
              split at h
              · rename_i hone
                injection h with h; injection h with e1 e2; subst e1 e2
                have hx1 := delc_rel hx id
                have hle1 := delc_le x id
                obtain ⟨vs, hvl, hat⟩ := orep_at (hx.live id _ hg).2
                have hvl2 : RepL (x.delc id) ((cs.drop off).take (len * sz)) ((vs.drop off).take (len * sz)) := ((hvl.drop off).take _).mono hle1
                obtain ⟨hless, hr⟩ := ih2 (x.delc id) _ _ _ _ hx1 hvl2 h1
                have hless2 : Less x.s s1 := (Less.del x.s id).trans hless
                refine ⟨hless2, ?_⟩
                have hlen : cs'.length = len * sz := by
                  have a1 := hr.length
                  have a2 := hvl2.length
                  rw [← a1] at a2
                  rw [← a2, List.length_take, List.length_drop]; omega
                obtain ⟨c1, c2, c3⟩ := chunk_flat ag sz len cs' hlen hcond.2 hone
                by_cases hz : len = 0
                · subst hz
                  simp only [chunk]
                  exact .lempty _ _
                · have hcap : cap ≠ 0 := by omega
                  have ho : o = (x.ρ id).2 + off := by
                    rcases hoff with h | h
                    · exact absurd h hcap
                    · exact h
                  subst ho
                  have := Rep.list (x := { x with s := s1 }) (es := chunk ag sz len cs') (vs := (vs.drop off).take (len * sz)) (x.ρ id).1 ((x.ρ id).2 + off) cap sz ?_ (by rw [c1]; exact hr) (by rw [c3]; exact hlc) c2
                  · rw [c3] at this; exact this
                  · refine ⟨(hx.live id _ hg).2.lt, ?_, (hat.drop off).take _⟩
                    rintro (hb | ⟨j, p, hj, hb⟩)
                    · exact hx.apart id _ hg hb
                    · exact delc_notown hx hg ⟨j, p, hless.get j p hj, hb⟩
              · cases h
            · cases h
          · cases h
        · cases h
    · cases hr with
      | nil =>
        simp only [layL, Option.some.injEq, Prod.mk.injEq] at h
        obtain ⟨rfl, rfl⟩ := h
        exact ⟨.refl _, .nil⟩
      | cons hv hl =>
        simp only [layL] at h
        split at h
        · rename_i v1 s1 h1
          split at h
          · rename_i l1 s2 h2
            injection h with h; injection h with e1 e2; subst e1 e2
            obtain ⟨less1, r1⟩ := ih1 x _ _ _ _ hx hv h1
            have hx1 := less_rel hx less1
            obtain ⟨less2, r2⟩ := ih2 { x with s := s1 } _ _ _ _ hx1 (hl.mono (less_le less1)) h2
            exact ⟨less1.trans less2, .cons (r1.mono (less_le (x := { x with s := s1 }) less2)) r2⟩
          · cases h
        · cases h

theorem layIf_ok {x : Cx} (hx : Rel x) {sl : Bool} {l l' : List V} {m : List Value} {s' : S} (hl : RepL x l m) (h : layIf sl x.s l = some (l', s')) : Less x.s s' ∧ RepL { x with s := s' } l' m := by
  unfold layIf at h
  split at h
  · exact (lay_ok FUEL).2 x _ _ _ _ hx hl h
  · injection h with h; injection h with e1 e2; subst e1 e2; exact ⟨.refl _, hl⟩

/-! what is appended -/
theorem bytesV_rep {x : Cx} (s : ByteArray) : RepL x (bytesV s) (s.data.toList.map fun b => Value.int .u8 b.toNat) := by
  unfold bytesV
  induction s.data.toList with
  | nil => exact .nil
  | cons b l ih => exact .cons (.int _ _) ih

theorem elems_ok {P : Program} {x : Cx} (hx : Rel x) {sz : Nat} {y : V} {cy : Value} (hy : Rep x y cy) {new : List V} {n : Nat} (h : elemsOf x.s sz y = some (new, n)) :
    (∀ w, (Builtin.lenOf cy).run P w = .ok n w) ∧ ∃ arr : Array Value, (∀ w : World, w.heap = x.w.heap → (Builtin.firstCells sz n cy).run P w = .ok arr w) ∧ RepL x new arr.toList ∧
      (n = 0 → new = []) := by
  have hcell : ∀ (w : World), w.heap = x.w.heap → ∀ a, w.cell? a = x.w.cell? a := fun w hw a => by simp [World.cell?, hw]
  unfold elemsOf at h
  split at h
  · cases hy
    simp only [Option.some.injEq, Prod.mk.injEq] at h
    obtain ⟨rfl, rfl⟩ := h
    exact ⟨fun w => by simp [Builtin.lenOf], #[], fun w _ => by simp [Builtin.firstCells], .nil, fun _ => rfl⟩
  · rename_i es
    split at h
    · rename_i hall
      simp only [Option.some.injEq, Prod.mk.injEq] at h
      obtain ⟨rfl, rfl⟩ := h
      have hall' : ∀ e ∈ es, e.cells.length = sz := by simpa using hall
      cases hy with
      | lempty a cap =>
        refine ⟨fun w => by simp [Builtin.lenOf], #[], fun w _ => ?_, .nil, fun _ => rfl⟩
        cases a with
        | none => simp [Builtin.firstCells]
        | some a => simp [Builtin.firstCells, loadCells, loadCellsFrom]
      | list b o cap sz' hh hl hc he =>
        refine ⟨fun w => by simp [Builtin.lenOf], _, fun w hw => run_firstCells_some (P := P) w sz es.length ⟨b, o, none⟩ es.length cap _ (by rw [← hl.length, flat_len hall']) (fun j c hj => by rw [add_lit', hcell w hw]; exact hh.at j c hj), by simpa using hl, fun h0 => by
          have := List.eq_nil_of_length_eq_zero h0
          subst this; rfl⟩
    · cases h
  · rename_i id off len sz' ag cp
    split at h
    · rename_i e
      subst e
      split at h
      · rename_i cs frz ty ex hg
        split at h
        · rename_i hle
          simp only [Option.some.injEq, Prod.mk.injEq] at h
          obtain ⟨rfl, rfl⟩ := h
          obtain ⟨vs, hvl, hat⟩ := orep_at (hx.live id _ hg).2
          have hvl2 := (hvl.drop off).take (len * sz')
          have hlen : ((vs.drop off).take (len * sz')).length = len * sz' := by
            rw [List.length_take, List.length_drop, ← hvl.length]; omega
          cases hy with
          | arr _ _ _ _ _ _ o cap n hk hoff hlc hcs hroom hcp =>
            refine ⟨fun w => by simp [Builtin.lenOf], ((vs.drop off).take (len * sz')).toArray, fun w hw => ?_, by simpa using hvl2, fun h0 => by subst h0; simp⟩
            by_cases hz : len = 0
            · subst hz
              simp [Builtin.firstCells, loadCells, loadCellsFrom]
            · have ho : o = (x.ρ id).2 + off := by
                rcases hoff with h | h
                · omega
                · exact h
              subst ho
              exact run_firstCells_some (P := P) w sz' len ⟨(x.ρ id).1, (x.ρ id).2 + off, none⟩ len cap _ hlen (fun j c hj => by rw [add_lit', hcell w hw]; exact ((hat.drop off).take _) j c hj)
        · cases h
      · cases h
    · cases h
  · rename_i s
    simp only [Option.some.injEq, Prod.mk.injEq] at h
    obtain ⟨rfl, rfl⟩ := h
    cases hy
    refine ⟨fun w => by simp [Builtin.lenOf], s.data.map fun b => Value.int .u8 b.toNat, fun w _ => ?_, by simpa using bytesV_rep s, fun h0 => by
      have : s.data.toList = [] := List.eq_nil_of_length_eq_zero (by simpa using h0)
      simp [bytesV, this]⟩
    have : s.extract 0 s.size = s := by simp
    simp [Builtin.firstCells, this]
  · cases h

end Go.Proofs.YtejjnakhijgkaaaGreatDoor.Ai
