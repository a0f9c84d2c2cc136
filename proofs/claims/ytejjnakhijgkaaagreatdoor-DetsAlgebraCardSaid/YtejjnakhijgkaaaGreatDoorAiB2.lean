/- Part of a reckoning of a Go program over abstract values, proved sound against the model. -/
import Derived.Test.YtejjnakhijgkaaaGreatDoorAiB1
namespace Go.Proofs.YtejjnakhijgkaaaGreatDoor.Ai
open Go.RowKit (Below)

def upd (ρ : Nat → Nat × Nat) (i : Nat) (p : Nat × Nat) (j : Nat) : Nat × Nat := if j = i then p else ρ j

/-! something new -/
def Cx.alloc (x : Cx) (nw : Nat) (o : O) (c : Obj) : Cx :=
  ⟨x.w.alloc c, upd x.ρ nw (x.w.heap.size, 0), fun i => i = nw ∨ x.K i, x.s.add nw o, x.B⟩

theorem heap_alloc_lt (w : World) (c : Obj) {b : Nat} (h : b < w.heap.size) : (w.alloc c).heap[b]? = w.heap[b]? := Below.heap_alloc _ _ _ h
theorem heap_alloc_self (w : World) (c : Obj) : (w.alloc c).heap[w.heap.size]? = some c := by
  show (w.heap.push c)[w.heap.size]? = _
  simp

section
variable {x : Cx} {nw : Nat} {o : O} {c : Obj}

theorem get_none (hx : Rel x) (hn : ¬ x.K nw) : x.s.get nw = none := by
  cases h : x.s.get nw with
  | none => rfl
  | some o => exact absurd (hx.live nw o h).1 hn

theorem alloc_own (hx : Rel x) (hn : ¬ x.K nw) (b : Nat) : (x.alloc nw o c).own b ↔ b = x.w.heap.size ∨ x.own b := by
  constructor
  · rintro ⟨i, p, hi, hb⟩
    simp only [Cx.alloc, S.get_add] at hi
    by_cases e : i = nw
    · subst e; left; rw [← hb]; simp [Cx.alloc, upd]
    · rw [if_neg e] at hi
      right; exact ⟨i, p, hi, by rw [← hb]; simp [Cx.alloc, upd, e]⟩
  · rintro (rfl | ⟨i, p, hi, rfl⟩)
    · exact ⟨nw, o, by simp [Cx.alloc, S.get_add], by simp [Cx.alloc, upd]⟩
    · have e : i ≠ nw := by rintro rfl; rw [get_none hx hn] at hi; cases hi
      exact ⟨i, p, by simp [Cx.alloc, S.get_add, e, hi], by simp [Cx.alloc, upd, e]⟩

theorem alloc_le (hx : Rel x) (hn : ¬ x.K nw) : x.le (x.alloc nw o c) where
  B := rfl
  K := fun i hi => ⟨.inr hi, by simp only [Cx.alloc, upd]; rw [if_neg]; rintro rfl; exact hn hi⟩
  size := by simp [Cx.alloc]
  keep := fun b hb _ => heap_alloc_lt _ _ hb
  csz := fun b n h => by
    have hb : b < x.w.heap.size := by
      apply Decidable.not_not.1; intro hlt
      simp [csize, Array.getElem?_eq_none (show x.w.heap.size ≤ b by omega)] at h
    simpa [csize, Cx.alloc, heap_alloc_lt _ _ hb] using h
  own := fun b hb ho => by
    rcases (alloc_own hx hn b).1 ho with h | h
    · omega
    · exact h
  os := rfl
  tape := rfl
  output := rfl

theorem alloc_rel (hx : Rel x) (hn : ¬ x.K nw) (ho : ORep (x.alloc nw o c) x.w.heap.size 0 o) : Rel (x.alloc nw o c) where
  lt := fun i hi => by
    simp only [Cx.alloc, S.next_add]
    rcases hi with rfl | hi
    · omega
    · have := hx.lt i hi; omega
  live := fun i p hi => by
    simp only [Cx.alloc, S.get_add] at hi
    by_cases e : i = nw
    · subst e
      rw [if_pos rfl] at hi; injection hi with hi; subst hi
      exact ⟨.inl rfl, by simpa [Cx.alloc, upd] using ho⟩
    · rw [if_neg e] at hi
      have h := hx.live i p hi
      refine ⟨.inr h.1, ?_⟩
      have h2 := h.2.mono (alloc_le (o := o) (c := c) hx hn) (heap_alloc_lt _ _ h.2.lt)
      simpa [Cx.alloc, upd, e] using h2
  inj := fun i j p q hi hj he => by
    simp only [Cx.alloc, S.get_add] at hi hj
    simp only [Cx.alloc, upd] at he
    by_cases e : i = nw <;> by_cases e' : j = nw
    · omega
    · rw [if_neg e'] at hj
      rw [if_pos e, if_neg e'] at he
      have := (hx.live j q hj).2.lt
      simp only at he
      omega
    · rw [if_neg e] at hi
      rw [if_neg e, if_pos e'] at he
      have := (hx.live i p hi).2.lt
      simp only at he
      omega
    · rw [if_neg e] at hi; rw [if_neg e'] at hj
      rw [if_neg e, if_neg e'] at he
      exact hx.inj i j p q hi hj he
  room := fun b hb => by
    have := hx.room b hb
    simp [Cx.alloc]; omega
  apart := fun i p hi hb => by
    simp only [Cx.alloc, S.get_add] at hi hb
    simp only [upd] at hb
    by_cases e : i = nw
    · rw [if_pos e] at hb
      have := hx.room _ hb
      simp only at this
      omega
    · rw [if_neg e] at hi hb
      exact hx.apart i p hi hb
end

/-- A new row of cells. -/
theorem alloc_cells {x : Cx} {nw frz : Nat} (hx : Rel x) (hn : ¬ x.K nw) {cs : List V} {C : Array Value} {ty : TypeId} {ex : Bool} {vs : List Value} (hl : RepL x cs vs)
    (hpre : ∀ (j : Nat) (c : Value), vs[j]? = some c → C[j]? = some c) (hex : ex = true → C.size = cs.length) :
    let y := x.alloc nw (.cells cs frz ty ex) (.cells C ty)
    x.le y ∧ Rel y ∧ y.K nw ∧ y.ρ nw = (x.w.heap.size, 0) := by
  have hle := alloc_le (o := .cells cs frz ty ex) (c := .cells C ty) hx hn
  refine ⟨hle, alloc_rel hx hn ⟨C, 0, 0, vs, heap_alloc_self _ _, hl.mono hle, by simpa using hpre, fun o _ _ h => by omega, fun h => ⟨rfl, hex h⟩⟩, .inl rfl, by simp [Cx.alloc, upd]⟩

/-! something that is written -/
def Cx.putc (x : Cx) (i : Nat) (o : O) (w' : World) : Cx := ⟨w', x.ρ, x.K, x.s.put i o, x.B⟩

/-- w' is w but for the cells of a block. -/
structure Wrote (w w' : World) (b : Nat) : Prop where
  size : w'.heap.size = w.heap.size
  keep : ∀ k, k ≠ b → w'.heap[k]? = w.heap[k]?
  csz : ∀ k n, csize w k = some n → csize w' k = some n
  os : w'.os = w.os
  tape : w'.tape = w.tape
  output : w'.output = w.output

theorem Wrote.refl (w : World) (b : Nat) : Wrote w w b := ⟨rfl, fun _ _ => rfl, fun _ _ h => h, rfl, rfl, rfl⟩
theorem Wrote.trans {a b c : World} {k : Nat} (h : Wrote a b k) (g : Wrote b c k) : Wrote a c k :=
  ⟨g.size.trans h.size, fun i hi => (g.keep i hi).trans (h.keep i hi), fun i n hn => g.csz i n (h.csz i n hn), g.os.trans h.os, g.tape.trans h.tape, g.output.trans h.output⟩

theorem wrote_setCell (w : World) (a : Addr) (v : Value) : Wrote w (w.setCell a v) a.block where
  size := by simp
  keep := fun k hk => Below.heap_setCell _ _ _ _ hk
  csz := fun k n h => by
    by_cases e : k = a.block
    · subst e
      simp only [csize] at h ⊢
      simp only [World.setCell, Array.getElem?_modify, if_true]
      cases hb : w.heap[a.block]? with
      | none => simp [hb] at h
      | some o =>
        rw [hb] at h
        cases o <;> simp at h ⊢
        split <;> simp [h]
    · simpa [csize, Below.heap_setCell w a v k e] using h
  os := rfl
  tape := rfl
  output := rfl

section
variable {x : Cx} {i : Nat} {o o' : O} {w' : World}
theorem putc_own (hi : x.s.get i = some o) (b : Nat) : (x.putc i o' w').own b ↔ x.own b := by
  constructor
  · rintro ⟨j, p, hj, hb⟩
    simp only [Cx.putc, S.get_put] at hj hb
    by_cases e : j = i
    · subst e; exact ⟨j, o, hi, hb⟩
    · rw [if_neg e] at hj; exact ⟨j, p, hj, hb⟩
  · rintro ⟨j, p, hj, hb⟩
    by_cases e : j = i
    · subst e; exact ⟨j, o', by simp [Cx.putc, S.get_put], hb⟩
    · exact ⟨j, p, by simp [Cx.putc, S.get_put, e, hj], hb⟩

theorem putc_le (hi : x.s.get i = some o) (hw : Wrote x.w w' (x.ρ i).1) : x.le (x.putc i o' w') where
  B := rfl
  K := fun j h => ⟨h, rfl⟩
  size := by simp [Cx.putc, hw.size]
  keep := fun b _ hn => hw.keep b (by rintro rfl; exact hn ⟨i, o, hi, rfl⟩)
  csz := hw.csz
  own := fun b _ h => (putc_own hi b).1 h
  os := hw.os
  tape := hw.tape
  output := hw.output

theorem putc_rel (hx : Rel x) (hi : x.s.get i = some o) (hw : Wrote x.w w' (x.ρ i).1) (ho : ORep (x.putc i o' w') (x.ρ i).1 (x.ρ i).2 o') : Rel (x.putc i o' w') where
  lt := hx.lt
  live := fun j p hj => by
    simp only [Cx.putc, S.get_put] at hj
    by_cases e : j = i
    · subst e
      rw [if_pos rfl] at hj; injection hj with hj; subst hj
      exact ⟨(hx.live j o hi).1, ho⟩
    · rw [if_neg e] at hj
      refine ⟨(hx.live j p hj).1, (hx.live j p hj).2.mono (putc_le hi hw) (hw.keep _ fun h => e (hx.inj j i p o hj hi h))⟩
  inj := fun j k p q hj hk he => by
    simp only [Cx.putc, S.get_put] at hj hk
    by_cases e : j = i <;> by_cases e' : k = i
    · omega
    · rw [if_neg e'] at hk; subst e; exact hx.inj j k o q hi hk he
    · rw [if_neg e] at hj; subst e'; exact hx.inj j k p o hj hi he
    · rw [if_neg e] at hj; rw [if_neg e'] at hk; exact hx.inj j k p q hj hk he
  room := fun b hb => by simpa [Cx.putc, hw.size] using hx.room b hb
  apart := fun j p hj => by
    simp only [Cx.putc, S.get_put] at hj
    by_cases e : j = i
    · subst e; exact hx.apart j o hi
    · rw [if_neg e] at hj; exact hx.apart j p hj
end

/-! something that is given up -/
def Cx.delc (x : Cx) (i : Nat) : Cx := { x with s := x.s.del i }

theorem delc_le (x : Cx) (i : Nat) : x.le (x.delc i) where
  B := rfl
  K := fun j h => ⟨h, rfl⟩
  size := Nat.le_refl _
  keep := fun _ _ _ => rfl
  csz := fun _ _ h => h
  own := fun b _ ⟨j, p, hj, hb⟩ => by
    simp only [Cx.delc, S.get_del] at hj
    by_cases e : j = i
    · rw [if_pos e] at hj; cases hj
    · rw [if_neg e] at hj; exact ⟨j, p, hj, hb⟩
  os := rfl
  tape := rfl
  output := rfl

theorem delc_rel {x : Cx} (hx : Rel x) (i : Nat) : Rel (x.delc i) where
  lt := hx.lt
  live := fun j p hj => by
    simp only [Cx.delc, S.get_del] at hj
    by_cases e : j = i
    · rw [if_pos e] at hj; cases hj
    · rw [if_neg e] at hj
      exact ⟨(hx.live j p hj).1, (hx.live j p hj).2.mono (delc_le x i) rfl⟩
  inj := fun j k p q hj hk he => by
    simp only [Cx.delc, S.get_del] at hj hk
    by_cases e : j = i
    · rw [if_pos e] at hj; cases hj
    · by_cases e' : k = i
      · rw [if_pos e'] at hk; cases hk
      · rw [if_neg e] at hj; rw [if_neg e'] at hk
        exact hx.inj j k p q hj hk he
  room := hx.room
  apart := fun j p hj => by
    simp only [Cx.delc, S.get_del] at hj
    by_cases e : j = i
    · rw [if_pos e] at hj; cases hj
    · rw [if_neg e] at hj; exact hx.apart j p hj

theorem delc_notown {x : Cx} (hx : Rel x) {i : Nat} {o : O} (hi : x.s.get i = some o) : ¬ (x.delc i).own (x.ρ i).1 := by
  rintro ⟨j, p, hj, hb⟩
  simp only [Cx.delc, S.get_del] at hj hb
  by_cases e : j = i
  · rw [if_pos e] at hj; cases hj
  · rw [if_neg e] at hj
    exact e (hx.inj j i p o hj hi hb)

/-! another name for a block that was given up -/
def Cx.take (x : Cx) (i nw : Nat) (base : Nat) (o : O) (w' : World) : Cx :=
  ⟨w', upd x.ρ nw ((x.ρ i).1, base), fun j => j = nw ∨ x.K j, (x.s.del i).add nw o, x.B⟩

section
variable {x : Cx} {i nw base : Nat} {o o' : O} {w' : World}
theorem take_own (hx : Rel x) (hn : ¬ x.K nw) (hi : x.s.get i = some o) (b : Nat) : (x.take i nw base o' w').own b ↔ x.own b := by
  have hne : i ≠ nw := by rintro rfl; exact hn (hx.live i o hi).1
  constructor
  · rintro ⟨j, p, hj, hb⟩
    simp only [Cx.take, S.get_add, S.get_del, upd] at hj hb
    by_cases e : j = nw
    · rw [if_pos e] at hb; exact ⟨i, o, hi, hb⟩
    · rw [if_neg e] at hj hb
      by_cases e' : j = i
      · rw [if_pos e'] at hj; cases hj
      · rw [if_neg e'] at hj; exact ⟨j, p, hj, hb⟩
  · rintro ⟨j, p, hj, hb⟩
    by_cases e' : j = i
    · subst e'
      exact ⟨nw, o', by simp [Cx.take, S.get_add], by simp [Cx.take, upd, hb]⟩
    · have e : j ≠ nw := by rintro rfl; exact hn (hx.live j p hj).1
      exact ⟨j, p, by simp [Cx.take, S.get_add, S.get_del, e, e', hj], by simp [Cx.take, upd, e, hb]⟩

theorem take_le (hx : Rel x) (hn : ¬ x.K nw) (hi : x.s.get i = some o) (hw : Wrote x.w w' (x.ρ i).1) : x.le (x.take i nw base o' w') where
  B := rfl
  K := fun j h => ⟨.inr h, by simp only [Cx.take, upd]; rw [if_neg]; rintro rfl; exact hn h⟩
  size := by simp [Cx.take, hw.size]
  keep := fun b _ hno => hw.keep b (by rintro rfl; exact hno ⟨i, o, hi, rfl⟩)
  csz := hw.csz
  own := fun b _ h => (take_own hx hn hi b).1 h
  os := hw.os
  tape := hw.tape
  output := hw.output

theorem take_rel (hx : Rel x) (hn : ¬ x.K nw) (hi : x.s.get i = some o) (hw : Wrote x.w w' (x.ρ i).1) (ho : ORep (x.take i nw base o' w') (x.ρ i).1 base o') : Rel (x.take i nw base o' w') where
  lt := fun j hj => by
    simp only [Cx.take, S.next_add, S.next_del]
    rcases hj with rfl | hj
    · omega
    · have := hx.lt j hj; omega
  live := fun j p hj => by
    simp only [Cx.take, S.get_add, S.get_del] at hj
    by_cases e : j = nw
    · subst e
      rw [if_pos rfl] at hj; injection hj with hj; subst hj
      exact ⟨.inl rfl, by simpa [Cx.take, upd] using ho⟩
    · rw [if_neg e] at hj
      by_cases e' : j = i
      · rw [if_pos e'] at hj; cases hj
      · rw [if_neg e'] at hj
        have h := hx.live j p hj
        refine ⟨.inr h.1, ?_⟩
        have h2 := h.2.mono (take_le (base := base) (o' := o') hx hn hi hw) (hw.keep _ fun h => e' (hx.inj j i p o hj hi h))
        simpa [Cx.take, upd, e] using h2
  inj := fun j k p q hj hk he => by
    simp only [Cx.take, S.get_add, S.get_del] at hj hk
    simp only [Cx.take, upd] at he
    by_cases e : j = nw <;> by_cases e' : k = nw
    · omega
    · rw [if_neg e'] at hk
      rw [if_pos e, if_neg e'] at he
      by_cases e'' : k = i
      · rw [if_pos e''] at hk; cases hk
      · rw [if_neg e''] at hk
        exact absurd (hx.inj i k o q hi hk he).symm e''
    · rw [if_neg e] at hj
      rw [if_neg e, if_pos e'] at he
      by_cases e'' : j = i
      · rw [if_pos e''] at hj; cases hj
      · rw [if_neg e''] at hj
        exact absurd (hx.inj j i p o hj hi he) e''
    · rw [if_neg e] at hj; rw [if_neg e'] at hk
      rw [if_neg e, if_neg e'] at he
      by_cases e1 : j = i
      · rw [if_pos e1] at hj; cases hj
      · by_cases e2 : k = i
        · rw [if_pos e2] at hk; cases hk
        · rw [if_neg e1] at hj; rw [if_neg e2] at hk
          exact hx.inj j k p q hj hk he
  room := fun b hb => by simpa [Cx.take, hw.size] using hx.room b hb
  apart := fun j p hj => by
    simp only [Cx.take, S.get_add, S.get_del, upd] at hj ⊢
    by_cases e : j = nw
    · rw [if_pos e]; exact hx.apart i o hi
    · rw [if_neg e] at hj ⊢
      by_cases e' : j = i
      · rw [if_pos e'] at hj; cases hj
      · rw [if_neg e'] at hj; exact hx.apart j p hj
end

/-! stores -/
theorem getElem?_setCell (w : World) (b o : Nat) (v : Value) {C : Array Value} {t : TypeId} {fr : Nat × Nat} (h : w.heap[b]? = some (.cells C t fr)) :
    (w.setCell ⟨b, o, none⟩ v).heap[b]? = some (.cells (C.setIfInBounds o v) t fr) := by
  simp [World.setCell, Array.getElem?_modify, h]

/-- A list of cells stored side by side. -/
theorem run_storeCells {P : Program} : ∀ (vs : List Value) (w : World) (b o : Nat) (i : Nat) (C : Array Value) (t : TypeId) (lo hi : Nat),
    w.heap[b]? = some (.cells C t (lo, hi)) → (∀ c ∈ vs, c.oneCell' = true) → (∀ k, k < vs.length → o + i + k < C.size ∧ ¬ (lo ≤ o + i + k ∧ o + i + k < hi)) →
    ∃ w' C', (storeCells ⟨b, o, none⟩ vs i).run P w = .ok () w' ∧ Wrote w w' b ∧ w'.heap[b]? = some (.cells C' t (lo, hi)) ∧ C'.size = C.size ∧
      ∀ j, C'[j]? = if o + i ≤ j ∧ j < o + i + vs.length then vs[j - (o + i)]? else C[j]?
  | [], w, b, o, i, C, t, lo, hi, h, _, _ => ⟨w, C, by simp [storeCells], .refl _ _, h, rfl, fun j => by simp; omega⟩
  | v :: vs, w, b, o, i, C, t, lo, hi, h, h1, h2 => by
    have hk := h2 0 (by simp)
    have ha : (⟨b, o, none⟩ : Addr).add i = ⟨b, o + i, none⟩ := by
      unfold Addr.add; split
      · subst_vars; rfl
      · rfl
    have hc : w.cell? ⟨b, o + i, none⟩ = some (C[o + i]'(by omega)) := by
      have hlt : o + i < C.size := by omega
      simp [World.cell?, h, Array.getElem?_eq_getElem hlt]
    have hf : w.frozen? ⟨b, o + i, none⟩ = false := by
      simp only [World.frozen?, h]
      simp only [Nat.add_zero] at hk
      rcases hk with ⟨_, hk⟩
      simp only [Bool.and_eq_false_iff, decide_eq_false_iff_not]
      omega
    have hw := wrote_setCell w ⟨b, o + i, none⟩ v
    have hb := getElem?_setCell w b (o + i) v h
    obtain ⟨w', C', hr, hw', hb', hs, hg⟩ := run_storeCells (P := P) vs (w.setCell ⟨b, o + i, none⟩ v) b o (i + 1) _ t lo hi hb
      (fun c hc => h1 c (List.mem_cons_of_mem _ hc)) (fun k hk => by
        have := h2 (k + 1) (by simpa using hk)
        simp only [Array.size_setIfInBounds]
        constructor
        · omega
        · have := this.2; omega)
    refine ⟨w', C', ?_, hw.trans hw', hb', by simpa using hs, fun j => ?_⟩
    · simp only [storeCells, Sem.run_bind, ha]
      rw [run_store P w _ v .plain (h1 v (by simp))]
      simp only [hc, hf, Bool.false_eq_true, if_false, Result.andThen_ok]
      exact hr
    · rw [hg j]
      by_cases e : j = o + i
      · subst e
        have hlt : o + i < C.size := by omega
        rw [if_neg (by omega), if_pos (by simp), Array.getElem?_setIfInBounds]
        simp [hlt]
      · rw [Array.getElem?_setIfInBounds]
        by_cases e2 : o + (i + 1) ≤ j ∧ j < o + (i + 1) + vs.length
        · rw [if_pos e2, if_pos (by simp only [List.length_cons]; omega)]
          have : j - (o + i) = (j - (o + (i + 1))) + 1 := by omega
          rw [this, List.getElem?_cons_succ]
        · have e3 : ¬ (o + i ≤ j ∧ j < o + i + (v :: vs).length) := by simp only [List.length_cons]; omega
          rw [if_neg e2, if_neg e3, if_neg (Ne.symm e)]

end Go.Proofs.YtejjnakhijgkaaaGreatDoor.Ai
