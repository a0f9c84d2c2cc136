/- Part of a reckoning of a Go program over abstract values, proved sound against the model. -/
import Derived.Test.YtejjnakhijgkaaaGreatDoorAiA4
import Derived.Below
import Derived.Laws.AppendOwn
namespace Go.Proofs.YtejjnakhijgkaaaGreatDoor.Ai
open Go.RowKit (Below)

structure Cx where
  w : World
  ρ : Nat → Nat × Nat
  K : Nat → Prop
  s : S
  B : Nat → Prop

def Cx.own (x : Cx) (b : Nat) : Prop := ∃ i o, x.s.get i = some o ∧ (x.ρ i).1 = b
def Cx.no (x : Cx) (b : Nat) : Prop := x.B b ∨ x.own b

def csize (w : World) (b : Nat) : Option Nat :=
  match w.heap[b]? with
  | some (.cells C _ _) => some C.size
  | _ => none

def held (x : Cx) (b o : Nat) (vs : List Value) : Prop :=
  b < x.w.heap.size ∧ ¬ x.no b ∧ ∀ j c, vs[j]? = some c → x.w.cell? ⟨b, o + j, none⟩ = some c

mutual
inductive Rep (x : Cx) : V → Value → Prop
  | bool (b : Bool) : Rep x (.bool b) (.bool b)
  | int (k : IntKind) (n : Int) : Rep x (.int k n) (.int k n)
  | str (s : ByteArray) : Rep x (.str s) (.string s)
  | nilp : Rep x .nilp (.pointer none)
  | ptr (id off : Nat) : x.K id → Rep x (.ptr id off) (.pointer (some ⟨(x.ρ id).1, (x.ρ id).2 + off, none⟩))
  | cptr {cs : List V} {vs : List Value} (b o off : Nat) : held x b o vs → RepL x cs vs → Rep x (.cptr cs off) (.pointer (some ⟨b, o + off, none⟩))
  | list {es : List V} {vs : List Value} (b o cap sz : Nat) : held x b o vs → RepL x (es.flatMap V.cells) vs → es.length ≤ cap → (∀ e ∈ es, e.cells.length = sz) → Rep x (.list es) (.slice (some ⟨b, o, none⟩) es.length cap)
  | lempty (a : Option Addr) (cap : Nat) : Rep x (.list []) (.slice a 0 cap)
  | nils : Rep x .nils (.slice none 0 0)
  | arr (id off len sz : Nat) (ag : Bool) (cp : Nat) (o cap n : Nat) : x.K id → (cap = 0 ∨ o = (x.ρ id).2 + off) → len ≤ cap → csize x.w (x.ρ id).1 = some n → (x.ρ id).2 + off + cap * sz ≤ n →
      (cp = 0 ∨ cp = cap + 1) → Rep x (.arr id off len sz ag cp) (.slice (some ⟨(x.ρ id).1, o, none⟩) len cap)
  | map (id : Nat) : x.K id → Rep x (.map id) (.map (some (x.ρ id).1))
  | nilm : Rep x .nilm (.map none)
  | yield (id : Nat) : x.K id → Rep x (.yield id) (.func (.yield (x.ρ id).1) #[] #[])
  | func (fn : Fn) {a b : List V} {A B : Array Value} : RepL x a A.toList → RepL x b B.toList → Rep x (.func fn a b) (.func fn A B)
  | nilf : Rep x .nilf .nilFunc
  | iface (t : TypeId) {v : V} {c : Value} : Rep x v c → Rep x (.iface t v) (.iface t c)
  | nili : Rep x .nili .nilIface
  | agg {cs : List V} {C : Array Value} : RepL x cs C.toList → Rep x (.agg cs) (.agg C)
  | tup {cs : List V} {C : Array Value} : RepL x cs C.toList → Rep x (.tup cs) (.tuple C)
inductive RepL (x : Cx) : List V → List Value → Prop
  | nil : RepL x [] []
  | cons {v : V} {c : Value} {l : List V} {m : List Value} : Rep x v c → RepL x l m → RepL x (v :: l) (c :: m)
end

structure Cx.le (x y : Cx) : Prop where
  B : y.B = x.B
  K : ∀ i, x.K i → y.K i ∧ y.ρ i = x.ρ i
  size : x.w.heap.size ≤ y.w.heap.size
  keep : ∀ b, b < x.w.heap.size → ¬ x.own b → y.w.heap[b]? = x.w.heap[b]?
  csz : ∀ b n, csize x.w b = some n → csize y.w b = some n
  own : ∀ b, b < x.w.heap.size → y.own b → x.own b
  os : y.w.os = x.w.os
  tape : y.w.tape = x.w.tape
  output : y.w.output = x.w.output

theorem Cx.le.refl (x : Cx) : x.le x := ⟨rfl, fun _ h => ⟨h, rfl⟩, Nat.le_refl _, fun _ _ _ => rfl, fun _ _ h => h, fun _ _ h => h, rfl, rfl, rfl⟩

theorem Cx.le.trans {x y z : Cx} (h : x.le y) (k : y.le z) : x.le z :=
  ⟨k.B.trans h.B, fun i hi => ⟨(k.K i (h.K i hi).1).1, ((k.K i (h.K i hi).1).2).trans (h.K i hi).2⟩, Nat.le_trans h.size k.size,
   fun b hb hn => (k.keep b (Nat.lt_of_lt_of_le hb h.size) (fun ho => hn (h.own b hb ho))).trans (h.keep b hb hn),
   fun b n hb => k.csz b n (h.csz b n hb), fun b hb ho => h.own b hb (k.own b (Nat.lt_of_lt_of_le hb h.size) ho),
   k.os.trans h.os, k.tape.trans h.tape, k.output.trans h.output⟩

theorem held.mono {x y : Cx} (h : x.le y) {b o : Nat} {vs : List Value} (hh : held x b o vs) : held y b o vs := by
  obtain ⟨h1, h2, h3⟩ := hh
  have hno : ¬ x.own b := fun hb => h2 (.inr hb)
  refine ⟨Nat.lt_of_lt_of_le h1 h.size, ?_, fun j c hj => ?_⟩
  · rintro (hb | hb)
    · rw [h.B] at hb; exact h2 (.inl hb)
    · exact hno (h.own b h1 hb)
  · rw [← h3 j c hj]
    exact World.cell?_of_block (w := x.w) (w' := y.w) (a := ⟨b, o + j, none⟩) (h.keep b h1 hno)

mutual
theorem Rep.mono {x y : Cx} (h : x.le y) {v : V} {c : Value} : Rep x v c → Rep y v c
  | .bool b => .bool b
  | .int k n => .int k n
  | .str s => .str s
  | .nilp => .nilp
  | .ptr id off hk => by
    have := Rep.ptr (x := y) id off (h.K id hk).1
    rw [(h.K id hk).2] at this; exact this
  | .cptr b o off hh hl => .cptr b o off (hh.mono h) (RepL.mono h hl)
  | .list b o cap sz hh hl hc he => .list b o cap sz (hh.mono h) (RepL.mono h hl) hc he
  | .lempty a cap => .lempty a cap
  | .nils => .nils
  | .arr id off len sz ag cp o cap n hk h1 h2 h3 h4 h5 => by
    have := Rep.arr (x := y) id off len sz ag cp o cap n (h.K id hk).1
    rw [(h.K id hk).2] at this
    exact this h1 h2 (h.csz _ _ h3) h4 h5
  | .map id hk => by
    have := Rep.map (x := y) id (h.K id hk).1
    rw [(h.K id hk).2] at this; exact this
  | .nilm => .nilm
  | .yield id hk => by
    have := Rep.yield (x := y) id (h.K id hk).1
    rw [(h.K id hk).2] at this; exact this
  | .func fn ha hb => .func fn (RepL.mono h ha) (RepL.mono h hb)
  | .nilf => .nilf
  | .iface t hv => .iface t (Rep.mono h hv)
  | .nili => .nili
  | .agg hl => .agg (RepL.mono h hl)
  | .tup hl => .tup (RepL.mono h hl)
theorem RepL.mono {x y : Cx} (h : x.le y) {l : List V} {m : List Value} : RepL x l m → RepL y l m
  | .nil => .nil
  | .cons hv hl => .cons (Rep.mono h hv) (RepL.mono h hl)
end

/-! lists -/
theorem RepL.length {x : Cx} : ∀ {l : List V} {m : List Value}, RepL x l m → l.length = m.length
  | _, _, .nil => rfl
  | _, _, .cons _ h => by simp [RepL.length h]

theorem RepL.get {x : Cx} : ∀ {l : List V} {m : List Value}, RepL x l m → ∀ (j : Nat) (v : V), l[j]? = some v → ∃ c, m[j]? = some c ∧ Rep x v c
  | _, _, .nil, j, v, h => by simp at h
  | _, _, .cons (c := c) hv hl, 0, v, h => by simp at h; subst h; exact ⟨c, by simp, hv⟩
  | _, _, .cons hv hl, j + 1, v, h => by simpa using RepL.get hl j v (by simpa using h)

theorem RepL.append {x : Cx} : ∀ {l : List V} {m : List Value} {l' : List V} {m' : List Value}, RepL x l m → RepL x l' m' → RepL x (l ++ l') (m ++ m')
  | _, _, _, _, .nil, h => h
  | _, _, _, _, .cons hv hl, h => .cons hv (RepL.append hl h)

theorem RepL.take {x : Cx} : ∀ (n : Nat) {l : List V} {m : List Value}, RepL x l m → RepL x (l.take n) (m.take n)
  | 0, _, _, _ => by simpa using .nil
  | _ + 1, _, _, .nil => by simpa using .nil
  | n + 1, _, _, .cons hv hl => by simpa using .cons hv (RepL.take n hl)

theorem RepL.drop {x : Cx} : ∀ (n : Nat) {l : List V} {m : List Value}, RepL x l m → RepL x (l.drop n) (m.drop n)
  | 0, _, _, h => by simpa using h
  | _ + 1, _, _, .nil => by simpa using .nil
  | n + 1, _, _, .cons _ hl => by simpa using RepL.drop n hl

theorem RepL.set {x : Cx} {v : V} {c : Value} (hv : Rep x v c) : ∀ (n : Nat) {l : List V} {m : List Value}, RepL x l m → RepL x (l.set n v) (m.set n c)
  | _, _, _, .nil => by simpa using .nil
  | 0, _, _, .cons _ hl => by simpa using .cons hv hl
  | n + 1, _, _, .cons h hl => by simpa using .cons h (RepL.set hv n hl)

theorem RepL.replicate {x : Cx} {v : V} {c : Value} (hv : Rep x v c) : ∀ n, RepL x (List.replicate n v) (List.replicate n c)
  | 0 => .nil
  | n + 1 => by simpa [List.replicate_succ] using .cons hv (RepL.replicate hv n)

theorem Rep.cells {x : Cx} {v : V} {c : Value} (h : Rep x v c) : RepL x v.cells c.cells.toList := by
  cases h with
  | agg hl => exact hl
  | bool b => exact .cons (.bool b) .nil
  | int k n => exact .cons (.int k n) .nil
  | str s => exact .cons (.str s) .nil
  | nilp => exact .cons .nilp .nil
  | ptr id off hk => exact .cons (.ptr id off hk) .nil
  | cptr b o off hh hl => exact .cons (.cptr b o off hh hl) .nil
  | list b o cap sz hh hl hc he => exact .cons (.list b o cap sz hh hl hc he) .nil
  | lempty a cap => exact .cons (.lempty a cap) .nil
  | nils => exact .cons .nils .nil
  | arr id off len sz ag cp o cap n hk h1 h2 h3 h4 h5 => exact .cons (.arr id off len sz ag cp o cap n hk h1 h2 h3 h4 h5) .nil
  | map id hk => exact .cons (.map id hk) .nil
  | nilm => exact .cons .nilm .nil
  | yield id hk => exact .cons (.yield id hk) .nil
  | func fn ha hb => exact .cons (.func fn ha hb) .nil
  | nilf => exact .cons .nilf .nil
  | iface t hv => exact .cons (.iface t hv) .nil
  | nili => exact .cons .nili .nil
  | tup hl => exact .cons (.tup hl) .nil

theorem Rep.one {x : Cx} {v : V} {c : Value} (h : Rep x v c) (hv : v.one = true) : c.oneCell' = true := by
  cases h <;> simp_all [V.one, Value.oneCell']

theorem RepL.ones {x : Cx} : ∀ {l : List V} {m : List Value}, RepL x l m → l.all V.one = true → ∀ c ∈ m, c.oneCell' = true
  | _, _, .nil, _, c, hc => by simp at hc
  | _, _, .cons hv hl, h, c, hc => by
    simp only [List.all_cons, Bool.and_eq_true] at h
    rcases List.mem_cons.1 hc with rfl | hc
    · exact hv.one h.1
    · exact RepL.ones hl h.2 c hc

/-! objects -/
def EntL (x : Cx) (es : List (V × V × Nat)) (E : List MapEntry) : Prop :=
  es.length = E.length ∧ ∀ (j : Nat) (e : V × V × Nat), es[j]? = some e → ∃ m : MapEntry, E[j]? = some m ∧ Rep x e.1 m.key ∧ Rep x e.2.1 m.val ∧ m.born = e.2.2

def ORep (x : Cx) (b base : Nat) : O → Prop
  | .cells cs frz ty ex => ∃ C lo hi vs, x.w.heap[b]? = some (.cells C ty (lo, hi)) ∧ RepL x cs vs ∧ (∀ j c, vs[j]? = some c → C[base + j]? = some c) ∧
      (∀ o, o < C.size → lo ≤ o → o < hi → o < base + frz) ∧ (ex = true → base = 0 ∧ C.size = cs.length)
  | .map es clock => ∃ E, x.w.heap[b]? = some (.map E clock) ∧ EntL x es E.toList
  | .iter none since seen last => base = 0 ∧ x.w.heap[b]? = some (.mapIter none since seen.toArray last)
  | .iter (some id) since seen last => base = 0 ∧ x.K id ∧ x.w.heap[b]? = some (.mapIter (some (x.ρ id).1) since seen.toArray last)
  | .siter s pos => base = 0 ∧ x.w.heap[b]? = some (.stringIter s pos)
  | .dblk up => base = 0 ∧ x.w.heap[b]? = some (.deferred (if up then some [] else none))
  | .loop st pd tm ps asg bd => base = 0 ∧ ∃ r : Loop, x.w.heap[b]? = some (.loop r) ∧ r.state = st ∧ r.pending = pd ∧ r.params = ps ∧ r.assign = asg ∧ r.body = bd ∧ RepL x tm r.tmps.toList

structure Rel (x : Cx) : Prop where
  lt : ∀ i, x.K i → i < x.s.next
  live : ∀ i o, x.s.get i = some o → x.K i ∧ ORep x (x.ρ i).1 (x.ρ i).2 o
  inj : ∀ i j o p, x.s.get i = some o → x.s.get j = some p → (x.ρ i).1 = (x.ρ j).1 → i = j
  room : ∀ b, x.B b → b < x.w.heap.size
  apart : ∀ i o, x.s.get i = some o → ¬ x.B (x.ρ i).1

theorem EntL.mono {x y : Cx} (h : x.le y) {es : List (V × V × Nat)} {E : List MapEntry} (he : EntL x es E) : EntL y es E :=
  ⟨he.1, fun j e hj => let ⟨m, hm, h1, h2, h3⟩ := he.2 j e hj; ⟨m, hm, h1.mono h, h2.mono h, h3⟩⟩

theorem ORep.mono {x y : Cx} (h : x.le y) {b base : Nat} {o : O} (hb : y.w.heap[b]? = x.w.heap[b]?) (ho : ORep x b base o) : ORep y b base o := by
  cases o with
  | cells cs frz ty ex =>
    obtain ⟨C, lo, hi, vs, h1, h2, h3, h4, h5⟩ := ho
    exact ⟨C, lo, hi, vs, hb.trans h1, h2.mono h, h3, h4, h5⟩
  | map es clock =>
    obtain ⟨E, h1, h2⟩ := ho
    exact ⟨E, hb.trans h1, h2.mono h⟩
  | iter m since seen last =>
    cases m with
    | none => exact ⟨ho.1, hb.trans ho.2⟩
    | some id => exact ⟨ho.1, (h.K id ho.2.1).1, by rw [(h.K id ho.2.1).2]; exact hb.trans ho.2.2⟩
  | siter s pos => exact ⟨ho.1, hb.trans ho.2⟩
  | dblk up => exact ⟨ho.1, hb.trans ho.2⟩
  | loop st pd tm ps asg bd =>
    obtain ⟨h0, r, h1, h2, h3, h4, h5, h6, h7⟩ := ho
    exact ⟨h0, r, hb.trans h1, h2, h3, h4, h5, h6, h7.mono h⟩

theorem ORep.lt {x : Cx} {b base : Nat} {o : O} (ho : ORep x b base o) : b < x.w.heap.size := by
  have : x.w.heap[b]? ≠ none := by
    cases o with
    | cells cs frz ty ex => obtain ⟨C, lo, hi, vs, h1, _⟩ := ho; rw [h1]; simp
    | map es clock => obtain ⟨E, h1, _⟩ := ho; rw [h1]; simp
    | iter m since seen last =>
      cases m with
      | none => rw [ho.2]; simp
      | some id => rw [ho.2.2]; simp
    | siter s pos => rw [ho.2]; simp
    | dblk up => rw [ho.2]; simp
    | loop st pd tm ps asg bd => obtain ⟨_, r, h1, _⟩ := ho; rw [h1]; simp
  exact Decidable.not_not.1 fun hn => this (Array.getElem?_eq_none (by omega))

theorem Rel.own_lt {x : Cx} (h : Rel x) {b : Nat} (hb : x.own b) : b < x.w.heap.size := by
  obtain ⟨i, o, hi, rfl⟩ := hb
  exact (h.live i o hi).2.lt

/-- The world changed by draws alone. -/
theorem le_drew {x : Cx} {w' : World} (hh : w'.heap = x.w.heap) (ho : w'.os = x.w.os) (ht : w'.tape = x.w.tape) (hu : w'.output = x.w.output) : x.le { x with w := w' } where
  B := rfl
  K := fun _ h => ⟨h, rfl⟩
  size := by simp [hh]
  keep := fun b _ _ => by simp [hh]
  csz := fun b n h => by simpa [csize, hh] using h
  own := fun b _ h => h
  os := ho
  tape := ht
  output := hu

theorem Rel.drew {x : Cx} {w' : World} (h : Rel x) (hh : w'.heap = x.w.heap) (ho : w'.os = x.w.os) (ht : w'.tape = x.w.tape) (hu : w'.output = x.w.output) : Rel { x with w := w' } where
  lt := h.lt
  live := fun i o hi => ⟨(h.live i o hi).1, (h.live i o hi).2.mono (le_drew hh ho ht hu) (by simp [hh])⟩
  inj := h.inj
  room := fun b hb => by simpa [hh] using h.room b hb
  apart := h.apart

end Go.Proofs.YtejjnakhijgkaaaGreatDoor.Ai
