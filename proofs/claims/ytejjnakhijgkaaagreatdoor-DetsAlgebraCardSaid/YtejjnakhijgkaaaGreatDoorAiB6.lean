/- Part of a reckoning of a Go program over abstract values, proved sound against the model. -/
import Derived.Test.YtejjnakhijgkaaaGreatDoorAiB5
namespace Go.Proofs.YtejjnakhijgkaaaGreatDoor.Ai
open Go.RowKit (Below)

/-! fields -/
theorem fieldOf_ok {P : Program} {cfg : Cfg} (hc : cfg.Ok P) {t : TypeId} {f off sz : Nat} {ag : Bool} (h : fieldOf cfg t f = some (off, sz, ag)) :
    ∃ fs fd b, P.underlying t = some (.struct fs) ∧ fs[f]? = some fd ∧ TyOk P fd.type b ∧ off = fd.offset ∧ sz = b.size ∧ ag = isAggD b.und := by
  unfold fieldOf at h
  simp only [Option.bind_eq_bind, Option.bind_eq_some_iff] at h
  obtain ⟨a, ha, h⟩ := h
  split at h
  · rename_i fs e
    simp only [Option.bind_eq_some_iff] at h
    obtain ⟨fd, hfd, b, hb, h⟩ := h
    simp only [Option.some.injEq, Prod.mk.injEq] at h
    exact ⟨fs, fd, b, by rw [(hc.ty _ _ ha).und, e], hfd, hc.ty _ _ hb, h.1.symm, h.2.1.symm, h.2.2.symm⟩
  · cases h

theorem aFieldAddr_ok {P : Program} {cfg : Cfg} (hc : cfg.Ok P) {x : Cx} {t : TypeId} {p v : V} {cp : Value} {f : Nat} (hp : Rep x p cp) (h : aFieldAddr cfg t p f = some v) (w : World) :
    ∃ c, (Instr.fieldAt t cp f).run P w = .ok c w ∧ Rep x v c := by
  unfold aFieldAddr at h
  simp only [Option.bind_eq_bind, Option.bind_eq_some_iff] at h
  obtain ⟨⟨off, sz, ag⟩, hf, h⟩ := h
  obtain ⟨fs, fd, b, h1, h2, h3, rfl, rfl, rfl⟩ := fieldOf_ok hc hf
  simp only at h
  split at h
  · cases h
  · rename_i hsz
    have hrun : ∀ ad : Addr, (Instr.fieldAt t (.pointer (some ad)) f).run P w = .ok (.pointer (some (ad.add fd.offset))) w := by
      intro ad
      simp [Instr.fieldAt, run_underlying h1, h2, Instr.sureAddr, fieldPlace, h3.run_size, hsz]
    split at h
    · cases hp; injection h with h; subst h
      rename_i hk
      refine ⟨_, hrun _, ?_⟩
      rw [add_lit', Nat.add_assoc]
      exact .ptr _ _ hk
    · injection h with h; subst h
      cases hp with
      | cptr bb o _ hh hl =>
        refine ⟨_, hrun _, ?_⟩
        rw [add_lit', Nat.add_assoc]
        exact .cptr _ _ _ hh hl
    · cases h

theorem sub_part {P : Program} {x : Cx} {cs : List V} {C : Array Value} (hl : RepL x cs C.toList) {t : TypeId} {b : ATy} (ht : TyOk P t b) {off : Nat} {v : V} (h : sub cs off b.size (isAggD b.und) = some v) (w : World) :
    ∃ c, (part t C off).run P w = .ok c w ∧ Rep x v c := by
  unfold sub at h
  split at h
  · rename_i hag
    split at h
    · injection h with h; subst h
      refine ⟨.agg (C.extract off (off + b.size)), by simp [part, ht.run_agg, hag, ht.run_size], .agg ?_⟩
      have := (hl.drop off).take b.size
      rw [Array.toList_extract]
      simpa [List.extract_eq_take_drop] using this
    · cases h
  · rename_i hag
    obtain ⟨c, hc1, hc2⟩ := hl.get _ _ h
    rw [Array.getElem?_toList] at hc1
    exact ⟨c, by simp [part, ht.run_agg, hag, hc1], hc2⟩

theorem aField_ok {P : Program} {cfg : Cfg} (hc : cfg.Ok P) {x : Cx} {t : TypeId} {p v : V} {cp : Value} {f : Nat} (hp : Rep x p cp) (h : aField cfg t p f = some v) (w : World) :
    ∃ c, (Instr.field t cp f).run P w = .ok c w ∧ Rep x v c := by
  unfold aField at h
  simp only [Option.bind_eq_bind, Option.bind_eq_some_iff] at h
  obtain ⟨⟨off, sz, ag⟩, hf, h⟩ := h
  obtain ⟨fs, fd, b, h1, h2, h3, rfl, rfl, rfl⟩ := fieldOf_ok hc hf
  simp only at h
  split at h
  · cases hp with
    | agg hl =>
      obtain ⟨c, hr, hv⟩ := sub_part hl h3 h w
      exact ⟨c, by simp [Instr.field, run_underlying h1, h2, asAgg, hr], hv⟩
  · cases h

/-! elements -/
theorem asInt_rep {x : Cx} {i : V} {ci : Value} (hi : Rep x i ci) {n : Int} (h : asInt i = some n) : ∃ k, ci = .int k n := by
  unfold asInt at h
  split at h
  · cases hi; injection h with h; subst h; exact ⟨_, rfl⟩
  · cases h

theorem flat_get {es : List V} {n : Nat} (hsz : ∀ e ∈ es, e.cells.length = n) : ∀ (j : Nat) (v : V), es[j]? = some v → (es.flatMap V.cells).drop (j * n) = v.cells ++ ((es.drop (j + 1)).flatMap V.cells) := by
  induction es with
  | nil => intro j v h; simp at h
  | cons e es ih =>
    intro j v h
    cases j with
    | zero => simp at h; subst h; simp
    | succ j =>
      have h1 := hsz e (by simp)
      have := ih (fun e he => hsz e (List.mem_cons_of_mem _ he)) j v (by simpa using h)
      rw [List.flatMap_cons, List.drop_append, List.drop_eq_nil_of_le (by rw [h1, Nat.add_mul]; omega), List.nil_append, show (j + 1) * n - e.cells.length = j * n by rw [h1, Nat.add_mul]; omega, this]
      simp

theorem flat_len {es : List V} {n : Nat} (hsz : ∀ e ∈ es, e.cells.length = n) : (es.flatMap V.cells).length = es.length * n := by
  induction es with
  | nil => simp
  | cons e es ih =>
    rw [List.flatMap_cons, List.length_append, ih (fun e he => hsz e (List.mem_cons_of_mem _ he)), hsz e (by simp), List.length_cons, Nat.add_mul]
    omega

theorem held.drop {x : Cx} {b o : Nat} {vs : List Value} (h : held x b o vs) (n : Nat) : held x b (o + n) (vs.drop n) := ⟨h.1, h.2.1, h.at.drop n⟩
theorem held.take {x : Cx} {b o : Nat} {vs : List Value} (h : held x b o vs) (n : Nat) : held x b o (vs.take n) := ⟨h.1, h.2.1, h.at.take n⟩

theorem aIndexAddr_ok {P : Program} {cfg : Cfg} (hc : cfg.Ok P) {x : Cx} {t : TypeId} {p i v : V} {cp ci : Value} (hp : Rep x p cp) (hi : Rep x i ci) (h : aIndexAddr cfg t p i = some v) (w : World) :
    ∃ c, (Instr.indexAt t cp ci).run P w = .ok c w ∧ Rep x v c := by
  unfold aIndexAddr at h
  simp only [Option.bind_eq_bind, Option.bind_eq_some_iff] at h
  obtain ⟨a, hta, n, hn, h⟩ := h
  have ht := hc.ty _ _ hta
  obtain ⟨k, rfl⟩ := asInt_rep hi hn
  have hu := ht.und
  split at h
  · rename_i e id off len sz ag cp' he
    rw [he] at hu
    simp only [Option.bind_eq_some_iff] at h
    obtain ⟨b, hb, h⟩ := h
    split at h
    · rename_i hcond
      obtain ⟨rfl, h0, h1⟩ := hcond
      injection h with h; subst h
      have hb' := hc.ty _ _ hb
      cases hp with
      | arr _ _ _ _ _ _ o cap m hk hoff hlc hcs hroom hcp =>
        have ho : o = (x.ρ id).2 + off := by
          rcases hoff with rfl | ho
          · omega
          · exact ho
        subst ho
        refine ⟨.pointer (some ⟨(x.ρ id).1, (x.ρ id).2 + (off + n.toNat * b.size), none⟩), ?_, .ptr id _ hk⟩
        have hlt : n < (len : Int) := h1
        simp [Instr.indexAt, run_underlying hu, asIntOf, h0, hlt, hb'.run_size, add_lit', Nat.add_assoc]
    · cases h
  · rename_i e es he
    rw [he] at hu
    simp only [Option.bind_eq_some_iff] at h
    obtain ⟨b, hb, h⟩ := h
    have hb' := hc.ty _ _ hb
    split at h
    · rename_i h0
      split at h
      · rename_i u hget
        split at h
        · rename_i hlen
          injection h with h; subst h
          have hlt : n.toNat < es.length := (List.getElem?_eq_some_iff.1 hget).1
          cases hp with
          | lempty => simp at hlt
          | list bb o cap sz hh hl hcap heven =>
            have hsz : sz = b.size := by rw [← hlen]; exact (heven u (List.mem_of_getElem? hget)).symm
            subst hsz
            have hfl := flat_get heven n.toNat u hget
            have hl2 := hl.drop (n.toNat * b.size)
            rw [hfl] at hl2
            have hl3 := hl2.take u.cells.length
            rw [List.take_left'] at hl3
            · refine ⟨.pointer (some ⟨bb, o + n.toNat * b.size, none⟩), ?_, ?_⟩
              · have hlt' : n < (es.length : Int) := by omega
                simp [Instr.indexAt, run_underlying hu, asIntOf, h0, hlt', hb'.run_size, add_lit']
              · exact .cptr bb (o + n.toNat * b.size) 0 ((hh.drop _).take _) hl3
            · rfl
        · cases h
      · cases h
    · cases h
  · rename_i len e id off he
    rw [he] at hu
    simp only [Option.bind_eq_some_iff] at h
    obtain ⟨b, hb, h⟩ := h
    have hb' := hc.ty _ _ hb
    split at h
    · rename_i hcond
      obtain ⟨h0, h1⟩ := hcond
      injection h with h; subst h
      cases hp with
      | ptr _ _ hk =>
        refine ⟨.pointer (some ⟨(x.ρ id).1, (x.ρ id).2 + (off + n.toNat * b.size), none⟩), ?_, .ptr id _ hk⟩
        simp [Instr.indexAt, run_underlying hu, asIntOf, h0, h1, hb'.run_size, add_lit', Nat.add_assoc, Instr.sureAddr]
    · cases h
  · rename_i len e cs off he
    rw [he] at hu
    simp only [Option.bind_eq_some_iff] at h
    obtain ⟨b, hb, h⟩ := h
    have hb' := hc.ty _ _ hb
    split at h
    · rename_i hcond
      obtain ⟨h0, h1⟩ := hcond
      injection h with h; subst h
      cases hp with
      | cptr bb o _ hh hl =>
        refine ⟨.pointer (some ⟨bb, o + (off + n.toNat * b.size), none⟩), ?_, .cptr bb o _ hh hl⟩
        simp [Instr.indexAt, run_underlying hu, asIntOf, h0, h1, hb'.run_size, add_lit', Nat.add_assoc, Instr.sureAddr]
    · cases h
  · cases h

theorem aIndex_ok {P : Program} {cfg : Cfg} (hc : cfg.Ok P) {x : Cx} {t : TypeId} {p i v : V} {cp ci : Value} (hp : Rep x p cp) (hi : Rep x i ci) (h : aIndex cfg t p i = some v) (w : World) :
    ∃ c, (Instr.index t cp ci).run P w = .ok c w ∧ Rep x v c := by
  unfold aIndex at h
  simp only [Option.bind_eq_bind, Option.bind_eq_some_iff] at h
  obtain ⟨a, hta, n, hn, h⟩ := h
  have ht := hc.ty _ _ hta
  obtain ⟨k, rfl⟩ := asInt_rep hi hn
  have hu := ht.und
  split at h
  · rename_i len e cs he
    rw [he] at hu
    simp only [Option.bind_eq_some_iff] at h
    obtain ⟨b, hb, h⟩ := h
    have hb' := hc.ty _ _ hb
    split at h
    · rename_i hcond
      cases hp with
      | agg hl =>
        obtain ⟨c, hr, hv⟩ := sub_part hl hb' h w
        exact ⟨c, by simp [Instr.index, run_underlying hu, asIntOf, hcond.1, hcond.2, hb'.run_size, hr], hv⟩
    · cases h
  · rename_i s he
    rw [he] at hu
    split at h
    · rename_i h0
      simp only [Option.map_eq_some_iff] at h
      obtain ⟨b, hb, rfl⟩ := h
      cases hp
      exact ⟨_, by simp [Instr.index, run_underlying hu, asIntOf, h0, hb], .int _ _⟩
    · cases h
  · cases h

/-- All elements are of one size. -/
def evenB (n : Nat) (es : List V) : Bool := es.all fun e => e.cells.length == n

end Go.Proofs.YtejjnakhijgkaaaGreatDoor.Ai
