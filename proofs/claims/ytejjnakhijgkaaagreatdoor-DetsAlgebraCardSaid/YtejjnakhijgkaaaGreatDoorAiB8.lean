/- Part of a reckoning of a Go program over abstract values, proved sound against the model. -/
import Derived.Test.YtejjnakhijgkaaaGreatDoorAiB7
namespace Go.Proofs.YtejjnakhijgkaaaGreatDoor.Ai
open Go.RowKit (Below)

/-! building -/
theorem foldl_set : ∀ (vs : List Value) (k off : Nat) (C : Array Value), off + k + vs.length ≤ C.size →
    ((vs.zipIdx k).foldl (fun cs (p : Value × Nat) => cs.setIfInBounds (off + p.2) p.1) C).toList = C.toList.take (off + k) ++ vs ++ C.toList.drop (off + k + vs.length)
  | [], k, off, C, h => by simp
  | v :: vs, k, off, C, h => by
    simp only [List.length_cons] at h
    rw [List.zipIdx_cons, List.foldl_cons, foldl_set vs (k + 1) off _ (by simp; omega)]
    simp only [Array.toList_setIfInBounds, List.length_cons]
    have hlen : off + k < C.toList.length := by rw [Array.length_toList]; omega
    rw [show off + (k + 1) = (off + k) + 1 by omega, List.take_succ_eq_append_getElem (by simpa using hlen), List.take_set_of_le (Nat.le_refl _), List.drop_set_of_lt (by omega)]
    simp only [List.getElem_set_self, List.append_assoc, List.singleton_append, List.cons_append, List.nil_append]
    rw [show off + k + 1 + vs.length = off + k + (vs.length + 1) by omega]

theorem fold_splice {x : Cx} {cs us : List V} {C : Array Value} {c : Value} (hl : RepL x cs C.toList) {v : V} (hu : Rep x v c) {off : Nat} (hle : off + v.cells.length ≤ cs.length) (he : us = v.cells) :
    RepL x (splice cs off us) (c.cells.zipIdx.foldl (fun cs (p : Value × Nat) => cs.setIfInBounds (off + p.2) p.1) C).toList := by
  subst he
  have hc := hu.cells
  have h1 := hl.length
  have h2 := hc.length
  simp only [Array.length_toList] at h1 h2
  rw [← Array.foldl_toList, Array.toList_zipIdx]
  have := foldl_set c.cells.toList 0 off C (by simp only [Array.length_toList]; omega)
  simp only [Nat.add_zero] at this
  rw [this]
  exact splice_rep hl hc

inductive PartsL (x : Cx) : List (Nat × V) → List (Nat × Value) → Prop
  | nil : PartsL x [] []
  | cons {i : Nat} {v : V} {c : Value} {l : List (Nat × V)} {m : List (Nat × Value)} : Rep x v c → PartsL x l m → PartsL x ((i, v) :: l) ((i, c) :: m)

theorem evParts_rep {P : Program} {cfg : Cfg} {x : Cx} (hg : GOk cfg x) {tmps : List V} {a : Act} (ht : RepL x tmps a.tmps.toList) : ∀ {ps : List (Nat × Operand)} {vs : List (Nat × V)}, evParts cfg tmps ps = some vs →
    PartsL x vs (ps.map fun p => (p.1, a.eval p.2))
  | [], vs, h => by simp [evParts] at h; subst h; exact .nil
  | (i, o) :: os, vs, h => by
    simp only [evParts] at h
    split at h
    · rename_i v r h1 h2
      injection h with h; subst h
      exact .cons (ev_rep (P := P) hg ht h1) (evParts_rep (P := P) hg ht h2)
    · cases h

theorem fill_ok {x : Cx} {place : Nat → Option (Nat × Nat)} : ∀ {ps : List (Nat × V)} {qs : List (Nat × Value)} {cs cs' : List V} {C : Array Value}, PartsL x ps qs → RepL x cs C.toList → fillV place cs ps = some cs' →
    ∃ C', Instr.fill place C qs = some C' ∧ RepL x cs' C'.toList
  | _, _, cs, cs', C, .nil, hl, h => by simp [fillV] at h; subst h; exact ⟨C, rfl, hl⟩
  | _, _, cs, cs', C, .cons (i := i) (v := v) (c := c) hv hp, hl, h => by
    simp only [fillV] at h
    split at h
    · cases h
    · rename_i off size hpl
      split at h
      · cases h
      · rename_i hcond
        have hcond' : v.cells.length = size ∧ off + v.cells.length ≤ cs.length := by
          constructor
          · exact Decidable.not_not.1 fun hn => hcond (.inl hn)
          · exact Nat.le_of_not_lt fun hn => hcond (.inr hn)
        have hlen := hl.length
        have hc := hv.cells.length
        simp only [Array.length_toList] at hlen hc
        obtain ⟨C', h1, h2⟩ := fill_ok hp (fold_splice hl hv hcond'.2 rfl) h
        refine ⟨C', ?_, h2⟩
        simp only [Instr.fill, hpl]
        have e1 : ¬ (c.cells.size ≠ size) := by omega
        have e2 : ¬ (off + c.cells.size > C.size) := by omega
        simp only [e1, e2, decide_false, Bool.or_false, Bool.false_eq_true, if_false]
        exact h1

theorem placesOf_run {P : Program} {cfg : Cfg} (hc : cfg.Ok P) (w : World) : ∀ {fs : List Field} {ps : List (Nat × Nat)}, placesOf cfg fs = some ps →
    (fs.mapM fun f => (do pure (f.offset, ← sizeOf f.type) : Sem (Nat × Nat))).run P w = .ok ps w
  | [], ps, h => by simp [placesOf] at h; subst h; simp
  | f :: fs, ps, h => by
    simp only [placesOf] at h
    split at h
    · rename_i b r hb hr
      injection h with h; subst h
      have ih := placesOf_run hc w hr
      have hb' := hc.ty _ _ hb
      rw [List.mapM_cons]
      simp only [Sem.run_bind, hb'.run_size, Result.andThen_ok, Sem.run_pure, ih]
    · cases h

theorem aBuild_ok {P : Program} {cfg : Cfg} (hc : cfg.Ok P) {x : Cx} {t : TypeId} {ps : List (Nat × V)} {qs : Array (Nat × Value)} (hp : PartsL x ps qs.toList) {v : V} (h : aBuild cfg t ps = some v) (w : World) :
    ∃ c, (Instr.build t qs).run P w = .ok c w ∧ Rep x v c := by
  unfold aBuild at h
  simp only [Option.bind_eq_bind, Option.bind_eq_some_iff] at h
  obtain ⟨a, hta, h⟩ := h
  have ht := hc.ty _ _ hta
  have hu := ht.und
  obtain ⟨z, hz, hzr, hzs⟩ := ht.run_zero w
  split at h
  · rename_i fs e
    rw [e] at hu
    simp only [Option.bind_eq_some_iff] at h
    obtain ⟨pl, hpl, cs, hcs, h⟩ := h
    injection h with h; subst h
    obtain ⟨C', h1, h2⟩ := fill_ok hp (hzr x).cells hcs
    have hr := placesOf_run hc w hpl
    refine ⟨.agg C', ?_, .agg h2⟩
    have hr' : (fs.mapM fun f => (do pure (f.offset, ← sizeOf f.type) : Sem (Nat × Nat))).run P w = .ok pl.toArray w := by
      rw [Array.mapM_eq_mapM_toList]
      simp only [Sem.run_map, hr, Result.andThen_ok]
    have hpl2 : (fun i : Nat => pl.toArray[i]?) = (fun i : Nat => pl[i]?) := by funext i; simp
    simp only [Instr.build, Sem.run_bind, hz, Result.andThen_ok, run_underlying hu, hr', hpl2, h1, Sem.run_pure]
  · rename_i n e' e
    rw [e] at hu
    simp only [Option.bind_eq_some_iff] at h
    obtain ⟨b, hb, cs, hcs, h⟩ := h
    injection h with h; subst h
    have hb' := hc.ty _ _ hb
    obtain ⟨C', h1, h2⟩ := fill_ok hp (hzr x).cells hcs
    refine ⟨.agg C', ?_, .agg h2⟩
    simp only [Instr.build, Sem.run_bind, hz, Result.andThen_ok, run_underlying hu, hb'.run_size, h1, Sem.run_pure]
  · cases h

/-! rows of zeros -/
theorem zerosV_len (z : List V) : ∀ n, (zerosV z n).length = n * z.length
  | 0 => by simp [zerosV]
  | n + 1 => by rw [zerosV, List.length_append, zerosV_len z n, Nat.add_mul]; omega

theorem zerosV_get (z : List V) (hz : z ≠ []) : ∀ (n j : Nat), j < n * z.length → (zerosV z n)[j]? = z[j % z.length]?
  | 0, j, h => by simp at h
  | n + 1, j, h => by
    have hpos : 0 < z.length := List.length_pos_iff.2 hz
    rw [zerosV]
    by_cases hj : j < z.length
    · rw [List.getElem?_append_left hj, Nat.mod_eq_of_lt hj]
    · rw [Nat.add_mul, Nat.one_mul] at h
      rw [List.getElem?_append_right (by omega), zerosV_get z hz n _ (by omega)]
      congr 1
      exact (Nat.mod_eq_sub_mod (by omega)).symm

theorem zeros_rep {x : Cx} {zv : V} {z : Value} (hz : Rep x zv z) (n m : Nat) (hsz : z.cells.size ≠ 0) (hm : n * z.cells.size ≤ m) :
    ∃ vs, RepL x (zerosV zv.cells n) vs ∧ (∀ (j : Nat) (c : Value), vs[j]? = some c → (madeCells z.cells m)[j]? = some c) := by
  have hl := hz.cells
  have hlen := hl.length
  simp only [Array.length_toList] at hlen
  have hne : zv.cells ≠ [] := by intro e; rw [e] at hlen; simp at hlen; omega
  refine ⟨(madeCells z.cells m).toList.take (n * z.cells.size), ?_, fun j c hj => ?_⟩
  · refine RepL.of_get ?_ fun j v hj => ?_
    · rw [zerosV_len, hlen, List.length_take, Array.length_toList, size_madeCells]; omega
    · have hjl : j < n * z.cells.size := by
        have := (List.getElem?_eq_some_iff.1 hj).1
        rwa [zerosV_len, hlen] at this
      rw [zerosV_get _ hne n j (by rw [hlen]; exact hjl), hlen] at hj
      obtain ⟨c, hc1, hc2⟩ := hl.get _ _ hj
      refine ⟨c, ?_, hc2⟩
      rw [List.getElem?_take, if_pos hjl, Array.getElem?_toList]
      rw [Array.getElem?_toList] at hc1
      have hmod : j % z.cells.size < z.cells.size := Nat.mod_lt _ (by omega)
      have hjm : j < m := by omega
      rw [Array.getElem?_eq_getElem hmod] at hc1
      simp [madeCells, hjm, hmod] at hc1 ⊢
      exact hc1
  · rw [List.getElem?_take] at hj
    split at hj
    · rw [Array.getElem?_toList] at hj; exact hj
    · cases hj

theorem csize_alloc (w : World) (C : Array Value) (t : TypeId) : csize (w.alloc (.cells C t)) w.heap.size = some C.size := by
  simp only [csize, heap_alloc_self]

theorem aBuildSlice_ok {P : Program} {cfg : Cfg} (hc : cfg.Ok P) {x : Cx} (hx : Rel x) {nw : Nat} (hn : ¬ x.K nw) {t : TypeId} {n : Nat} {ps : List (Nat × V)} {qs : Array (Nat × Value)} (hp : PartsL x ps qs.toList) {v : V} {s' : S}
    (h : aBuildSlice cfg nw x.s t n ps = some (v, s')) :
    ∃ y c, (Instr.buildSlice t n qs).run P x.w = .ok c y.w ∧ x.le y ∧ Rel y ∧ y.s = s' ∧ Rep y v c ∧ (∀ i, y.K i → i = nw ∨ x.K i) := by
  unfold aBuildSlice at h
  simp only [Option.bind_eq_bind, Option.bind_eq_some_iff] at h
  obtain ⟨a, hta, h⟩ := h
  have ht := hc.ty _ _ hta
  have hu := ht.und
  split at h
  · rename_i e he
    rw [he] at hu
    simp only [Option.bind_eq_some_iff] at h
    obtain ⟨b, hb, h⟩ := h
    have htb := hc.ty _ _ hb
    split at h
    · cases h
    · rename_i hcond
      have h1 : b.size ≠ 0 := fun e => hcond (.inl e)
      have h2 : ¬ (16777216 < n * b.size) := fun e => hcond (.inr e)
      simp only [Option.bind_eq_some_iff] at h
      obtain ⟨cs, hcs, h⟩ := h
      split at h
      · rename_i hone
        injection h with h
        injection h with ha hb2
        subst ha hb2
        obtain ⟨z, hz, hzr, hzs⟩ := htb.run_zero x.w
        obtain ⟨vs, hvs1, hvs2⟩ := zeros_rep (hzr x) n (n * b.size) (by omega) (by rw [hzs]; omega)
        have hzl : RepL x (zerosV b.zero.cells n) (madeCells z.cells (n * b.size)).toList := by
          have hlz := hvs1.length
          rw [zerosV_len] at hlz
          have hzc := (hzr x).cells.length
          simp only [Array.length_toList] at hzc
          rw [hzc, hzs] at hlz
          have : vs = (madeCells z.cells (n * b.size)).toList := by
            apply List.ext_getElem?
            intro j
            by_cases hj : j < vs.length
            · rw [List.getElem?_eq_getElem hj, Array.getElem?_toList]
              exact (hvs2 j _ (List.getElem?_eq_getElem hj)).symm
            · rw [List.getElem?_eq_none (by omega), List.getElem?_eq_none (by rw [Array.length_toList, size_madeCells]; omega)]
          rw [← this]; exact hvs1
        obtain ⟨C', hf1, hf2⟩ := fill_ok hp hzl hcs
        have hlen := hf2.length
        simp only [Array.length_toList] at hlen
        have hCs : C'.size = n * b.size := by
          have : cs.length = (zerosV b.zero.cells n).length := by
            clear hf1 hf2 hone hlen
            have : ∀ (ps : List (Nat × V)) (c0 cs : List V), fillV (fun i => some (i * b.size, b.size)) c0 ps = some cs → cs.length = c0.length := by
              intro ps
              induction ps with
              | nil => intro c0 cs h; simp [fillV] at h; rw [h]
              | cons p ps ih =>
                intro c0 cs h
                obtain ⟨i, u⟩ := p
                simp only [fillV] at h
                split at h
                · cases h
                · rename_i hcond
                  rw [ih _ _ h]
                  simp only [splice, List.length_append, List.length_take, List.length_drop]
                  have : ¬ (i * b.size + u.cells.length > c0.length) := fun e => hcond (.inr e)
                  omega
            exact this _ _ _ hcs
          have hzc := (hzr x).cells.length
          simp only [Array.length_toList] at hzc
          rw [← hlen, this, zerosV_len, hzc, hzs]
        obtain ⟨hle, hrel, hk, hrho⟩ := alloc_cells (C := C') (ty := e) (ex := true) hx hn hf2 (fun j c hj => by simpa [Array.getElem?_toList] using hj) (fun _ => hlen.symm)
        refine ⟨_, .slice (some ⟨x.w.heap.size, 0, none⟩) n n, ?_, hle, hrel, rfl, ?_, fun i hi => hi⟩
        · have hgt : ¬ (n * b.size > 2 ^ 24) := by omega
          simp only [Instr.buildSlice, Sem.run_bind, run_underlying hu, Result.andThen_ok, htb.run_size, hgt, if_false]
          by_cases h0 : n * b.size = 0
          · have e0 : ((Array.range 0).map fun x => (#[] : Array Value)[x % (#[] : Array Value).size]!) = madeCells z.cells 0 := by simp [madeCells]
            rw [h0] at hf1
            simp only [h0, if_true, Sem.run_bind, Sem.run_pure, Result.andThen_ok, e0, hf1, newRow, run_newObj]
            rfl
          · have e0 : ((Array.range (n * b.size)).map fun x => z.cells[x % z.cells.size]!) = madeCells z.cells (n * b.size) := rfl
            simp only [h0, if_false, Sem.run_bind, hz, Sem.run_pure, Result.andThen_ok, e0, hf1, newRow, run_newObj]
            rfl
        · have := Rep.arr (x := x.alloc nw (.cells cs 0 e true) (.cells C' e)) nw 0 n b.size (isAggD b.und) (n + 1) 0 n C'.size hk (.inr (by rw [hrho])) (Nat.le_refl _) (by rw [hrho]; exact csize_alloc _ _ _) (by rw [hrho, hCs]; omega) (.inr rfl)
          rw [hrho] at this
          exact this
      · cases h
  · cases h

theorem aMakeSlice_ok {P : Program} {cfg : Cfg} (hc : cfg.Ok P) {x : Cx} (hx : Rel x) {nw : Nat} (hn : ¬ x.K nw) {t : TypeId} {l c : V} {cl cc : Value} (hl : Rep x l cl) (hcc : Rep x c cc) {v : V} {s' : S}
    (h : aMakeSlice cfg nw x.s t l c = some (v, s')) :
    ∃ y c, (Instr.makeSlice t cl cc).run P x.w = .ok c y.w ∧ x.le y ∧ Rel y ∧ y.s = s' ∧ Rep y v c ∧ (∀ i, y.K i → i = nw ∨ x.K i) := by
  unfold aMakeSlice at h
  simp only [Option.bind_eq_bind, Option.bind_eq_some_iff] at h
  obtain ⟨a, hta, h⟩ := h
  have ht := hc.ty _ _ hta
  have hu := ht.und
  split at h
  · rename_i e he
    rw [he] at hu
    simp only [Option.bind_eq_some_iff] at h
    obtain ⟨b, hb, n, hn', m, hm, h⟩ := h
    have htb := hc.ty _ _ hb
    obtain ⟨k1, rfl⟩ := asInt_rep hl hn'
    obtain ⟨k2, rfl⟩ := asInt_rep hcc hm
    split at h
    · rename_i hcond
      obtain ⟨h1, h2, h3, h4, h5⟩ := hcond
      injection h with h
      injection h with ha hb2
      subst ha hb2
      obtain ⟨i, z, hi1, hi2, hi3, hi4, ⟨k, hk⟩, hzs⟩ := htb.info
      have hzr : ∀ x, Rep x b.zero z := fun x => rep_const k z _ hk
      have hm1 : n.toNat * b.size ≤ m.toNat * b.size := Nat.mul_le_mul_right _ (by omega)
      obtain ⟨vs, hvs1, hvs2⟩ := zeros_rep (hzr x) n.toNat (m.toNat * b.size) (by omega) (by rw [hzs]; exact hm1)
      have hlz := hvs1.length
      rw [zerosV_len] at hlz
      have hzc := (hzr x).cells.length
      simp only [Array.length_toList] at hzc
      obtain ⟨hle, hrel, hkk, hrho⟩ := alloc_cells (C := madeCells z.cells (m.toNat * b.size)) (ty := e) (ex := (n == m)) hx hn hvs1 hvs2 (fun he => by
        have : n = m := by simpa using he
        subst this
        rw [size_madeCells, zerosV_len, hzc, hzs])
      have hr := run_make (P := P) x.w t e i z hu hi1 hi4 k1 k2 n m h2 h3 (by rw [hi3, Int.mul_comm]; omega) (by omega)
      rw [hi2] at hr
      refine ⟨_, _, hr, hle, hrel, rfl, ?_, fun i hi => hi⟩
      have := Rep.arr (x := x.alloc nw (.cells (zerosV b.zero.cells n.toNat) 0 e (n == m)) (.cells (madeCells z.cells (m.toNat * b.size)) e)) nw 0 n.toNat b.size (isAggD b.und) (m.toNat + 1) 0 m.toNat (m.toNat * b.size) hkk (.inr (by rw [hrho])) (by omega)
        (by rw [hrho]; exact (csize_alloc _ _ _).trans (by rw [size_madeCells])) (by rw [hrho]; omega) (.inr rfl)
      rw [hrho] at this
      exact this
    · cases h
  · cases h

end Go.Proofs.YtejjnakhijgkaaaGreatDoor.Ai
