/- Part of a reckoning of a Go program over abstract values, proved sound against the model. -/
import Derived.Test.YtcmcedphaipgkaaGreatDoorAiB9
set_option linter.unusedSimpArgs false
set_option linter.unusedVariables false
namespace Go.Proofs.YtcmcedphaipgkaaGreatDoor.Ai
open Go.RowKit (Below)

section
variable {P : Program} {t u e : TypeId} {d : TypeDesc} {b : ATy}

theorem run_append_place (ht : P.underlying t = some (.slice e)) (hu : P.underlying u = some d) (hd : (∃ e2, d = .slice e2) ∨ d = .string) (htb : TyOk P e b) (ty : TypeId) {base : Option Addr} {sLen sCap n : Nat} {cy : Value} {arr : Array Value} (w : World)
    (hlen : (Builtin.lenOf cy).run P w = .ok n w) (hf : (Builtin.firstCells b.size n cy).run P w = .ok arr w) (hroom : sLen + n ≤ sCap) :
    (Builtin.append_ #[t, u] ty #[.slice base sLen sCap, cy]).run P w =
      ((match base with | some a => storeCells (a.add (sLen * b.size)) arr.toList | none => pure () : Sem Unit).run P w).andThen fun _ w' => .ok (.slice base (sLen + n) sCap) w' := by
  rcases hd with ⟨e2, rfl⟩ | rfl <;> (
  simp only [Builtin.append_, List.getElem?_toArray, List.getElem?_cons_zero, List.getElem?_cons_succ, Sem.run_bind, run_underlying ht, Result.andThen_ok, htb.run_size, run_underlying hu, Sem.run_pure, Bool.false_eq_true, if_false, hlen, hroom, if_true, Bool.not_false, hf]
  cases base <;> simp)

theorem run_append_grows (ht : P.underlying t = some (.slice e)) (hu : P.underlying u = some d) (hd : (∃ e2, d = .slice e2) ∨ d = .string) (htb : TyOk P e b) (ty : TypeId) {base : Option Addr} {sLen sCap n : Nat} {cy : Value} {arr olds : Array Value} (w : World)
    (hlen : (Builtin.lenOf cy).run P w = .ok n w) (hf : (Builtin.firstCells b.size n cy).run P w.drew = .ok arr w.drew) (hfo : (Builtin.firstCells b.size sLen (.slice base sLen sCap)).run P w.drew = .ok olds w.drew)
    (hroom : sCap < sLen + n) (h63 : sLen + n ≤ 140737488355328) (hfit : (sLen + n) * b.bytes ≤ 140737488355328) {z : Value} (hz : ∀ w, (zeroValue e).run P w = .ok z w) :
    (Builtin.append_ #[t, u] ty #[.slice base sLen sCap, cy]).run P w =
      .ok (.slice (some ⟨w.heap.size, 0, none⟩) (sLen + n) (grownCap w (sLen + n) sCap e)) (w.drew.alloc (.cells (olds ++ arr ++ Builtin.zeroCells z.cells (grownCap w (sLen + n) sCap e - (sLen + n))) e)) := by
  have hn : ¬ (sLen + n ≤ sCap) := by omega
  have h63' : ¬ (9223372036854775807 < ((sLen : Int) + (n : Int))) := by omega
  have hg := growslice_fits hroom hfit
  obtain ⟨i, hi, hi2, hi3, _⟩ := htb.run_info w
  have h48 : ¬ (281474976710656 < Builtin.nextslicecap (sLen + n) sCap * i.bytes) := by rw [hi3]; omega
  have hdr : w.heap = w.drew.heap := rfl
  obtain ⟨i', hi', hi2', hi3', _⟩ := htb.run_info w.drew
  rcases hd with ⟨e2, rfl⟩ | rfl <;> (
  simp only [Builtin.append_, List.getElem?_toArray, List.getElem?_cons_zero, List.getElem?_cons_succ, Sem.run_bind, run_underlying ht, Result.andThen_ok, htb.run_size, run_underlying hu, Sem.run_pure, Bool.false_eq_true, if_false, hlen, hn, Bool.not_false, if_true, false_or, hi]
  simp [h63', h48, Question.forced, hi, hi', hfo, hf, hz, newRow, grownCap])
end

theorem aAppend_ok {P : Program} {cfg : Cfg} (hc : cfg.Ok P) {x : Cx} (hx : Rel x) {nw : Nat} (hn : ¬ x.K nw) {sl : Bool} {t u : TypeId} {X Y v : V} {cx cy : Value} (hX : Rep x X cx) (hY : Rep x Y cy) {s' : S}
    (h : aAppend cfg sl nw x.s t u X Y = some (v, s')) (ty : TypeId) :
    ∃ y c, (Builtin.append_ #[t, u] ty #[cx, cy]).run P x.w = .ok c y.w ∧ x.le y ∧ Rel y ∧ y.s = s' ∧ Rep y v c ∧ (∀ i, y.K i → i = nw ∨ x.K i) := by
  unfold aAppend at h
  simp only [Option.bind_eq_bind, Option.bind_eq_some_iff] at h
  obtain ⟨a, hta, h⟩ := h
  have ht := (hc.ty _ _ hta).und
  split at h
  case h_2 => cases h
  rename_i e he
  rw [he] at ht
  simp only [Option.bind_eq_some_iff] at h
  obtain ⟨a2, hta2, h⟩ := h
  have hu := (hc.ty _ _ hta2).und
  split at h
  · cases h
  rename_i hcond
  have hd : (∃ e2, a2.und = .slice e2) ∨ a2.und = .string := by
    cases hd : a2.und <;> simp_all [sliceOrStr]
  simp only [Option.bind_eq_some_iff] at h
  obtain ⟨b, hb, ⟨new, n⟩, hel, h⟩ := h
  have htb := hc.ty _ _ hb
  obtain ⟨hlen, arr, hfc, hnew, hzero⟩ := elems_ok (P := P) hx hY hel
  simp only at h
  split at h
  · rename_i hn0
    subst hn0
    have hnil := hzero rfl
    subst hnil
    have harr : arr.toList = [] := hnew.nil_right
    have key : ∀ base sLen sCap, sLen ≤ sCap → (Builtin.append_ #[t, u] ty #[.slice base sLen sCap, cy]).run P x.w = .ok (.slice base sLen sCap) x.w := by
      intro base sLen sCap hle
      rw [run_append_place ht hu hd htb ty x.w (hlen _) (hfc _ rfl) (by omega), harr]
      cases base <;> simp [storeCells]
    split at h
    · injection h with h; injection h with e1 e2; subst e1 e2
      cases hX
      exact ⟨x, _, key _ _ _ (by omega), .refl x, hx, rfl, .nils, fun i hi => .inr hi⟩
    · injection h with h; injection h with e1 e2; subst e1 e2
      cases hX with
      | arr _ _ _ _ _ _ o cap m hk hoff hlc hcs hroom hcp => exact ⟨x, _, key _ _ _ hlc, .refl x, hx, rfl, .arr _ _ _ _ _ _ o cap m hk hoff hlc hcs hroom hcp, fun i hi => .inr hi⟩
    · injection h with h; injection h with e1 e2; subst e1 e2
      cases hX with
      | lempty ad cap => exact ⟨x, _, key _ _ _ (by omega), .refl x, hx, rfl, .lempty ad cap, fun i hi => .inr hi⟩
      | list bb o cap sz hh hl hcap heven => exact ⟨x, _, key _ _ _ hcap, .refl x, hx, rfl, .list bb o cap sz hh hl hcap heven, fun i hi => .inr hi⟩
    · cases h
  · rename_i hn0
    split at h
    · cases h
    rename_i hbs
    simp only [Option.bind_eq_some_iff] at h
    obtain ⟨⟨new', s1⟩, hlay, h⟩ := h
    obtain ⟨hless, hnew'⟩ := layIf_ok hx hnew hlay
    have hx1 := less_rel hx hless
    have hle1 := less_le hless
    simp only at h
    split at h
    case isFalse => cases h
    rename_i hone
    obtain ⟨hone, hnl⟩ := hone
    obtain ⟨z, hz, hzr, hzs⟩ := htb.run_zero x.w
    have hzall : ∀ w, (zeroValue e).run P w = .ok z w := fun w => by
      obtain ⟨i, z', g1, g2, g3, g4, _⟩ := htb.info
      have e1 : ∀ w, (zeroValue e).run P w = .ok z' w := fun w => by simp [zeroValue, typeInfo, g1, g4]
      have := hz.symm.trans (e1 x.w)
      injection this with this
      rw [this]; exact e1 w
    have harrlen : arr.size = n * b.size := by
      have h9 := hnew'.length
      simp only [Array.length_toList] at h9
      omega
    -- a new row
    have grow : ∀ (base : Option Addr) (sLen sCap : Nat) (olds : Array Value) (ocs : List V) (s2 : S), Less s1 s2 → sCap < sLen + n → sLen + n ≤ 140737488355328 → (sLen + n) * b.bytes ≤ 140737488355328 →
        (Builtin.firstCells b.size sLen (.slice base sLen sCap)).run P x.w.drew = .ok olds x.w.drew → RepL { x with s := s1 } ocs olds.toList → ocs.length = sLen * b.size → ∀ cp frz : Nat, cp = 0 →
        ∃ y c, (Builtin.append_ #[t, u] ty #[.slice base sLen sCap, cy]).run P x.w = .ok c y.w ∧ x.le y ∧ Rel y ∧ y.s = s2.add nw (.cells (ocs ++ new') frz e false) ∧ Rep y (.arr nw 0 (sLen + n) b.size (isAggD b.und) cp) c ∧ (∀ i, y.K i → i = nw ∨ x.K i) := by
      intro base sLen sCap olds ocs s2 hl2 h1 h2 h3 h4 h5 h6 cp frz hcp
      have hr := run_append_grows ht hu hd htb ty x.w (hlen _) (hfc x.w.drew rfl) h4 h1 h2 h3 hzall
      have hl3 := hless.trans hl2
      have hx2 := less_rel hx hl3
      have hle2 := less_le hl3
      have hxd : Rel { ({ x with s := s2 } : Cx) with w := x.w.drew } := hx2.drew rfl rfl rfl rfl
      have hled : ({ x with s := s2 } : Cx).le { ({ x with s := s2 } : Cx) with w := x.w.drew } := le_drew rfl rfl rfl rfl
      have hl12 : ({ x with s := s1 } : Cx).le { x with s := s2 } := less_le (x := { x with s := s1 }) hl2
      have hrep : RepL { ({ x with s := s2 } : Cx) with w := x.w.drew } (ocs ++ new') (olds.toList ++ arr.toList) := ((h5.append hnew').mono hl12).mono hled
      have hos : olds.size = sLen * b.size := by
        have h9 := h5.length
        simp only [Array.length_toList] at h9
        omega
      obtain ⟨hle, hrel, hk, hrho⟩ := alloc_cells (nw := nw) (frz := frz) (C := olds ++ arr ++ Builtin.zeroCells z.cells (grownCap x.w (sLen + n) sCap e - (sLen + n))) (ty := e) (ex := false) hxd hn hrep (fun j c hj => by
        rw [Array.append_assoc, ← Array.getElem?_toList]
        simp only [Array.toList_append, ← List.append_assoc]
        rw [List.getElem?_append_left (by exact (List.getElem?_eq_some_iff.1 hj).1)]
        exact hj) (fun h => by cases h)
      refine ⟨_, _, hr, (hle2.trans hled).trans hle, hrel, rfl, ?_, fun i hi => hi⟩
      have hge := grownCap_ge x.w (sLen + n) sCap e
      subst hcp
      have := Rep.arr (x := ({ ({ x with s := s2 } : Cx) with w := x.w.drew } : Cx).alloc nw (.cells (ocs ++ new') frz e false) (.cells (olds ++ arr ++ Builtin.zeroCells z.cells (grownCap x.w (sLen + n) sCap e - (sLen + n))) e))
        nw 0 (sLen + n) b.size (isAggD b.und) 0 0 (grownCap x.w (sLen + n) sCap e) _ hk (.inr (by rw [hrho])) hge (by rw [hrho]; exact csize_alloc _ _ _) (by
          rw [hrho]
          simp only [Array.size_append, size_zeroCells, hzs, hos, harrlen, ← Nat.add_mul, Nat.zero_add]
          exact Nat.mul_le_mul_right _ (by omega)) (.inl rfl)
      rw [hrho] at this
      exact this
    split at h
    · split at h
      · rename_i hcond
        injection h with h; injection h with e1 e2; subst e1 e2
        cases hX
        obtain ⟨y, c, g1, g2, g3, g4, g5, g6⟩ := grow none 0 0 #[] [] s1 (.refl _) (by omega) (by omega) (by rw [Nat.zero_add]; exact hcond.1) (by simp [Builtin.firstCells]) .nil (by simp) 0 0 rfl
        simp only [Nat.zero_add, List.nil_append] at g1 g4 g5
        exact ⟨y, c, g1, g2, g3, g4, g5, g6⟩
      · cases h
    · rename_i id off len sz ag cp
      split at h
      · rename_i cs frz e' ex hg
        split at h
        · rename_i hcond
          obtain ⟨rfl, c2, c3, rfl, c5, c6, rfl⟩ := hcond
          injection h with h; injection h with e1 e2; subst e1 e2
          have hgx := hless.get _ _ hg
          cases hX with
          | arr _ _ _ _ _ _ o cap m hk hoff hlc hcs hroom hcp =>
            obtain ⟨C, lo, hi, vs, hblk, hvl, hpre, hfr, hexx⟩ := (hx1.live id _ hg).2
            have hvl2 := (hvl.drop off).take (len * b.size)
            have hat : at_ x.w (x.ρ id).1 (x.ρ id).2 vs := fun j c hj => by
              have := hpre j c hj
              simp only at hblk this
              simp [World.cell?, hblk, this]
            have hlv := hvl.length
            have hol : ((vs.drop off).take (len * b.size)).length = len * b.size := by rw [List.length_take, List.length_drop]; omega
            by_cases hfit : len + n ≤ cap
            · -- in place
              have hcap : cap ≠ 0 := by omega
              have ho : o = (x.ρ id).2 + off := by
                rcases hoff with h | h
                · exact absurd h hcap
                · exact h
              subst ho
              have hr := run_append_place ht hu hd htb ty (base := some ⟨(x.ρ id).1, (x.ρ id).2 + off, none⟩) (sLen := len) (sCap := cap) x.w (hlen _) (hfc x.w rfl) hfit
              simp only [add_lit'] at hr
              have hmul : (len + n) * b.size ≤ cap * b.size := Nat.mul_le_mul_right _ hfit
              have hcs' : C.size = m := by simpa [csize, hblk] using hcs
              rw [Nat.add_mul] at hmul
              obtain ⟨w', C', hst, hw, hb', hsz', hgj⟩ := run_storeCells (P := P) arr.toList x.w (x.ρ id).1 ((x.ρ id).2 + off + len * b.size) 0 C e' lo hi hblk (hnew'.ones hone) (fun k hk => by
                rw [Array.length_toList] at hk
                refine ⟨by omega, fun ⟨ha, hb⟩ => ?_⟩
                have := hfr _ (by omega) ha hb
                simp only at this
                omega)
              rw [hst] at hr
              simp only [Result.andThen_ok] at hr
              have hle3 := take_le (x := { x with s := s1 }) (nw := nw) (base := (x.ρ id).2 + off) (o' := .cells ((cs.drop off).take (len * b.size) ++ new') (frz - off) e' false) hx1 hn hg hw
              refine ⟨_, _, hr, hle1.trans hle3, take_rel hx1 hn hg hw ⟨C', lo, hi, (vs.drop off).take (len * b.size) ++ arr.toList, hb', (hvl2.append hnew').mono hle3, fun j c hj => ?_, fun o' ho' ha hb => ?_, fun h => by cases h⟩, rfl, ?_, fun i hi => hi⟩
              · rw [hgj]
                simp only [Nat.add_zero]
                by_cases e1 : j < len * b.size
                · rw [if_neg (by omega)]
                  rw [List.getElem?_append_left (by omega), List.getElem?_take, if_pos e1, List.getElem?_drop] at hj
                  have := hpre (off + j) c hj
                  simp only at this
                  rw [← this]; congr 1; omega
                · rw [List.getElem?_append_right (by omega), hol] at hj
                  have hjl := (List.getElem?_eq_some_iff.1 hj).1
                  rw [if_pos (by omega)]
                  rw [← hj]; congr 1; omega
              · rw [hsz'] at ho'
                have := hfr o' ho' ha hb
                simp only at this
                omega
              · have hrho : (({ x with s := s1 } : Cx).take id nw ((x.ρ id).2 + off) (.cells ((cs.drop off).take (len * b.size) ++ new') (frz - off) e' false) w').ρ nw = ((x.ρ id).1, (x.ρ id).2 + off) := by simp [Cx.take, upd]
                have := Rep.arr (x := ({ x with s := s1 } : Cx).take id nw ((x.ρ id).2 + off) (.cells ((cs.drop off).take (len * b.size) ++ new') (frz - off) e' false) w') nw 0 (len + n) b.size (isAggD b.und) (if len + n < cp then cp else 0) ((x.ρ id).2 + off) cap m (.inl rfl)
                  (.inr (by rw [hrho]; rfl)) hfit (by rw [hrho]; exact hw.csz _ _ hcs) (by rw [hrho]; simpa using hroom) (by
                    split
                    · rcases hcp with h | h
                      · omega
                      · exact .inr h
                    · exact .inl rfl)
                rw [hrho] at this
                exact this
            · have hcp0 : (if len + n < cp then cp else 0) = 0 := by
                split
                · rcases hcp with h | h <;> omega
                · rfl
              rw [hcp0]
              have hfo : (Builtin.firstCells b.size len (.slice (some ⟨(x.ρ id).1, o, none⟩) len cap)).run P x.w.drew = .ok ((vs.drop off).take (len * b.size)).toArray x.w.drew := by
                by_cases hz0 : len = 0
                · subst hz0; simp [Builtin.firstCells, loadCells, loadCellsFrom]
                · have ho : o = (x.ρ id).2 + off := by
                    rcases hoff with h | h
                    · omega
                    · exact h
                  subst ho
                  exact run_firstCells_some (P := P) x.w.drew b.size len ⟨(x.ρ id).1, (x.ρ id).2 + off, none⟩ len cap _ hol (fun j c hj => by rw [add_lit', World.cell?_drew]; exact ((hat.drop off).take _) j c hj)
              obtain ⟨y, c, g1, g2, g3, g4, g5, g6⟩ := grow (some ⟨(x.ρ id).1, o, none⟩) len cap _ ((cs.drop off).take (len * b.size)) (s1.del id) (Less.del _ _) (by omega) c3 c2 hfo (by simpa using hvl2) (by rw [List.length_take, List.length_drop]; omega) 0 (frz - off) rfl
              exact ⟨y, c, g1, g2, g3, g4, g5, g6⟩
        · cases h
      · cases h
    · cases h

end Go.Proofs.YtcmcedphaipgkaaGreatDoor.Ai

