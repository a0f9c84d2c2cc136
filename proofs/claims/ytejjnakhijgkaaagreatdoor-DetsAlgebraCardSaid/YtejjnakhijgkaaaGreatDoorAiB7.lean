/- Part of a reckoning of a Go program over abstract values, proved sound against the model. -/
import Derived.Test.YtejjnakhijgkaaaGreatDoorAiB6
import Derived.Laws.MakeOwn
namespace Go.Proofs.YtejjnakhijgkaaaGreatDoor.Ai
open Go.RowKit (Below)

/-! slices of slices -/
inductive RepO (x : Cx) : Option V → Option Value → Prop
  | none : RepO x none none
  | some {v : V} {c : Value} : Rep x v c → RepO x (some v) (some c)

theorem asIntO_rep {x : Cx} {i : Option V} {ci : Option Value} (hi : RepO x i ci) {n : Option Int} (h : asIntO i = some n) : (n = none ∧ ci = none) ∨ ∃ k m, n = some m ∧ ci = some (.int k m) := by
  cases hi with
  | none => simp [asIntO] at h; exact .inl ⟨h.symm, rfl⟩
  | some hv =>
    unfold asIntO at h
    split at h
    · rename_i e; cases e
    · rename_i k m e
      injection e with e; subst e
      cases hv
      injection h with h; subst h
      exact .inr ⟨_, _, rfl, rfl⟩
    · cases h

theorem run_bounds {P : Program} (w : World) (isS : Bool) (len cap : Nat) {x : Cx} {lo hi mx : Option V} {clo chi cmx : Option Value} (hlo : RepO x lo clo) (hhi : RepO x hi chi) (hmx : RepO x mx cmx)
    {l h m : Option Int} (el : asIntO lo = some l) (eh : asIntO hi = some h) (em : asIntO mx = some m)
    (h0 : 0 ≤ l.getD 0) (h1 : l.getD 0 ≤ h.getD len) (h2 : h.getD len ≤ m.getD cap) (h3 : m.getD cap ≤ cap) (h4 : m.isSome → h.isSome) :
    (Instr.sliceBounds isS len cap clo chi cmx).run P w = .ok ((l.getD 0).toNat, (h.getD len).toNat, (m.getD cap).toNat) w := by
  have hb : ∀ (k : IntKind) (i : Int) (y : Nat) code, 0 ≤ i → i ≤ y → (Instr.sliceBound (.int k i) y code).run P w = .ok i.toNat w := fun k i y code a b => run_sliceBound w k i y code a b
  rcases asIntO_rep hlo el with ⟨rfl, rfl⟩ | ⟨k1, n1, rfl, rfl⟩ <;> rcases asIntO_rep hhi eh with ⟨rfl, rfl⟩ | ⟨k2, n2, rfl, rfl⟩ <;> rcases asIntO_rep hmx em with ⟨rfl, rfl⟩ | ⟨k3, n3, rfl, rfl⟩ <;>
    simp only [Option.getD_some, Option.getD_none, Option.isSome_some, Option.isSome_none, forall_const, Bool.false_eq_true] at h0 h1 h2 h3 h4 ⊢
  · simp [Instr.sliceBounds]
  · have a1 := hb k2 n2 cap (if isS then .sliceAcap else .sliceAlen) (by omega) (by omega)
    simp [Instr.sliceBounds, a1]
  · have a1 := hb k3 n3 cap (if isS then .slice3Acap else .slice3Alen) (by omega) (by omega)
    have a2 := hb k2 n2 n3.toNat .slice3B (by omega) (by omega)
    simp [Instr.sliceBounds, a1, a2]
  · have a1 := hb k1 n1 len .sliceB (by omega) (by omega)
    simp [Instr.sliceBounds, a1]
  · have a1 := hb k2 n2 cap (if isS then .sliceAcap else .sliceAlen) (by omega) (by omega)
    have a2 := hb k1 n1 n2.toNat .sliceB (by omega) (by omega)
    simp [Instr.sliceBounds, a1, a2]
  · have a1 := hb k3 n3 cap (if isS then .slice3Acap else .slice3Alen) (by omega) (by omega)
    have a2 := hb k2 n2 n3.toNat .slice3B (by omega) (by omega)
    have a3 := hb k1 n1 n2.toNat .slice3C (by omega) (by omega)
    simp [Instr.sliceBounds, a1, a2, a3]

theorem flat_drop {es : List V} {n : Nat} (hsz : ∀ e ∈ es, e.cells.length = n) (j : Nat) : (es.drop j).flatMap V.cells = (es.flatMap V.cells).drop (j * n) := by
  induction es generalizing j with
  | nil => simp
  | cons e es ih =>
    cases j with
    | zero => simp
    | succ j =>
      have h1 := hsz e (by simp)
      have e1 : (j + 1) * n - e.cells.length = j * n := by rw [h1, Nat.add_mul]; omega
      have e2 : e.cells.drop ((j + 1) * n) = [] := List.drop_eq_nil_of_le (by rw [h1, Nat.add_mul]; omega)
      rw [List.drop_succ_cons, ih (fun e he => hsz e (List.mem_cons_of_mem _ he)), List.flatMap_cons, List.drop_append, e2, List.nil_append, e1]

theorem flat_take {es : List V} {n : Nat} (hsz : ∀ e ∈ es, e.cells.length = n) (j : Nat) : (es.take j).flatMap V.cells = (es.flatMap V.cells).take (j * n) := by
  induction es generalizing j with
  | nil => simp
  | cons e es ih =>
    cases j with
    | zero => simp
    | succ j =>
      have h1 := hsz e (by simp)
      have e1 : (j + 1) * n - e.cells.length = j * n := by rw [h1, Nat.add_mul]; omega
      have e2 : e.cells.take ((j + 1) * n) = e.cells := List.take_of_length_le (by rw [h1, Nat.add_mul]; omega)
      rw [List.take_succ_cons, List.flatMap_cons, ih (fun e he => hsz e (List.mem_cons_of_mem _ he)), List.flatMap_cons, List.take_append, e2, e1]

theorem RepL.nil_right {x : Cx} {m : List Value} (h : RepL x [] m) : m = [] := by cases h; rfl

theorem aSlice_ok {P : Program} {cfg : Cfg} (hc : cfg.Ok P) {x : Cx} {t : TypeId} {a : ATy} (hta : cfg.ty t = some a) {p v : V} {cp : Value} {lo hi mx : Option V} {clo chi cmx : Option Value} (hp : Rep x p cp)
    (hlo : RepO x lo clo) (hhi : RepO x hi chi) (hmx : RepO x mx cmx) (h : aSlice cfg a.und p lo hi mx = some v) (w : World) :
    ∃ c, (Instr.sliceAt t cp clo chi cmx).run P w = .ok c w ∧ Rep x v c := by
  have ht := hc.ty _ _ hta
  have hu := ht.und
  unfold aSlice at h
  simp only [Option.bind_eq_bind, Option.bind_eq_some_iff] at h
  obtain ⟨l, el, h2, eh, m, em, h⟩ := h
  split at h
  · rename_i b e
    rw [e] at hu
    split at h
    · rename_i hcond
      obtain ⟨c1, c2, c3, c4⟩ := hcond
      injection h with h; subst h
      cases hp
      have hm : m = none := by simpa using c1
      subst hm
      have hcm : cmx = none := by
        rcases asIntO_rep hmx em with ⟨_, rfl⟩ | ⟨_, _, hh, _⟩
        · rfl
        · cases hh
      subst hcm
      have hb := run_bounds (P := P) w false b.size b.size hlo hhi (mx := none) .none el eh (m := none) (by simp [asIntO]) c2 c3 (by simpa using c4) (by simp) (by simp)
      exact ⟨_, by simp [Instr.sliceAt, Instr.slice, run_underlying hu, hb], .str _⟩
    · cases h
  · rename_i el' e
    rw [e] at hu
    simp only [Option.bind_eq_some_iff] at h
    obtain ⟨b, hb, h⟩ := h
    have htb := hc.ty _ _ hb
    split at h
    · rename_i hcond
      obtain ⟨c1, c2, c3, c4⟩ := hcond
      injection h with h; subst h
      cases hp
      have hm : m.getD ((0 : Nat) : Int) = 0 := by simpa using c3
      have hh2 : h2.getD ((0 : Nat) : Int) = 0 := by simpa using c2
      have hb2 := run_bounds (P := P) w true 0 0 hlo hhi hmx el eh em (by omega) (by omega) (by omega) (by omega) c4
      rw [hm, hh2, c1] at hb2
      exact ⟨.slice none 0 0, by simp [Instr.sliceAt, Instr.slice, run_underlying hu, hb2, htb.run_size], .nils⟩
    · cases h
  · rename_i el' es e
    rw [e] at hu
    simp only [Option.bind_eq_some_iff] at h
    obtain ⟨b, hb, h⟩ := h
    have htb := hc.ty _ _ hb
    split at h
    · rename_i hcond
      obtain ⟨c1, c2, c3, c4, c5, c6⟩ := hcond
      injection h with h; subst h
      have hm : ∀ cap : Nat, es.length ≤ cap → h2.getD es.length ≤ m.getD cap ∧ m.getD cap ≤ cap := by
        intro cap hcap
        cases m with
        | none => simp; omega
        | some q => have := c4 q rfl; simp; omega
      cases hp with
      | lempty ad cap =>
        have hmm := hm cap (by simp)
        have c3' : h2.getD ((0 : Nat) : Int) ≤ 0 := by simpa using c3
        have c2' : l.getD 0 ≤ h2.getD ((0 : Nat) : Int) := by simpa using c2
        have hmm' : h2.getD ((0 : Nat) : Int) ≤ m.getD cap := by simpa using hmm.1
        have hb2 := run_bounds (P := P) w true 0 cap hlo hhi hmx el eh em c1 c2' hmm' hmm.2 c5
        have hz : (h2.getD ((0 : Nat) : Int)).toNat = 0 := by omega
        have hl : (l.getD 0).toNat = 0 := by omega
        rw [hz, hl] at hb2
        refine ⟨_, by simp only [Instr.sliceAt, run_underlying hu, Sem.run_bind, Result.andThen_ok, Instr.slice, hb2, htb.run_size, Sem.run_pure]; rfl, ?_⟩
        simp only [List.drop_nil, List.take_nil]
        exact .lempty _ _
      | list bb o cap sz hh hl hcap heven =>
        have hb2 := run_bounds (P := P) w true es.length cap hlo hhi hmx el eh em c1 c2 (hm cap hcap).1 (hm cap hcap).2 c5
        refine ⟨_, by simp [Instr.sliceAt, Instr.slice, run_underlying hu, hb2, htb.run_size]; rfl, ?_⟩
        have hlen : ((es.drop (l.getD 0).toNat).take ((h2.getD es.length).toNat - (l.getD 0).toNat)).length = (h2.getD es.length).toNat - (l.getD 0).toNat := by
          rw [List.length_take, List.length_drop]; omega
        by_cases hz : (h2.getD es.length).toNat - (l.getD 0).toNat = 0
        · rw [hz]
          simp only [List.take_zero]
          exact .lempty _ _
        · have hmm := hm cap hcap
          rw [if_neg (by omega)]
          have hes : es ≠ [] := by
            rintro rfl
            simp only [List.length_nil] at c3 hz
            omega
          have hsz : sz = b.size := by
            cases es with
            | nil => exact absurd rfl hes
            | cons e0 es =>
              have h6 : e0.cells.length = b.size := by simpa using c6
              rw [← h6]; exact (heven e0 (by simp)).symm
          subst hsz
          have hl2 := (hl.drop ((l.getD 0).toNat * b.size)).take (((h2.getD es.length).toNat - (l.getD 0).toNat) * b.size)
          rw [← flat_drop heven, ← flat_take (fun e he => heven e (List.mem_of_mem_drop he))] at hl2
          have hr := Rep.list (es := (es.drop (l.getD 0).toNat).take ((h2.getD es.length).toNat - (l.getD 0).toNat)) bb (o + (l.getD 0).toNat * b.size) ((m.getD cap).toNat - (l.getD 0).toNat) b.size ((hh.drop _).take _) hl2
            (by rw [hlen]; omega) (fun e he => heven e (List.mem_of_mem_drop (List.mem_of_mem_take he)))
          rw [hlen] at hr
          simpa [add_lit'] using hr
    · cases h
  · rename_i el' id off len sz ag cp' e
    rw [e] at hu
    simp only [Option.bind_eq_some_iff] at h
    obtain ⟨b, hb, h⟩ := h
    have htb := hc.ty _ _ hb
    split at h
    · rename_i hcond
      obtain ⟨c1, c2, c3, c4, c5, c6⟩ := hcond
      subst c6
      injection h with h; subst h
      cases hp with
      | arr _ _ _ _ _ _ o cap n hk hoff hlc hcs hroom hcp =>
        have hm : h2.getD len ≤ m.getD cap ∧ m.getD cap ≤ cap := by
          cases m with
          | none => simp; omega
          | some q => have := c4 q rfl; simp; omega
        have hb2 := run_bounds (P := P) w true len cap hlo hhi hmx el eh em c1 c2 hm.1 hm.2 c5
        refine ⟨_, by simp [Instr.sliceAt, Instr.slice, run_underlying hu, hb2, htb.run_size]; rfl, ?_⟩
        have hmul : (l.getD 0).toNat * b.size + ((m.getD cap).toNat - (l.getD 0).toNat) * b.size = (m.getD cap).toNat * b.size := by
          rw [← Nat.add_mul]; congr 1; omega
        have hmul2 : (m.getD cap).toNat * b.size ≤ cap * b.size := Nat.mul_le_mul_right _ (by omega)
        have hcp' : cpOf m (l.getD 0).toNat cp' = 0 ∨ cpOf m (l.getD 0).toNat cp' = ((m.getD cap).toNat - (l.getD 0).toNat) + 1 := by
          unfold cpOf
          cases m with
          | none => simp at hm ⊢; rcases hcp with h | h <;> omega
          | some q => right; simp
        by_cases hz : (m.getD cap).toNat = (l.getD 0).toNat
        · rw [if_pos hz]
          refine .arr id _ _ _ ag _ o _ n hk (.inl (by omega)) (by omega) hcs ?_ hcp'
          omega
        · rw [if_neg hz]
          have ho : o = (x.ρ id).2 + off := by
            rcases hoff with rfl | ho
            · omega
            · exact ho
          subst ho
          simp only [Option.map_some, add_lit']
          refine .arr id _ _ _ ag _ _ _ n hk (.inr (by omega)) (by omega) hcs ?_ hcp'
          omega
    · cases h
  · cases h

end Go.Proofs.YtejjnakhijgkaaaGreatDoor.Ai
