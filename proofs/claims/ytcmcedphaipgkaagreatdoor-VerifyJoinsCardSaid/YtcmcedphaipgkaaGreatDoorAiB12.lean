/- Part of a reckoning of a Go program over abstract values, proved sound against the model. -/
import Derived.Test.YtcmcedphaipgkaaGreatDoorAiB11
import Derived.Laws.BytesString
import Derived.Lib.ConvBytes
import Derived.Lib.Builder
import Derived.Lib.UnsafeStr
set_option linter.unusedSimpArgs false
set_option linter.unusedVariables false
namespace Go.Proofs.YtcmcedphaipgkaaGreatDoor.Ai
open Go.RowKit (Below)

section
variable {x : Cx} {i : Nat} {o : O} {w' : World}
theorem rew_le (hi : x.s.get i = some o) (hw : Wrote x.w w' (x.ρ i).1) : x.le { x with w := w' } where
  B := rfl
  K := fun j h => ⟨h, rfl⟩
  size := by simp [hw.size]
  keep := fun b _ hn => hw.keep b (by rintro rfl; exact hn ⟨i, o, hi, rfl⟩)
  csz := hw.csz
  own := fun b _ h => h
  os := hw.os
  tape := hw.tape
  output := hw.output

theorem rew_rel (hx : Rel x) (hi : x.s.get i = some o) (hw : Wrote x.w w' (x.ρ i).1) (ho : ORep { x with w := w' } (x.ρ i).1 (x.ρ i).2 o) : Rel { x with w := w' } where
  lt := hx.lt
  live := fun j p hj => by
    by_cases e : j = i
    · subst e
      have : o = p := Option.some.inj (hi.symm.trans hj)
      subst this
      exact ⟨(hx.live j o hi).1, ho⟩
    · exact ⟨(hx.live j p hj).1, (hx.live j p hj).2.mono (rew_le hi hw) (hw.keep _ fun h => e (hx.inj j i p o hj hi h))⟩
  inj := hx.inj
  room := fun b hb => by simpa [hw.size] using hx.room b hb
  apart := hx.apart
end

theorem wrote_freeze (w : World) (a : Addr) (n : Nat) : Wrote w (w.freeze a n) a.block := by
  unfold World.freeze
  split
  · exact .refl _ _
  · refine ⟨by simp, fun k hk => ?_, fun k m h => ?_, rfl, rfl, rfl⟩
    · simp [Array.getElem?_modify, Ne.symm hk]
    · by_cases e : k = a.block
      · subst e
        simp only [csize] at h ⊢
        simp only [Array.getElem?_modify, if_true]
        cases hb : w.heap[a.block]? with
        | none => simp [hb] at h
        | some ob =>
          rw [hb] at h
          cases ob <;> simp at h ⊢
          exact h
      · simpa [csize, Array.getElem?_modify, Ne.symm e] using h

theorem vBytes_ok {x : Cx} : ∀ {cs : List V} {vs : List Value} {l : List UInt8}, RepL x cs vs → vBytes cs = some l → ∃ ns : List Int, vs = ns.map (Value.int .u8) ∧ l = ns.map fun n => UInt8.ofNat n.toNat
  | _, _, l, .nil, h => by simp [vBytes] at h; subst h; exact ⟨[], rfl, rfl⟩
  | _, _, l, .cons hv hl, h => by
    cases hv <;> try (simp only [vBytes, reduceCtorEq] at h; done)
    rename_i k n
    cases k <;> try (simp only [vBytes, reduceCtorEq] at h; done)
    simp only [vBytes, Option.map_eq_some_iff] at h
    obtain ⟨l', h1, rfl⟩ := h
    obtain ⟨ns, rfl, rfl⟩ := vBytes_ok hl h1
    exact ⟨n :: ns, rfl, rfl⟩

theorem fold_bytes : ∀ (ns : List Int) (s : ByteArray), ns.foldl (fun r n => r.push (UInt8.ofNat n.toNat)) s = ⟨s.data ++ (ns.map fun n => UInt8.ofNat n.toNat).toArray⟩
  | [], s => by simp
  | n :: ns, s => by
    rw [List.foldl_cons, fold_bytes ns]
    apply ByteArray.ext
    simp [ByteArray.push]

theorem aConvert_ok {P : Program} {cfg : Cfg} (hc : cfg.Ok P) {x : Cx} (hx : Rel x) {nw : Nat} (hn : ¬ x.K nw) {src dst : TypeId} {X v : V} {cx : Value} (hX : Rep x X cx) {s' : S} (h : aConvert cfg nw x.s src dst X = some (v, s')) :
    ∃ y c, (convert src dst cx).run P x.w = .ok c y.w ∧ x.le y ∧ Rel y ∧ y.s = s' ∧ Rep y v c ∧ (∀ i, y.K i → i = nw ∨ x.K i) := by
  unfold aConvert at h
  simp only [Option.bind_eq_bind, Option.bind_eq_some_iff] at h
  obtain ⟨a, hta, b, htb, h⟩ := h
  have hu := (hc.ty _ _ hta).und
  have hd := (hc.ty _ _ htb).und
  have same : ∀ {v : V} {c : Value}, (convert src dst cx).run P x.w = .ok c x.w → Rep x v c → ∃ y c, (convert src dst cx).run P x.w = .ok c y.w ∧ x.le y ∧ Rel y ∧ y.s = x.s ∧ Rep y v c ∧ (∀ i, y.K i → i = nw ∨ x.K i) :=
    fun h1 h2 => ⟨x, _, h1, .refl x, hx, rfl, h2, fun i hi => .inr hi⟩
  split at h
  · rename_i e1 e2
    rw [e1] at hu; rw [e2] at hd
    injection h with h; injection h with h1 h2; subst h1 h2
    cases hX
    exact same (by simp [convert, run_underlying hu, run_underlying hd, Conv.intToInt]) (.int _ _)
  · rename_i e1 e2
    rw [e1] at hu; rw [e2] at hd
    injection h with h; injection h with h1 h2; subst h1 h2
    cases hX
    exact same (by simp [convert, run_underlying hu, run_underlying hd]) (.str _)
  · rename_i e e1 e2
    rw [e1] at hu; rw [e2] at hd
    simp only [Option.bind_eq_some_iff] at h
    obtain ⟨i, hi, h⟩ := h
    have hie := (hc.ty _ _ hi).und
    split at h
    case h_2 => cases h
    rename_i ei
    rw [ei] at hie
    split at h
    · injection h with h; injection h with h1 h2; subst h1 h2
      cases hX
      refine same ?_ (.str _)
      rw [run_convert_bytes_string x.w src dst e _ _ _ hu hie hd]
      simp [Conv.bytesToString]
    · rename_i hnn
      simp only [Option.bind_eq_some_iff] at h
      obtain ⟨⟨cs, n⟩, hel, l, hl, h⟩ := h
      simp only at hl h
      split at h
      · cases h
      · rename_i hns
        injection h with h; injection h with h1 h2; subst h1 h2
        obtain ⟨hlen, arr, hfc, hrep, hz⟩ := elems_ok (P := P) hx hX hel
        obtain ⟨ns, hns1, hns2⟩ := vBytes_ok hrep hl
        have fin : ∀ ad len cap, cx = .slice (some ad) len cap → n = len → ∃ y c, (convert src dst cx).run P x.w = .ok c y.w ∧ x.le y ∧ Rel y ∧ y.s = x.s ∧ Rep y (.str ⟨l.toArray⟩) c ∧ (∀ i, y.K i → i = nw ∨ x.K i) := by
          intro ad len cap e e2
          subst e e2
          refine same ?_ (.str _)
          rw [run_convert_bytes_string x.w src dst _ _ _ _ hu hie hd]
          have hfc2 := hfc x.w rfl
          simp only [Builtin.firstCells, Nat.mul_one] at hfc2
          have harr : arr = (ns.map (Value.int .u8)).toArray := by rw [← hns1]
          rw [harr] at hfc2
          rw [run_bytesToString x.w _ _ _ ns hfc2, fold_bytes, hns2]
          simp
        have hln := hlen x.w
        cases hX with
        | nils => exact absurd rfl hnn
        | str s => exact absurd rfl (hns s)
        | lempty ad cap =>
          have h0 : n = 0 := by
            have : (Builtin.lenOf (.slice ad 0 cap)).run P x.w = .ok 0 x.w := by simp [Builtin.lenOf]
            rw [this] at hln; injection hln with hln; exact hln.symm
          cases ad with
          | some ad => exact fin ad 0 cap rfl h0
          | none =>
            have hcs := hz h0
            subst hcs
            simp [vBytes] at hl
            subst hl
            refine same (c := .string .empty) ?_ (.str _)
            rw [run_convert_bytes_string x.w src dst e _ _ _ hu hie hd]
            simp [Conv.bytesToString]
        | list bb o cap sz hh hl2 hcap heven =>
          refine fin _ _ _ rfl ?_
          have : ∀ (len : Nat) (a : Option Addr), (Builtin.lenOf (.slice a len cap)).run P x.w = .ok len x.w := fun len a => by simp [Builtin.lenOf]
          rw [this] at hln; injection hln with hln; exact hln.symm
        | arr id off len sz ag cp o cap m hk h1 h2 h3 h4 h5 =>
          refine fin _ _ _ rfl ?_
          have : ∀ (len : Nat) (a : Option Addr), (Builtin.lenOf (.slice a len cap)).run P x.w = .ok len x.w := fun len a => by simp [Builtin.lenOf]
          rw [this] at hln; injection hln with hln; exact hln.symm
        | _ => simp [elemsOf] at hel
  · rename_i e c e1 e2
    rw [e1] at hu; rw [e2] at hd
    simp only [Option.bind_eq_some_iff] at h
    obtain ⟨i, hi, h⟩ := h
    have hie := (hc.ty _ _ hi).und
    split at h
    case h_2 => cases h
    rename_i ei
    rw [ei] at hie
    split at h
    case isFalse => cases h
    rename_i hsz
    injection h with h; injection h with h1 h2; subst h1 h2
    cases hX
    have hr := Lib.run_convert_string_bytes (P := P) x.w src dst e c hu hd hie
    have hxd : Rel { x with w := x.w.drew } := hx.drew rfl rfl rfl rfl
    have hled : x.le { x with w := x.w.drew } := le_drew rfl rfl rfl rfl
    have hsb : (Lib.bytesCells x.w e c).size = grownCap x.w c.size 0 e := by
      have := grownCap_ge x.w c.size 0 e
      simp [Lib.bytesCells]
      omega
    obtain ⟨hle, hrel, hk, hrho⟩ := alloc_cells (x := { x with w := x.w.drew }) (nw := nw) (frz := 0) (C := Lib.bytesCells x.w e c) (ty := e) (ex := false) hxd hn (bytesV_rep c) (fun j u hj => by
      simp only [Lib.bytesCells]
      rw [Array.getElem?_append_left]
      · simpa [Array.getElem?_map] using hj
      · have := (List.getElem?_eq_some_iff.1 hj).1
        simpa using this) (fun h => by cases h)
    have hgn : (({ x with w := x.w.drew } : Cx).alloc nw (.cells (bytesV c) 0 e false) (.cells (Lib.bytesCells x.w e c) e)).s.get nw = some (.cells (bytesV c) 0 e false) := by simp [Cx.alloc, S.get_add]
    have hwf := wrote_freeze (({ x with w := x.w.drew } : Cx).alloc nw (.cells (bytesV c) 0 e false) (.cells (Lib.bytesCells x.w e c) e)).w ⟨x.w.heap.size, (Lib.bytesCells x.w e c).size, none⟩ 1
    have hwf2 : Wrote (({ x with w := x.w.drew } : Cx).alloc nw (.cells (bytesV c) 0 e false) (.cells (Lib.bytesCells x.w e c) e)).w (Lib.bytesWorld x.w e c) ((({ x with w := x.w.drew } : Cx).alloc nw (.cells (bytesV c) 0 e false) (.cells (Lib.bytesCells x.w e c) e)).ρ nw).1 := by
      rw [hrho]; exact hwf
    have hle2 := rew_le hgn hwf2
    refine ⟨_, _, hr, (hled.trans hle).trans hle2, rew_rel hrel hgn hwf2 ?_, rfl, ?_, fun i hi => hi⟩
    · rw [hrho]
      refine ⟨_, _, _, _, Lib.bytesWorld_at_new x.w e c, bytesV_rep c, fun j u hj => ?_, fun o ho h1 h2 => ?_, fun h => by cases h⟩
      · simp only [Lib.bytesCells, Nat.zero_add]
        rw [Array.getElem?_append_left]
        · simpa [Array.getElem?_map] using hj
        · have := (List.getElem?_eq_some_iff.1 hj).1
          simpa using this
      · omega
    · have := Rep.arr (x := { (({ x with w := x.w.drew } : Cx).alloc nw (.cells (bytesV c) 0 e false) (.cells (Lib.bytesCells x.w e c) e)) with w := Lib.bytesWorld x.w e c }) nw 0 c.size 1 false 0 0 (grownCap x.w c.size 0 e) (Lib.bytesCells x.w e c).size hk (.inr (by rw [hrho])) (grownCap_ge _ _ _ _)
        (by
          rw [hrho]
          have h9 := Lib.bytesWorld_at_new x.w e c
          show csize (Lib.bytesWorld x.w e c) x.w.heap.size = _
          simp only [csize, h9]) (by rw [hrho, hsb]; omega) (.inl rfl)
      rw [hrho] at this
      exact this
  · rename_i e1 e2
    rw [e1] at hu; rw [e2] at hd
    injection h with h; injection h with h1 h2; subst h1 h2
    cases hX
    exact same (by simp [convert, run_underlying hu, run_underlying hd, Conv.unsafePointer]) .nilp
  · rename_i t id off e1 e2
    rw [e1] at hu; rw [e2] at hd
    simp only [Option.bind_eq_some_iff] at h
    obtain ⟨i, hi, h⟩ := h
    split at h
    case h_2 => cases h
    rename_i cs frz ty ex hg
    split at h
    case isFalse => cases h
    rename_i hcond
    injection h with h; injection h with h1 h2; subst h1 h2
    obtain ⟨C, lo, hi', vs, hb, hl, hpre, _⟩ := (hx.live id _ hg).2
    have hoff : (x.ρ id).2 + off < C.size := by
      have hlen := hl.length
      have h9 := hpre off _ (List.getElem?_eq_getElem (by omega))
      exact (Array.getElem?_eq_some_iff.1 h9).1
    cases hX with
    | ptr _ _ hk =>
      obtain ⟨j, hj1, hj2, hj3, hj4⟩ := (hc.ty _ _ hi).run_info x.w
      exact same (Lib.run_to_unsafe (P := P) x.w ⟨(x.ρ id).1, (x.ρ id).2 + off, none⟩ hu hd hj4 (by rw [hj2]; exact hcond.1) (e := ty) (cells := C.size) (by simp [World.shape?, hb]) hoff) (.ptr _ _ hk)
  · rename_i e1 e2
    rw [e1] at hu; rw [e2] at hd
    injection h with h; injection h with h1 h2; subst h1 h2
    cases hX
    exact same (by simp [convert, run_underlying hu, run_underlying hd, Conv.unsafePointer]) .nilp
  · rename_i u id off e1 e2
    rw [e1] at hu; rw [e2] at hd
    simp only [Option.bind_eq_some_iff] at h
    obtain ⟨ua, hui, h⟩ := h
    split at h
    case h_2 => cases h
    rename_i cs frz e ex hg
    split at h
    case isFalse => cases h
    rename_i hcond
    injection h with h; injection h with h1 h2; subst h1 h2
    obtain ⟨C, lo, hi', vs, hb, hl, hpre, _, hex⟩ := (hx.live id _ hg).2
    obtain ⟨hb0, hsz⟩ := hex hcond.1
    have hlies := hc.lies _ _ _ _ hcond.2
    cases hX with
    | ptr _ _ hk =>
      obtain ⟨j, hj1, hj2, hj3, hj4⟩ := (hc.ty _ _ hui).run_info x.w
      exact same (Lib.run_from_unsafe (P := P) x.w ⟨(x.ρ id).1, (x.ρ id).2 + off, none⟩ hu hd hj4 (e := e) (cells := C.size) (by simp [World.shape?, hb]) (by simpa [hb0, hsz] using hlies)) (.ptr _ _ hk)
  · cases h

end Go.Proofs.YtcmcedphaipgkaaGreatDoor.Ai

