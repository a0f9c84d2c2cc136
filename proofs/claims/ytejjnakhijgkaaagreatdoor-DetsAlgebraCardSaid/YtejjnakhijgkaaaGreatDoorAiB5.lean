/- Part of a reckoning of a Go program over abstract values, proved sound against the model. -/
import Derived.Test.YtejjnakhijgkaaaGreatDoorAiB4
import Derived.Laws.Shifts
import Derived.Laws.Build
import Derived.Laws.Rows
namespace Go.Proofs.YtejjnakhijgkaaaGreatDoor.Ai
open Go.RowKit (Below)

/-- A comparison's guard says nothing here. -/
theorem guard_ok {P : Program} {cfg : Cfg} (hc : cfg.Ok P) {x : Cx} {t : TypeId} {a b : V} {ca cb : Value} {r : Bool} (ha : Rep x a ca) (hb : Rep x b cb) (h : aEq cfg t a b = some r) (op : BinOp) (ox oy : Operand) (w : World) :
    (eqGuard op t ox oy ca cb).run P w = .ok () w := by
  unfold aEq at h
  split at h
  · cases h
  · rename_i ty hty
    have ht := hc.ty _ _ hty
    have hu := ht.und
    cases ha <;> try (simp only [eqGuard_at_bool, eqGuard_at_int, eqGuard_at_string, eqGuard_at_pointer, eqGuard_at_slice, eqGuard_at_map, eqGuard_at_func, eqGuard_at_nilFunc, eqGuard_at_iface, eqGuard_at_tuple]; rfl)
    · cases hb <;> try (first | (rw [eqGuard_nil_iface]; rfl) | (cases op <;> rfl))
      · split at h <;> simp_all
        rename_i ms he
        have hu' : P.underlying t = some (.interface #[]) := by rw [ht.und, he]
        have hin : (Op.eqGuardIn Op.maxDepth t .nilIface .nilIface).run P w = .ok false w := by
          have key : ∀ m, (Op.eqGuardIn (m + 1) t .nilIface .nilIface).run P w = .ok false w := fun m => by
            simp only [Op.eqGuardIn, Sem.run_bind, run_underlying hu', Result.andThen_ok]
            rfl
          exact key 9999
        cases op <;> first | rfl | (simp [eqGuard, hin])
    · cases hb with
      | agg hY =>
        split at h <;> simp_all
        · rename_i e; exact run_eqGuard_agg w op t ox oy _ _ (flat_struct hu (ht.flat h.1)).2
        · rename_i n el xs ys h1 h2 e
          split at h
          · split at h
            · rename_i hf; exact run_eqGuard_agg w op t ox oy _ _ (flat_array hu (ht.flat hf.1))
            · cases h
          · cases h
      | _ => cases op <;> rfl

theorem intOp_ok {P : Program} {op : BinOp} {k : IntKind} {a b : Int} {v : V} (h : intOp op k a b = some v) (t : TypeId) (w : World) :
    ∃ c, (binOp op t (.int k a) (.int k b)).run P w = .ok c w ∧ ∀ x, Rep x v c := by
  cases op <;> simp only [intOp, cmpB, Option.map_some, Option.some.injEq, reduceCtorEq] at h
  case add => subst h; exact ⟨_, by simp [binOp, Op.intArith], fun x => .int _ _⟩
  case sub => subst h; exact ⟨_, by simp [binOp, Op.intArith], fun x => .int _ _⟩
  case mul => subst h; exact ⟨_, by simp [binOp, Op.intArith], fun x => .int _ _⟩
  case quo =>
    split at h
    · cases h
    · rename_i hb; injection h with h; subst h; exact ⟨_, by simp [binOp, Op.intDiv, hb], fun x => .int _ _⟩
  case rem =>
    split at h
    · cases h
    · rename_i hb; injection h with h; subst h; exact ⟨_, by simp [binOp, Op.intDiv, hb], fun x => .int _ _⟩
  case and => subst h; exact ⟨_, by simp [binOp, Op.intBits], fun x => .int _ _⟩
  case or => subst h; exact ⟨_, by simp [binOp, Op.intBits], fun x => .int _ _⟩
  case xor => subst h; exact ⟨_, by simp [binOp, Op.intBits], fun x => .int _ _⟩
  case andNot => subst h; exact ⟨_, by simp [binOp, Op.intBits], fun x => .int _ _⟩
  case eql => subst h; exact ⟨_, by simp [binOp, Op.intCmp], fun x => .bool _⟩
  case neq => subst h; exact ⟨_, by simp [binOp, Op.intCmp], fun x => .bool _⟩
  case lss =>
    subst h
    have e : (!leI b a) = decide (a < b) := by rw [leI_eq, Bool.eq_iff_iff]; simp
    exact ⟨.bool (decide (a < b)), by simp [binOp, Op.intCmp], fun x => by rw [e]; exact .bool _⟩
  case leq =>
    subst h
    exact ⟨.bool (decide (a ≤ b)), by simp [binOp, Op.intCmp], fun x => by rw [leI_eq]; exact .bool _⟩
  case gtr =>
    subst h
    have e : (!leI a b) = decide (a > b) := by rw [leI_eq, Bool.eq_iff_iff]; simp
    exact ⟨.bool (decide (a > b)), by simp [binOp, Op.intCmp], fun x => by rw [e]; exact .bool _⟩
  case geq =>
    subst h
    exact ⟨.bool (decide (a ≥ b)), by simp [binOp, Op.intCmp], fun x => by rw [leI_eq]; exact .bool _⟩

theorem shiftOp_ok {P : Program} {op : BinOp} {k l : IntKind} {a b : Int} {v : V} (h : shiftOp op k a b = some v) (t : TypeId) (w : World) :
    ∃ c, (binOp op t (.int k a) (.int l b)).run P w = .ok c w ∧ ∀ x, Rep x v c := by
  unfold shiftOp at h
  split at h
  · cases h
  · rename_i hb
    cases op <;> simp only [Option.some.injEq, reduceCtorEq] at h
    case shl => subst h; exact ⟨_, by simp [binOp, Op.shift, hb], fun x => .int _ _⟩
    case shr => subst h; exact ⟨_, by simp [binOp, Op.shift, hb], fun x => .int _ _⟩

theorem strOp_ok {P : Program} {op : BinOp} {a b : ByteArray} {v : V} (h : strOp op a b = some v) (t : TypeId) (w : World) :
    ∃ c, (binOp op t (.string a) (.string b)).run P w = .ok c w ∧ ∀ x, Rep x v c := by
  cases op <;> simp only [strOp, Option.some.injEq, reduceCtorEq] at h
  case add =>
    split at h
    · rename_i hs
      injection h with h; subst h
      have : ¬ (9223372036854775807 < (a.size : Int) + (b.size : Int)) := by omega
      exact ⟨_, by simp [binOp, Op.stringOp, this], fun x => .str _⟩
    · cases h
  case eql => subst h; exact ⟨_, by simp [binOp, Op.stringOp], fun x => .bool _⟩
  case neq => subst h; exact ⟨_, by simp [binOp, Op.stringOp], fun x => .bool _⟩
  case lss => subst h; exact ⟨_, by simp [binOp, Op.stringOp], fun x => .bool _⟩
  case leq => subst h; exact ⟨_, by simp [binOp, Op.stringOp], fun x => .bool _⟩
  case gtr => subst h; exact ⟨_, by simp [binOp, Op.stringOp], fun x => .bool _⟩
  case geq => subst h; exact ⟨_, by simp [binOp, Op.stringOp], fun x => .bool _⟩

theorem aBin_ok {P : Program} {cfg : Cfg} (hc : cfg.Ok P) {x : Cx} {op : BinOp} {t : TypeId} {a b v : V} {ca cb : Value} (ha : Rep x a ca) (hb : Rep x b cb) (h : aBin cfg op t a b = some v) (ox oy : Operand) (w : World) :
    ∃ c, (do eqGuard op t ox oy ca cb; binOp op t ca cb : Sem Value).run P w = .ok c w ∧ Rep x v c := by
  unfold aBin at h
  split at h
  · rename_i k i l j
    cases ha; cases hb
    have key : ∃ c, (binOp op t (.int k i) (.int l j)).run P w = .ok c w ∧ Rep x v c := by
      split at h
      · obtain ⟨c, h1, h2⟩ := shiftOp_ok (P := P) (l := l) h t w; exact ⟨c, h1, h2 x⟩
      · obtain ⟨c, h1, h2⟩ := shiftOp_ok (P := P) (l := l) h t w; exact ⟨c, h1, h2 x⟩
      · split at h
        · rename_i e; subst e
          obtain ⟨c, h1, h2⟩ := intOp_ok (P := P) h t w; exact ⟨c, h1, h2 x⟩
        · cases h
    obtain ⟨c, h1, h2⟩ := key
    exact ⟨c, by simp only [eqGuard_at_int, Sem.run_bind, Sem.run_pure, Result.andThen_ok, h1], h2⟩
  · cases ha; cases hb
    obtain ⟨c, h1, h2⟩ := strOp_ok (P := P) h t w
    exact ⟨c, by simp only [eqGuard_at_string, Sem.run_bind, Sem.run_pure, Result.andThen_ok, h1], h2 x⟩
  · rename_i hni hns
    have key : ∀ r, aEq cfg t a b = some r → (op = .eql ∨ op = .neq) → (binOp op t ca cb).run P w = .ok (.bool (if op = .eql then r else !r)) w := by
      intro r hr hop
      have he := aEq_ok hc ha hb hr w
      have hne : ∀ op', op' = .eql ∨ op' = .neq → binOp op' t ca cb = (if op' = .eql then (do pure (.bool (← Op.equal t ca cb)) : Sem Value) else do pure (.bool (!(← Op.equal t ca cb)))) := by
        intro op' hop'
        cases ha <;> cases hb <;> first
          | exact absurd rfl (hni _ _ _ _ rfl)
          | exact absurd rfl (hns _ _ rfl)
          | (rcases hop' with rfl | rfl <;> rfl)
      rw [hne op hop]
      rcases hop with rfl | rfl
      · simp [he]
      · simp [he]
    split at h
    · simp only [Option.map_eq_some_iff] at h
      obtain ⟨r, hr, rfl⟩ := h
      refine ⟨.bool r, ?_, .bool r⟩
      have := key r hr (.inl rfl)
      simp only [Sem.run_bind, guard_ok hc ha hb hr, Result.andThen_ok]
      simpa using this
    · simp only [Option.map_eq_some_iff] at h
      obtain ⟨r, hr, rfl⟩ := h
      refine ⟨.bool !r, ?_, .bool _⟩
      have := key r hr (.inr rfl)
      simp only [Sem.run_bind, guard_ok hc ha hb hr, Result.andThen_ok]
      simpa using this
    · cases h

theorem aUn_ok {P : Program} {x : Cx} {op : UnOp} {a v : V} {ca : Value} (ha : Rep x a ca) (h : aUn op a = some v) (w : World) : ∃ c, (Op.unary op ca).run P w = .ok c w ∧ Rep x v c := by
  unfold aUn at h
  split at h
  · cases ha; injection h with h; subst h
    exact ⟨_, by simp [Op.unary, Op.intArith], .int _ _⟩
  · cases ha; injection h with h; subst h
    exact ⟨_, by simp [Op.unary], .bool _⟩
  · cases ha
    simp only [intOp, Option.some.injEq] at h
    subst h
    exact ⟨_, by simp [Op.unary, Op.intBits], .int _ _⟩
  · cases h

end Go.Proofs.YtejjnakhijgkaaaGreatDoor.Ai
