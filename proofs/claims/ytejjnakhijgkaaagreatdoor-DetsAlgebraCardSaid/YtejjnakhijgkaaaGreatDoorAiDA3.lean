/- Part of a reckoning of a Go program over abstract values, proved sound against the model. -/
import Derived.Test.YtejjnakhijgkaaaGreatDoorAiDA1
namespace Go.Proofs.YtejjnakhijgkaaaGreatDoor.Ai
open Go.Proofs
set_option maxRecDepth 100000

/-! what the operations give -/
def mFail (d : Nat) : Bool := match d with
  | 1 | 3 | 5 | 7 => true
  | _ => false
def mNum (d : Nat) : Nat := match d with
  | 0 | 1 | 4 | 5 => 1
  | 2 | 3 => 2
  | _ => 0
def detOf (f : Bool) (n : Nat) : Int := match f, n with
  | false, 0 => 6
  | false, 1 => 0
  | false, _ => 2
  | true, 0 => 7
  | true, 1 => 1
  | true, _ => 3
def maxN (a b : Nat) : Nat := bif Nat.ble a b then b else a
def conjT (d e : Nat) : Int := match mNum d, mNum e with
  | 0, _ => detOf (mFail d) 0
  | _ + 1, 0 => detOf (mFail d || mFail e) 0
  | _ + 1, _ + 1 => detOf (mFail d || mFail e) (maxN (mNum d) (mNum e))
def disjT (d e : Nat) : Int := match mNum d, mNum e with
  | 0, n => detOf (mFail d && mFail e) n
  | n + 1, 0 => detOf (mFail d && mFail e) (n + 1)
  | _ + 1, _ + 1 => detOf (mFail d && mFail e) 2
def switchT (d e : Nat) : Int := detOf (mFail d || mFail e) (maxN (mNum d) (mNum e))
def notT (d : Nat) : Int := match mFail d, mNum d with
  | false, 0 => 6
  | true, 0 => 0
  | false, _ => 7
  | true, _ => 1
def commitT (d : Nat) : Int := detOf (mFail d) (match mNum d with
  | 0 => 0
  | _ => 1)

noncomputable abbrev r1 (f : FuncId) (d : Int) : Option V := pureCall (call cfg0 200) f [.int .i64 d]
noncomputable abbrev r2 (f : FuncId) (d e : Int) : Option V := pureCall (call cfg0 200) f [.int .i64 d, .int .i64 e]
theorem conj6 (k m : Nat) : ints2 (fun d e => isInt (r2 6 d e) (conjT (cl d) (cl e))) k m = true := by kernel_rfl
theorem conj7 (k m : Nat) : ints2 (fun d e => isInt (r2 7 d e) (conjT (cl d) (cl e))) k m = true := by kernel_rfl
theorem disj8 (k m : Nat) : ints2 (fun d e => isInt (r2 8 d e) (disjT (cl d) (cl e))) k m = true := by kernel_rfl
theorem disj9 (k m : Nat) : ints2 (fun d e => isInt (r2 9 d e) (disjT (cl d) (cl e))) k m = true := by kernel_rfl
theorem switch10 (k m : Nat) : ints2 (fun d e => isInt (r2 10 d e) (switchT (cl d) (cl e))) k m = true := by kernel_rfl
theorem switch11 (k m : Nat) : ints2 (fun d e => isInt (r2 11 d e) (switchT (cl d) (cl e))) k m = true := by kernel_rfl
theorem not12 (k : Nat) : ints1 (fun d => isInt (r1 12 d) (notT (cl d))) k = true := by kernel_rfl
theorem not13 (k : Nat) : ints1 (fun d => isInt (r1 13 d) (notT (cl d))) k = true := by kernel_rfl
theorem commit16 (k : Nat) : ints1 (fun d => isInt (r1 16 d) (commitT (cl d))) k = true := by kernel_rfl
theorem commit17 (k : Nat) : ints1 (fun d => isInt (r1 17 d) (commitT (cl d))) k = true := by kernel_rfl

def opVal1 (f : FuncId) (d : Nat) : Option Int :=
  bif Nat.beq f 12 || Nat.beq f 13 then some (notT d) else bif Nat.beq f 16 || Nat.beq f 17 then some (commitT d) else none
def opVal2 (f : FuncId) (d e : Nat) : Option Int :=
  bif Nat.beq f 6 || Nat.beq f 7 then some (conjT d e) else bif Nat.beq f 8 || Nat.beq f 9 then some (disjT d e) else bif Nat.beq f 10 || Nat.beq f 11 then some (switchT d e) else none

theorem pure1 {f : FuncId} {fn : Func} (hf : cfg0.fn f = some fn) {d r : Int} (h : isInt (r1 f d) r = true) : PureOk Tryz.prog cfg0 f [.int .i64 d] (.int .i64 r) := pure_ok ok0 hf (isInt_eq h)
theorem pure2 {f : FuncId} {fn : Func} (hf : cfg0.fn f = some fn) {d e r : Int} (h : isInt (r2 f d e) r = true) : PureOk Tryz.prog cfg0 f [.int .i64 d, .int .i64 e] (.int .i64 r) := pure_ok ok0 hf (isInt_eq h)

theorem op1_ok {f : FuncId} {d r : Int} (h : opVal1 f (cl d) = some r) : PureOk Tryz.prog cfg0 f [.int .i64 d] (.int .i64 r) := by
  unfold opVal1 at h
  simp only [cond_eq_ite, Bool.or_eq_true, Nat.beq_eq] at h
  split at h
  · injection h with h; subst h
    rename_i hf
    rcases hf with rfl | rfl
    · exact pure1 (fn := Tryz.f12) (by kernel_rfl) (ints1_all not12 d)
    · exact pure1 (fn := Tryz.f13) (by kernel_rfl) (ints1_all not13 d)
  · split at h
    · injection h with h; subst h
      rename_i hf
      rcases hf with rfl | rfl
      · exact pure1 (fn := Tryz.f16) (by kernel_rfl) (ints1_all commit16 d)
      · exact pure1 (fn := Tryz.f17) (by kernel_rfl) (ints1_all commit17 d)
    · cases h

theorem op2_ok {f : FuncId} {d e r : Int} (h : opVal2 f (cl d) (cl e) = some r) : PureOk Tryz.prog cfg0 f [.int .i64 d, .int .i64 e] (.int .i64 r) := by
  unfold opVal2 at h
  simp only [cond_eq_ite, Bool.or_eq_true, Nat.beq_eq] at h
  split at h
  · injection h with h; subst h
    rename_i hf
    rcases hf with rfl | rfl
    · exact pure2 (fn := Tryz.f6) (by kernel_rfl) (ints2_all conj6 d e)
    · exact pure2 (fn := Tryz.f7) (by kernel_rfl) (ints2_all conj7 d e)
  · split at h
    · injection h with h; subst h
      rename_i hf
      rcases hf with rfl | rfl
      · exact pure2 (fn := Tryz.f8) (by kernel_rfl) (ints2_all disj8 d e)
      · exact pure2 (fn := Tryz.f9) (by kernel_rfl) (ints2_all disj9 d e)
    · split at h
      · injection h with h; subst h
        rename_i hf
        rcases hf with rfl | rfl
        · exact pure2 (fn := Tryz.f10) (by kernel_rfl) (ints2_all switch10 d e)
        · exact pure2 (fn := Tryz.f11) (by kernel_rfl) (ints2_all switch11 d e)
      · cases h
end Go.Proofs.YtejjnakhijgkaaaGreatDoor.Ai
