/- Part of a reckoning of a Go program over abstract values, proved sound against the model. -/
import Derived.WalkKit
import Derived.LoopN
import Derived.Scope
import Derived.Defers
namespace Go.Proofs.YtejjnakhijgkaaaGreatDoor.Ai

inductive V where
  | bool (b : Bool)
  | int (k : IntKind) (n : Int)
  | str (s : ByteArray)
  | nilp
  | ptr (id off : Nat)
  | cptr (cs : List V) (off : Nat)
  | list (es : List V)
  | nils
  | arr (id off len sz : Nat) (ag : Bool) (cp : Nat)
  | map (id : Nat)
  | nilm
  | yield (id : Nat)
  | func (fn : Fn) (first captured : List V)
  | nilf
  | iface (t : TypeId) (v : V)
  | nili
  | agg (cs : List V)
  | tup (vs : List V)
  deriving Inhabited

def V.cells : V → List V
  | .agg cs => cs
  | v => [v]

def V.one : V → Bool
  | .agg _ | .tup _ => false
  | _ => true

mutual
def V.beq : V → V → Bool
  | .bool a, .bool b => a == b
  | .int k a, .int l b => k == l && a == b
  | .str a, .str b => decide (a = b)
  | .nilp, .nilp => true
  | .ptr a b, .ptr c d => a == c && b == d
  | .cptr a b, .cptr c d => V.beqL a c && b == d
  | .list a, .list b => V.beqL a b
  | .nils, .nils => true
  | .arr a b c d e f, .arr a' b' c' d' e' f' => a == a' && b == b' && c == c' && d == d' && e == e' && f == f'
  | .map a, .map b => a == b
  | .nilm, .nilm => true
  | .yield a, .yield b => a == b
  | .func a b c, .func a' b' c' => a == a' && V.beqL b b' && V.beqL c c'
  | .nilf, .nilf => true
  | .iface t v, .iface t' v' => t == t' && V.beq v v'
  | .nili, .nili => true
  | .agg a, .agg b => V.beqL a b
  | .tup a, .tup b => V.beqL a b
  | _, _ => false
def V.beqL : List V → List V → Bool
  | [], [] => true
  | a :: l, b :: m => V.beq a b && V.beqL l m
  | _, _ => false
end


mutual
theorem V.eq_of_beq : ∀ (a b : V), V.beq a b = true → a = b
  | .bool _, b, h => by cases b <;> simp_all [V.beq]
  | .int _ _, b, h => by cases b <;> simp_all [V.beq]
  | .str _, b, h => by cases b <;> simp_all [V.beq]
  | .nilp, b, h => by cases b <;> simp_all [V.beq]
  | .ptr _ _, b, h => by cases b <;> simp_all [V.beq]
  | .cptr cs _, b, h => by cases b <;> simp_all [V.beq]; exact V.eq_of_beqL cs _ h.1
  | .list cs, b, h => by cases b <;> simp_all [V.beq]; exact V.eq_of_beqL cs _ h
  | .nils, b, h => by cases b <;> simp_all [V.beq]
  | .arr _ _ _ _ _ _, b, h => by cases b <;> simp_all [V.beq]
  | .map _, b, h => by cases b <;> simp_all [V.beq]
  | .nilm, b, h => by cases b <;> simp_all [V.beq]
  | .yield _, b, h => by cases b <;> simp_all [V.beq]
  | .func _ x y, b, h => by cases b <;> simp_all [V.beq]; exact ⟨V.eq_of_beqL x _ h.1.2, V.eq_of_beqL y _ h.2⟩
  | .nilf, b, h => by cases b <;> simp_all [V.beq]
  | .iface _ v, b, h => by cases b <;> simp_all [V.beq]; exact V.eq_of_beq v _ h.2
  | .nili, b, h => by cases b <;> simp_all [V.beq]
  | .agg cs, b, h => by cases b <;> simp_all [V.beq]; exact V.eq_of_beqL cs _ h
  | .tup cs, b, h => by cases b <;> simp_all [V.beq]; exact V.eq_of_beqL cs _ h
theorem V.eq_of_beqL : ∀ (a b : List V), V.beqL a b = true → a = b
  | [], b, h => by cases b <;> simp_all [V.beqL]
  | a :: l, b, h => by
    cases b with
    | nil => simp [V.beqL] at h
    | cons b m =>
      simp only [V.beqL, Bool.and_eq_true] at h
      rw [V.eq_of_beq a b h.1, V.eq_of_beqL l m h.2]
end
mutual
theorem V.beq_self : ∀ (a : V), V.beq a a = true
  | .bool _ | .int _ _ | .str _ | .nilp | .ptr _ _ | .nils | .arr _ _ _ _ _ _ | .map _ | .nilm | .yield _ | .nilf | .nili => by simp [V.beq]
  | .cptr cs _ => by simp [V.beq, V.beqL_self cs]
  | .list cs => by simp [V.beq, V.beqL_self cs]
  | .func _ x y => by simp [V.beq, V.beqL_self x, V.beqL_self y]
  | .iface _ v => by simp [V.beq, V.beq_self v]
  | .agg cs => by simp [V.beq, V.beqL_self cs]
  | .tup cs => by simp [V.beq, V.beqL_self cs]
theorem V.beqL_self : ∀ (a : List V), V.beqL a a = true
  | [] => by simp [V.beqL]
  | a :: l => by simp [V.beqL, V.beq_self a, V.beqL_self l]
end
instance : DecidableEq V := fun a b => if h : V.beq a b = true then .isTrue (V.eq_of_beq a b h) else .isFalse fun e => h (e ▸ V.beq_self a)

