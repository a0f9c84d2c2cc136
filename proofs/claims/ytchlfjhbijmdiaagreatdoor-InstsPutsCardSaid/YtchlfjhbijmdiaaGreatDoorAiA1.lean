/- Part of a reckoning of a Go program over abstract values, proved sound against the model. -/
import Derived.WalkKit
import Derived.LoopN
import Derived.Scope
import Derived.Defers
set_option linter.unusedSimpArgs false
set_option linter.unusedVariables false
namespace Go.Proofs.YtchlfjhbijmdiaaGreatDoor.Ai

inductive V where
 | bool (b:Bool)
 | int (k:IntKind) (n:Int)
 | str (s:ByteArray)
 | nilp
 | ptr (id off:Nat)
 | cptr (cs:List V) (off:Nat)
 | list (es:List V)
 | nils
 | arr (id off len sz:Nat) (ag:Bool) (cp:Nat)
 | map (id:Nat)
 | nilm
 | yield (id:Nat)
 | func (fn:Fn) (first captured:List V)
 | nilf
 | iface (t:TypeId) (v:V)
 | nili
 | agg (cs:List V)
 | tup (vs:List V)
 deriving Inhabited

def V.cells:V→List V
 | .agg cs=>cs
 | v=>[v]

def V.one:V→Bool
 | .agg _ | .tup _=>false
 | _=>true

mutual
def V.beq:V→V→Bool
 | .bool a,.bool b=>a == b
 | .int k a,.int l b=>k == l && a == b
 | .str a,.str b=>decide (a=b)
 | .nilp,.nilp=>true
 | .ptr a b,.ptr c d=>a == c && b == d
 | .cptr a b,.cptr c d=>V.beqL a c && b == d
 | .list a,.list b=>V.beqL a b
 | .nils,.nils=>true
 | .arr a b c d e f,.arr a' b' c' d' e' f'=>a == a' && b == b' && c == c' && d == d' && e == e' && f == f'
 | .map a,.map b=>a == b
 | .nilm,.nilm=>true
 | .yield a,.yield b=>a == b
 | .func a b c,.func a' b' c'=>a == a' && V.beqL b b' && V.beqL c c'
 | .nilf,.nilf=>true
 | .iface t v,.iface t' v'=>t == t' && V.beq v v'
 | .nili,.nili=>true
 | .agg a,.agg b=>V.beqL a b
 | .tup a,.tup b=>V.beqL a b
 | _,_=>false
def V.beqL:List V→List V→Bool
 | [],[]=>true
 | a::l,b::m=>V.beq a b && V.beqL l m
 | _,_=>false
end


mutual
theorem V.eq_of_beq:∀(a b:V),V.beq a b=true→a=b
 | .bool _,b,h=>by cases b <;> simp_all [V.beq]
 | .int _ _,b,h=>by cases b <;> simp_all [V.beq]
 | .str _,b,h=>by cases b <;> simp_all [V.beq]
 | .nilp,b,h=>by cases b <;> simp_all [V.beq]
 | .ptr _ _,b,h=>by cases b <;> simp_all [V.beq]
 | .cptr cs _,b,h=>by cases b <;> simp_all [V.beq]; exact V.eq_of_beqL cs _ h.1
 | .list cs,b,h=>by cases b <;> simp_all [V.beq]; exact V.eq_of_beqL cs _ h
 | .nils,b,h=>by cases b <;> simp_all [V.beq]
 | .arr _ _ _ _ _ _,b,h=>by cases b <;> simp_all [V.beq]
 | .map _,b,h=>by cases b <;> simp_all [V.beq]
 | .nilm,b,h=>by cases b <;> simp_all [V.beq]
 | .yield _,b,h=>by cases b <;> simp_all [V.beq]
 | .func _ x y,b,h=>by cases b <;> simp_all [V.beq]; exact ⟨V.eq_of_beqL x _ h.1.2,V.eq_of_beqL y _ h.2⟩
 | .nilf,b,h=>by cases b <;> simp_all [V.beq]
 | .iface _ v,b,h=>by cases b <;> simp_all [V.beq]; exact V.eq_of_beq v _ h.2
 | .nili,b,h=>by cases b <;> simp_all [V.beq]
 | .agg cs,b,h=>by cases b <;> simp_all [V.beq]; exact V.eq_of_beqL cs _ h
 | .tup cs,b,h=>by cases b <;> simp_all [V.beq]; exact V.eq_of_beqL cs _ h
theorem V.eq_of_beqL:∀(a b:List V),V.beqL a b=true→a=b
 | [],b,h=>by cases b <;> simp_all [V.beqL]
 | a::l,b,h=>by
  cases b with
  | nil=>simp [V.beqL] at h
  | cons b m =>
   simp only [V.beqL,Bool.and_eq_true] at h
   rw [V.eq_of_beq a b h.1,V.eq_of_beqL l m h.2]
end
mutual
theorem V.beq_self:∀(a:V),V.beq a a=true
 | .bool _ | .int _ _ | .str _ | .nilp | .ptr _ _ | .nils | .arr _ _ _ _ _ _ | .map _ | .nilm | .yield _ | .nilf | .nili=>by simp [V.beq]
 | .cptr cs _=>by simp [V.beq,V.beqL_self cs]
 | .list cs=>by simp [V.beq,V.beqL_self cs]
 | .func _ x y=>by simp [V.beq,V.beqL_self x,V.beqL_self y]
 | .iface _ v=>by simp [V.beq,V.beq_self v]
 | .agg cs=>by simp [V.beq,V.beqL_self cs]
 | .tup cs=>by simp [V.beq,V.beqL_self cs]
theorem V.beqL_self:∀(a:List V),V.beqL a a=true
 | []=>by simp [V.beqL]
 | a::l=>by simp [V.beqL,V.beq_self a,V.beqL_self l]
end
instance:DecidableEq V:=fun a b=>if h:V.beq a b=true then .isTrue (V.eq_of_beq a b h) else .isFalse fun e=>h (e ▸ V.beq_self a)


end Go.Proofs.YtchlfjhbijmdiaaGreatDoor.Ai

namespace Go.Proofs.YtchlfjhbijmdiaaGreatDoor.Ai
noncomputable section

/-! the store -/
inductive T (α:Type) where
 | leaf
 | node (l:T α) (v:Option α) (r:T α)

/-- What lies at a number, typed so that the kernel goes down quickly. -/
def T.getD0 {α:Type}:T α→Nat→Option α
 | .leaf,_=>none
 | .node l v r,n=>bif n == 0 then v else bif n % 2 == 1 then T.getD0 l (n / 2) else T.getD0 r (n / 2 - 1)
def T.get {α:Type} (t:T α):Nat→Option α :=
 T.rec (motive:=fun _=>Nat→Option α) (fun _=>none) (fun _ v _ f g n=>bif Nat.beq n 0 then v else bif Nat.beq (n % 2) 1 then f (n / 2) else g (n / 2 - 1)) t

def T.lft {α:Type}:T α→T α
 | .leaf=>.leaf
 | .node l _ _=>l
def T.val {α:Type}:T α→Option α
 | .leaf=>none
 | .node _ v _=>v
def T.rgt {α:Type}:T α→T α
 | .leaf=>.leaf
 | .node _ _ r=>r

def T.set {α:Type}:Nat→T α→Nat→Option α→T α
 | 0,t,_,v=>.node t.lft v t.rgt
 | f+1,t,n,v=>bif n == 0 then .node t.lft v t.rgt else bif n % 2 == 1 then .node (T.set f t.lft (n / 2) v) t.val t.rgt else .node t.lft t.val (T.set f t.rgt (n / 2 - 1) v)

theorem T.get_eq {α:Type} (t:T α) (n:Nat):t.get n=if n=0 then t.val else if n % 2=1 then t.lft.get (n / 2) else t.rgt.get (n / 2 - 1):=by
 cases t with
 | leaf=>simp [T.get,T.lft,T.rgt,T.val]
 | node l o r =>
  simp only [T.get,T.lft,T.rgt,T.val,cond_eq_ite,Nat.beq_eq]

theorem T.get_node {α:Type} (l r:T α) (v:Option α) (n:Nat):(T.node l v r).get n=if n=0 then v else if n % 2=1 then l.get (n / 2) else r.get (n / 2 - 1):=T.get_eq _ _

theorem T.get_set {α:Type}:∀(f:Nat) (t:T α) (n m:Nat) (v:Option α),n≤f→(T.set f t n v).get m=if m=n then v else t.get m:=by
 intro f
 induction f with
 | zero =>
  intro t n m v h
  have:n=0:=by omega
  subst this
  rw [T.get_eq t m,T.set,T.get_node]
  split <;> rfl
 | succ f ih =>
  intro t n m v h
  rw [T.get_eq t m]
  by_cases hn:n=0
  ·subst hn
   rw [T.set,beq_self_eq_true,cond_true,T.get_node]
   split <;> rfl
  ·have hn':(n == 0)=false:=by simpa using hn
   by_cases ho:n % 2=1
   ·have ho':(n % 2 == 1)=true:=by simpa using ho
    rw [T.set,hn',ho',cond_false,cond_true,T.get_node,ih t.lft (n / 2) _ v (by omega)]
    by_cases hm:m=0
    ·rw [if_pos hm,if_pos hm,if_neg (by omega)]
    ·rw [if_neg hm,if_neg hm]
     by_cases hmo:m % 2=1
     ·rw [if_pos hmo,if_pos hmo]
      by_cases e:m=n
      ·rw [if_pos e,if_pos (by rw [e])]
      ·rw [if_neg e,if_neg (by omega)]
     ·rw [if_neg hmo,if_neg hmo,if_neg (by intro e; rw [e] at hmo; exact hmo ho)]
   ·have ho':(n % 2 == 1)=false:=by simpa using ho
    rw [T.set,hn',ho',cond_false,cond_false,T.get_node,ih t.rgt (n / 2 - 1) _ v (by omega)]
    by_cases hm:m=0
    ·rw [if_pos hm,if_pos hm,if_neg (by omega)]
    ·rw [if_neg hm,if_neg hm]
     by_cases hmo:m % 2=1
     ·rw [if_pos hmo,if_pos hmo,if_neg (by intro e; rw [e] at hmo; exact ho hmo)]
     ·rw [if_neg hmo,if_neg hmo]
      by_cases e:m=n
      ·rw [if_pos e,if_pos (by rw [e])]
      ·rw [if_neg e,if_neg (by omega)]

inductive O where
 | cells (cs:List V) (frz:Nat) (ty:TypeId) (ex:Bool)
 | map (es:List (V×V×Nat)) (clock:Nat)
 | iter (m:Option Nat) (since:Nat) (seen:List Nat) (last:Nat)
 | siter (s:ByteArray) (pos:Nat)
 | dblk (up:Bool)
 | loop (st:LoopState) (pd:Option Code) (tm:List V) (ps:Array Tmp) (asg bd:Code)

structure S where
 next:Nat
 tr:T O

def S.empty:S:=⟨0,.leaf⟩
def S.get (s:S) (i:Nat):Option O:=s.tr.get i
def S.put (s:S) (i:Nat) (o:O):S:=⟨s.next,s.tr.set i i (some o)⟩
def S.del (s:S) (i:Nat):S:=⟨s.next,s.tr.set i i none⟩
def S.add (s:S) (i:Nat) (o:O):S:=⟨max s.next (i+1),s.tr.set i i (some o)⟩

@[simp] theorem S.get_empty (i:Nat):S.empty.get i=none:=rfl
theorem S.get_put (s:S) (i j:Nat) (o:O):(s.put i o).get j=if j=i then some o else s.get j:=T.get_set _ _ _ _ _ (Nat.le_refl _)
theorem S.get_del (s:S) (i j:Nat):(s.del i).get j=if j=i then none else s.get j:=T.get_set _ _ _ _ _ (Nat.le_refl _)
theorem S.get_add (s:S) (i j:Nat) (o:O):(s.add i o).get j=if j=i then some o else s.get j:=T.get_set _ _ _ _ _ (Nat.le_refl _)
@[simp] theorem S.next_put (s:S) (i:Nat) (o:O):(s.put i o).next=s.next:=rfl
@[simp] theorem S.next_del (s:S) (i:Nat):(s.del i).next=s.next:=rfl
@[simp] theorem S.next_add (s:S) (i:Nat) (o:O):(s.add i o).next=max s.next (i+1):=rfl

/-! temporaries: lists, typed so that the kernel goes along quickly -/
def nthI (l:List V) (n:Nat):Option V:=l[n]?
def nth (l:List V):Nat→Option V :=
 List.rec (motive:=fun _=>Nat→Option V) (fun _=>none) (fun a _ f n=>bif Nat.beq n 0 then some a else f (Nat.sub n 1)) l
def updLI (l:List V) (v:V) (n:Nat):List V:=l.set n v
def updL (l:List V) (v:V):Nat→List V :=
 List.rec (motive:=fun _=>Nat→List V) (fun _=>[]) (fun a t f n=>bif Nat.beq n 0 then v::t else a::f (Nat.sub n 1)) l

theorem vL:∀(l:List V) (n:Nat),nth l n=l[n]?
 | [],_=>rfl
 | _::_,0=>rfl
 | a::l,n+1=>by
  show nth l n=(a::l)[n+1]?
  rw [vL l n,List.getElem?_cons_succ]

theorem uI (v:V):∀(l:List V) (n:Nat),updL l v n=l.set n v
 | [],_=>rfl
 | _::_,0=>rfl
 | a::l,n+1=>by
  have:=uI v l n
  show a::updL l v n=a::l.set n v
  rw [this]

/-! what is known of the program -/
structure ATy where
 und:TypeDesc
 size:Nat
 bytes:Nat
 zero:V
 flat:Bool

def zS:TypeDesc→Bool
 | .struct _ | .array _ _=>true
 | _=>false

structure Cfg where
 fn:FuncId→Option Func
 ty:TypeId→Option ATy
 glob:Nat→Option (List V)
 pure:FuncId→Nat
 raw:FuncId→Bool
 lies:TypeId→Nat→Nat→TypeId→Bool
 tab:FuncId→List V→Option V
 meth:TypeId→String→Option (FuncId×Option TypeId)
 fresh:FuncId→Option (TypeId×Option Nat)
 ftab:FuncId→List V→Option V
 layr:Bool

inductive DF where
 | fn (fn:Fn) (cap args:List V)
 | mark (id:Nat)

structure AP where
 v:V
 rcv:Bool

inductive AE where
 | ret (v:V)
 | pan (ch:List AP)

inductive AX where
 | normal
 | exit (id:Nat)
 | ret
 | pan (ch:List AP)

inductive R where
 | val (v:V) (s:S)
 | dfr (d:DF) (s:S)
 | pan (ch:List AP) (s:S)

abbrev CallF:=FuncId→List V→S→Option (AE×S)

/-- How functions are run, and the rounds of a range over a function. -/
structure CF where
 fn:CallF
 rd:Nat→List V→S→Option (AE×S)

structure Fr where
 tmps:List V
 dfs:List DF

def yc:V:=.tup []

def Fr.put (fr:Fr) (d:Option Tmp) (v:V):Fr :=
 match d with
 | some t=>{ fr with tmps:=updL fr.tmps v t }
 | none=>fr

/-- A constant of the code. -/
def yf:Nat→Value→Option V
 | _,.bool b=>some (.bool b)
 | _,.int k n=>some (.int k n)
 | _,.string s=>some (.str s)
 | _,.pointer none=>some .nilp
 | _,.slice none 0 0=>some .nils
 | _,.map none=>some .nilm
 | _,.nilFunc=>some .nilf
 | _,.nilIface=>some .nili
 | k+1,.agg cs=>(cs.toList.mapM (yf k)).map .agg
 | k+1,.tuple cs=>(cs.toList.mapM (yf k)).map .tup
 | k+1,.iface t v=>(yf k v).map (.iface t)
 | _,_=>none

def ev (cfg:Cfg) (tmps:List V):Operand→Option V
 | .tmp t=>nth tmps t
 | .const v=>yf 3 v
 | .global g=>(cfg.glob g).map fun cs=>.cptr cs 0
 | .func f=>some (.func (.func f) [] [])

/-! memory -/
def sub (cs:List V) (off size:Nat) (ag:Bool):Option V :=
 if ag then (if off+size≤cs.length then some (.agg ((cs.drop off).take size)) else none) else cs[off]?

def zt (s:S) (size:Nat) (ag:Bool):V→Option V
 | .ptr id off=>match s.get id with
  | some (.cells cs _ _ _)=>sub cs off size ag
  | _=>none
 | .cptr cs off=>sub cs off size ag
 | _=>none

def zl (cs:List V) (off:Nat) (vs:List V):List V:=cs.take off++vs++cs.drop (off+vs.length)

def zr (s:S) (size:Nat) (p v:V):Option S :=
 match p with
 | .ptr id off=>match s.get id with
  | some (.cells cs frz ty ex) =>
   if v.cells.length=size∧off+size≤cs.length∧frz≤off∧v.cells.all V.one then some (s.put id (.cells (zl cs off v.cells) frz ty ex)) else none
  | _=>none
 | _=>none

/-- n elements of sz cells each, as values. -/
def vo (ag:Bool) (sz:Nat):Nat→List V→List V
 | 0,_=>[]
 | n+1,cs=>(if ag then .agg (cs.take sz) else (cs.head?).getD yc)::vo ag sz n (cs.drop sz)

mutual
/-- A value as it lies, its own slices made into lists, which are never written again. -/
def lay:Nat→S→V→Option (V×S)
 | 0,_,_=>none
 | _+1,s,.bool b=>some (.bool b,s)
 | _+1,s,.int k n=>some (.int k n,s)
 | _+1,s,.str b=>some (.str b,s)
 | _+1,s,.nils=>some (.list [],s)
 | _+1,s,.list es=>some (.list es,s)
 | k+1,s,.arr id off len sz ag _ =>
  match s.get id with
  | some (.cells cs _ _ _) =>
   if off+len*sz≤cs.length∧(ag=false→sz=1) then
    match layL k (s.del id) ((cs.drop off).take (len*sz)) with
    | some (cs',s')=>if cs'.all V.one then some (.list (vo ag sz len cs'),s') else none
    | none=>none
   else none
  | _=>none
 | k+1,s,.agg cs=>match layL k s cs with
  | some (cs',s')=>some (.agg cs',s')
  | none=>none
 | k+1,s,.tup cs=>match layL k s cs with
  | some (cs',s')=>some (.tup cs',s')
  | none=>none
 | k+1,s,.iface t v=>match lay k s v with
  | some (v',s')=>some (.iface t v',s')
  | none=>none
 | _+1,s,v=>some (v,s)
def layL:Nat→S→List V→Option (List V×S)
 | 0,_,_=>none
 | _+1,s,[]=>some ([],s)
 | k+1,s,v::l=>match lay k s v with
  | some (v',s')=>match layL k s' l with
   | some (l',s'')=>some (v'::l',s'')
   | none=>none
  | none=>none
end

mutual
/-- A value as it is seen for a while: its slices as lists, its pointers as pointers to what does not change; nothing is taken away. -/
def see:Nat→S→V→Option V
 | 0,_,_=>none
 | _+1,_,.bool b=>some (.bool b)
 | _+1,_,.int k n=>some (.int k n)
 | _+1,_,.str b=>some (.str b)
 | _+1,_,.nils=>some (.list [])
 | _+1,_,.list es=>some (.list es)
 | k+1,s,.arr id off len sz ag _ =>
  match s.get id with
  | some (.cells cs _ _ _) =>
   if off+len*sz≤cs.length∧(ag=false→sz=1) then
    match vy k s ((cs.drop off).take (len*sz)) with
    | some cs'=>if cs'.all V.one then some (.list (vo ag sz len cs')) else none
    | none=>none
   else none
  | _=>none
 | k+1,s,.ptr id off =>
  match s.get id with
  | some (.cells cs _ _ _)=>match vy k s cs with
   | some cs'=>some (.cptr cs' off)
   | none=>none
  | _=>none
 | k+1,s,.func f a b=>match vy k s a,vy k s b with
  | some a',some b'=>some (.func f a' b')
  | _,_=>none
 | k+1,s,.agg cs=>match vy k s cs with
  | some cs'=>some (.agg cs')
  | none=>none
 | k+1,s,.tup cs=>match vy k s cs with
  | some cs'=>some (.tup cs')
  | none=>none
 | k+1,s,.iface t v=>match see k s v with
  | some v'=>some (.iface t v')
  | none=>none
 | _+1,_,v=>some v
def vy:Nat→S→List V→Option (List V)
 | 0,_,_=>none
 | _+1,_,[]=>some []
 | k+1,s,v::l=>match see k s v with
  | some v'=>match vy k s l with
   | some l'=>some (v'::l')
   | none=>none
  | none=>none
end

mutual
/-- No reference into the store. -/
def V.free:V→Bool
 | .ptr _ _ | .arr _ _ _ _ _ _ | .map _ | .yield _=>false
 | .cptr cs _=>V.freeL cs
 | .list es=>V.freeL es
 | .func _ a b=>V.freeL a && V.freeL b
 | .iface _ v=>V.free v
 | .agg cs=>V.freeL cs
 | .tup cs=>V.freeL cs
 | _=>true
def V.freeL:List V→Bool
 | []=>true
 | v::l=>V.free v && V.freeL l
end

end
end Go.Proofs.YtchlfjhbijmdiaaGreatDoor.Ai

