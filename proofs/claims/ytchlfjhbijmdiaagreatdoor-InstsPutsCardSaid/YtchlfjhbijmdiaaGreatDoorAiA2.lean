/- Part of a reckoning of a Go program over abstract values, proved sound against the model. -/
import Derived.Test.YtchlfjhbijmdiaaGreatDoorAiA1
set_option linter.unusedSimpArgs false
set_option linter.unusedVariables false
namespace Go.Proofs.YtchlfjhbijmdiaaGreatDoor.Ai
noncomputable section

/-- '≤', so that the kernel sees through it also where a number is known in part. -/
def leI:Int→Int→Bool
 | .ofNat m,.ofNat n=>Nat.ble m n
 | .negSucc _,.ofNat _=>true
 | .ofNat _,.negSucc _=>false
 | .negSucc m,.negSucc n=>Nat.ble n m

def cmpB (op:BinOp) (x y:Int):Option Bool :=
 match op with
 | .eql=>some (x == y)
 | .neq=>some (x != y)
 | .lss=>some (!leI y x)
 | .leq=>some (leI x y)
 | .gtr=>some (!leI x y)
 | .geq=>some (leI y x)
 | _=>none

theorem leI_eq (x y:Int):leI x y=decide (x≤y):=by
 cases x with
 | ofNat m =>
  cases y with
  | ofNat n =>
   show Nat.ble m n=_
   rw [Bool.eq_iff_iff,decide_eq_true_iff,Nat.ble_eq]
   exact (Int.ofNat_le).symm
  | negSucc n =>
   show false=_
   symm; rw [decide_eq_false_iff_not]
   have:=Int.negSucc_lt_zero n
   have:=Int.natCast_nonneg m
   show ¬(m:Int)≤Int.negSucc n
   omega
 | negSucc m =>
  cases y with
  | ofNat n =>
   show true=_
   symm; rw [decide_eq_true_iff]
   have:=Int.negSucc_lt_zero m
   have:=Int.natCast_nonneg n
   show Int.negSucc m≤(n:Int)
   omega
  | negSucc n =>
   show Nat.ble n m=_
   rw [Bool.eq_iff_iff,decide_eq_true_iff,Nat.ble_eq,Int.negSucc_eq,Int.negSucc_eq]
   omega

def intOp (op:BinOp) (k:IntKind) (x y:Int):Option V :=
 match op with
 | .add=>some (.int k (k.wrap (x+y)))
 | .sub=>some (.int k (k.wrap (x - y)))
 | .mul=>some (.int k (k.wrap (x*y)))
 | .quo=>if y=0 then none else some (.int k (k.wrap (x.tdiv y)))
 | .rem=>if y=0 then none else some (.int k (x.tmod y))
 | .and=>some (.int k (k.wrap ((BitVec.ofInt k.bits x) &&& (BitVec.ofInt k.bits y)).toNat))
 | .or=>some (.int k (k.wrap ((BitVec.ofInt k.bits x) ||| (BitVec.ofInt k.bits y)).toNat))
 | .xor=>some (.int k (k.wrap ((BitVec.ofInt k.bits x) ^^^ (BitVec.ofInt k.bits y)).toNat))
 | .andNot=>some (.int k (k.wrap ((BitVec.ofInt k.bits x) &&& ~~~(BitVec.ofInt k.bits y)).toNat))
 | .shl | .shr=>none
 | op=>(cmpB op x y).map .bool

def shiftOp (op:BinOp) (k:IntKind) (x y:Int):Option V :=
 if y<0 then none else
 match op with
 | .shl=>some (.int k (k.wrap (x*2 ^ (min y.toNat k.bits))))
 | .shr=>some (.int k (x.fdiv (2 ^ (min y.toNat k.bits))))
 | _=>none

def strOp (op:BinOp) (x y:ByteArray):Option V :=
 match op with
 | .add=>if x.size+y.size≤140737488355328 then some (.str (x++y)) else none
 | .eql=>some (.bool (x.toList == y.toList))
 | .neq=>some (.bool (!(x.toList == y.toList)))
 | .lss=>some (.bool (Op.bytesLess x.toList y.toList))
 | .leq=>some (.bool (Op.bytesLess x.toList y.toList || x.toList == y.toList))
 | .gtr=>some (.bool (!(Op.bytesLess x.toList y.toList || x.toList == y.toList)))
 | .geq=>some (.bool (!(Op.bytesLess x.toList y.toList)))
 | _=>none

/-- '==' of two values that are one cell of a plain type. -/
def eqAt:TypeDesc→V→V→Option Bool
 | .bool,.bool a,.bool b=>some (a == b)
 | .int _,.int k a,.int l b=>if k=l then some (a == b) else none
 | .string,.str a,.str b=>some (a.toList == b.toList)
 | _,_,_=>none

/-- '==' field by field. -/
def eqFs (cfg:Cfg) (xs ys:List V):List Field→Option Bool
 | []=>some true
 | f::fs=>match cfg.ty f.type with
  | none=>none
  | some a=>if f.name= "_" then none else
   match xs[f.offset]?,ys[f.offset]?,eqFs cfg xs ys fs with
   | some x,some y,some r=>match eqAt a.und x y with
    | some b=>some (b && r)
    | none=>none
   | _,_,_=>none

/-- '==' element by element. -/
def eqIs (und:TypeDesc):List V→List V→Option Bool
 | [],[]=>some true
 | a::l,b::m=>match eqAt und a b,eqIs und l m with
  | some x,some y=>some (x && y)
  | _,_=>none
 | _,_=>none

/-- '==' at a type. -/
def aEq (cfg:Cfg) (t:TypeId) (x y:V):Option Bool :=
 match cfg.ty t with
 | none=>none
 | some a =>
  match a.und,x,y with
  | .bool,.bool a,.bool b=>some (a == b)
  | .int _,.int k a,.int l b=>if k=l then some (a == b) else none
  | .string,.str a,.str b=>some (a.toList == b.toList)
  | .pointer _,.nilp,.nilp=>some true
  | .pointer _,.nilp,.ptr _ _ | .pointer _,.ptr _ _,.nilp | .pointer _,.nilp,.cptr _ _ | .pointer _,.cptr _ _,.nilp=>some false
  | .pointer e,.ptr i o,.ptr j p=>if i=j∧(cfg.ty e).any (fun b=>b.size != 0) then some (o == p) else none
  | .interface _,.nili,.iface _ _ | .interface _,.iface _ _,.nili=>some false
  | .interface ms,.nili,.nili=>if ms.isEmpty then some true else none
  | .struct fs,.agg xs,.agg ys=>if a.flat then eqFs cfg xs ys fs.toList else none
  | .array n e,.agg xs,.agg ys=>match cfg.ty e with
   | some b=>if a.flat∧b.size=1∧zS b.und=false∧xs.length=n∧ys.length=n then eqIs b.und xs ys else none
   | none=>none
  | .slice _,.nils,.nils=>some true
  | .slice _,.nils,.arr _ _ _ _ _ _ | .slice _,.arr _ _ _ _ _ _,.nils=>some false
  | .slice _,.nils,.list es | .slice _,.list es,.nils=>if es.isEmpty then none else some false
  | .map _ _,.nilm,.nilm=>some true
  | .map _ _,.nilm,.map _ | .map _ _,.map _,.nilm=>some false
  | .func _ _ _,.nilf,.nilf=>some true
  | .func _ _ _,.nilf,.func _ _ _ | .func _ _ _,.func _ _ _,.nilf=>some false
  | _,_,_=>none

def wN (cfg:Cfg) (op:BinOp) (t:TypeId) (x y:V):Option V :=
 match x,y with
 | .int k a,.int l b =>
  match op with
  | .shl | .shr=>shiftOp op k a b
  | _=>if k=l then intOp op k a b else none
 | .str a,.str b=>strOp op a b
 | x,y =>
  match op with
  | .eql=>(aEq cfg t x y).map .bool
  | .neq=>(aEq cfg t x y).map fun b=>.bool !b
  | _=>none

def aUn (op:UnOp) (x:V):Option V :=
 match op,x with
 | .neg,.int k n=>some (.int k (k.wrap (0 - n)))
 | .not,.bool b=>some (.bool !b)
 | .xor,.int k n=>intOp .xor k (if k.signed then -1 else k.max) n
 | _,_=>none

def wJ (s:ByteArray):List V:=s.data.toList.map fun b=>.int .u8 b.toNat

def vr:List V→Option (List UInt8)
 | []=>some []
 | .int .u8 n::l=>(vr l).map (UInt8.ofNat n.toNat::·)
 | _=>none

/-- The cells and the number of elements of a slice's value, or of a string. -/
def zh (s:S) (sz:Nat):V→Option (List V×Nat)
 | .nils=>some ([],0)
 | .list es=>if es.all (fun e=>e.cells.length == sz) then some (es.flatMap V.cells,es.length) else none
 | .arr id off len sz' _ _=>if sz'=sz then match s.get id with
  | some (.cells cs _ _ _)=>if off+len*sz≤cs.length then some ((cs.drop off).take (len*sz),len) else none
  | _=>none else none
 | .str b=>some (wJ b,b.size)
 | _=>none

def tV:Nat:=100000

def zf:TypeDesc→Bool
 | .slice _ | .string=>true
 | _=>false

def xD (sl:Bool) (s:S) (l:List V):Option (List V×S):=if sl then layL tV s l else some (l,s)

/-- append(x, y...): the elements are laid as plain values where 'sl' says so. -/
def zg (cfg:Cfg) (sl:Bool) (nw:Nat) (s:S) (t u:TypeId) (x y:V):Option (V×S):=do
 let a ← cfg.ty t
 let .slice e:=a.und | none
 let a2 ← cfg.ty u
 if zf a2.und=false then none else
 let b ← cfg.ty e
 let (new,n) ← zh s b.size y
 if n=0 then (match x with | .nils | .arr _ _ _ _ _ _ | .list _=>some (x,s) | _=>none) else
 if b.size=0 then none else
 let (new',s1) ← xD sl s new
 if new'.all V.one∧new'.length=n*b.size then
  match x with
  | .nils =>
   if n*b.bytes≤140737488355328∧n≤140737488355328 then some (.arr nw 0 n b.size (zS b.und) 0,s1.add nw (.cells new' 0 e false)) else none
  | .arr id off len sz ag cp =>
   match s1.get id with
   | some (.cells cs frz e' _) =>
    if sz=b.size∧(len+n)*b.bytes≤140737488355328∧len+n≤140737488355328∧ag=zS b.und∧off+len*sz≤cs.length∧frz≤off+len*sz∧e'=e then
     some (.arr nw 0 (len+n) sz ag (if len+n<cp then cp else 0),(s1.del id).add nw (.cells ((cs.drop off).take (len*sz)++new') (frz - off) e false))
    else none
   | _=>none
  | _=>none
 else none

/-- append; what comes is laid where 'layr' says so. -/
def zj (cfg:Cfg) (sl:Bool) (nw:Nat) (s:S) (t u:TypeId) (x y:V):Option (V×S) :=
 bif cfg.layr then match zg cfg sl nw s t u x y with
  | some (v,s')=>lay tV s' v
  | none=>none
 else zg cfg sl nw s t u x y

def asInt:V→Option Int
 | .int _ n=>some n
 | _=>none

def zn:Option V→Option (Option Int)
 | none=>some none
 | some (.int _ n)=>some (some n)
 | _=>none

def zz (mx:Option Int) (l cp:Nat):Nat :=
 match mx with
 | some m=>m.toNat - l+1
 | none=>cp - l

/-- x[lo:hi:mx]. -/
def zs (cfg:Cfg) (und:TypeDesc) (x:V) (lo hi mx:Option V):Option V:=do
 let lo ← zn lo
 let hi ← zn hi
 let mx ← zn mx
 match und,x with
 | .string,.str b =>
  let l:=lo.getD 0
  let h:=hi.getD b.size
  if mx.isNone∧0≤l∧l≤h∧h≤b.size then some (.str (b.extract l.toNat h.toNat)) else none
 | .slice e,.nils=>do
  let _ ← cfg.ty e
  if lo.getD 0=0∧hi.getD 0=0∧mx.getD 0=0∧(mx.isSome→hi.isSome) then some .nils else none
 | .slice e,.list es=>do
  let b ← cfg.ty e
  let l:=lo.getD 0
  let h:=hi.getD es.length
  if 0≤l∧l≤h∧h≤es.length∧(∀m∈mx,h≤m∧m≤es.length)∧(mx.isSome→hi.isSome)∧(es.head?).all (fun v=>v.cells.length == b.size) then some (.list ((es.drop l.toNat).take (h.toNat - l.toNat))) else none
 | .slice e,.arr id off len sz ag cp=>do
  let b ← cfg.ty e
  let l:=lo.getD 0
  let h:=hi.getD len
  if 0≤l∧l≤h∧h≤len∧(∀m∈mx,h≤m∧m≤len)∧(mx.isSome→hi.isSome)∧sz=b.size then some (.arr id (off+l.toNat*sz) (h.toNat - l.toNat) sz ag (zz mx l.toNat cp)) else none
 | _,_=>none

/-- A field's place. -/
def yC (cfg:Cfg) (t:TypeId) (f:Nat):Option (Nat×Nat×Bool):=do
 let a ← cfg.ty t
 let .struct fs:=a.und | none
 let fd ← fs[f]?
 let b ← cfg.ty fd.type
 some (fd.offset,b.size,zS b.und)

def ze (cfg:Cfg) (t:TypeId) (p:V) (f:Nat):Option V:=do
 let (off,sz,_) ← yC cfg t f
 if sz=0 then none else
 match p with
 | .ptr id o=>some (.ptr id (o+off))
 | .cptr cs o=>some (.cptr cs (o+off))
 | _=>none

def zq (cfg:Cfg) (t:TypeId) (x:V) (f:Nat):Option V:=do
 let (off,sz,ag) ← yC cfg t f
 match x with
 | .agg cs=>sub cs off sz ag
 | _=>none

def zd (cfg:Cfg) (t:TypeId) (x i:V):Option V:=do
 let a ← cfg.ty t
 let n ← asInt i
 match a.und,x with
 | .slice e,.arr id off len sz _ _=>do
  let b ← cfg.ty e
  if sz=b.size∧0≤n∧n<len then some (.ptr id (off+n.toNat*sz)) else none
 | .slice e,.list es=>do
  let b ← cfg.ty e
  if 0≤n then match es[n.toNat]? with
   | some v=>if v.cells.length=b.size then some (.cptr v.cells 0) else none
   | none=>none else none
 | .array len e,.ptr id off=>do
  let b ← cfg.ty e
  if 0≤n∧n<len then some (.ptr id (off+n.toNat*b.size)) else none
 | .array len e,.cptr cs off=>do
  let b ← cfg.ty e
  if 0≤n∧n<len then some (.cptr cs (off+n.toNat*b.size)) else none
 | _,_=>none

def zp (cfg:Cfg) (t:TypeId) (x i:V):Option V:=do
 let a ← cfg.ty t
 let n ← asInt i
 match a.und,x with
 | .array len e,.agg cs=>do
  let b ← cfg.ty e
  if 0≤n∧n<len then sub cs (n.toNat*b.size) b.size (zS b.und) else none
 | .string,.str s=>if 0≤n then (s[n.toNat]?).map fun b=>.int .u8 b.toNat else none
 | _,_=>none

/-- The first entry with a key. -/
def uR (eq:V→V→Option Bool) (k:V):List (V×V×Nat)→Nat→Option (Option (Nat×V))
 | [],_=>some none
 | e::es,i=>match eq k e.1 with
  | some true=>some (some (i,e.2.1))
  | some false=>uR eq k es (i+1)
  | none=>none

def keyEq (cfg:Cfg) (kt:TypeId) (a b:V):Option Bool:=aEq cfg kt a b

def plainD:TypeDesc→Bool
 | .bool | .int _ | .string=>true
 | _=>false

def plainFs (cfg:Cfg) (cs:List V):List Field→Bool
 | []=>true
 | f::fs=>(match cfg.ty f.type with
  | some a=>plainD a.und
  | none=>false) && decide (f.offset<cs.length) && plainFs cfg cs fs

/-- Keys of plain kinds: they have no part that cannot be compared. -/
def yL (cfg:Cfg) (kt:TypeId) (k:V):Bool :=
 match cfg.ty kt with
 | none=>false
 | some a=>match a.und,k with
  | .bool,.bool _ | .int _,.int _ _ | .string,.str _=>true
  | .struct fs,.agg cs=>plainFs cfg cs fs.toList
  | _,_=>false

def vE:V→Bool
 | .bool _ | .int _ _ | .str _=>true
 | _=>false

def uK:V→Bool
 | .agg cs=>cs.all vE
 | v=>vE v

def zi (s:S):V→Option (List (V×V×Nat))
 | .nilm=>some []
 | .map id=>match s.get id with
  | some (.map es _)=>some es
  | _=>none
 | _=>none

def yI (cfg:Cfg) (s:S) (t:TypeId) (m k:V) (ok:Bool):Option V:=do
 let a ← cfg.ty t
 let .map kt e:=a.und | none
 let z ← cfg.ty e
 if !yL cfg kt k then none else
 let es ← zi s m
 let r ← uR (keyEq cfg kt) k es 0
 match r with
 | some (_,v)=>some (if ok then .tup [v,.bool true] else v)
 | none=>some (if ok then .tup [z.zero,.bool false] else z.zero)

/-- The key that stays has the same bits. -/
def yj (cfg:Cfg) (s:S) (t:TypeId) (m k v:V):Option S:=do
 let a ← cfg.ty t
 let .map kt _:=a.und | none
 if !yL cfg kt k then none else
 match m with
 | .map id=>match s.get id with
  | some (.map es clock)=>do
   let r ← uR (keyEq cfg kt) k es 0
   match r with
   | some (i,_)=>if (es[i]?).any (fun e=>decide (e.1=k)) && uK k then some (s.put id (.map (es.modify i fun e=>(k,v,e.2.2)) clock)) else none
   | none=>some (s.put id (.map (es++[(k,v,clock)]) (clock+1)))
  | _=>none
 | _=>none

/-- delete(m, k). -/
def aDelete (cfg:Cfg) (s:S) (t:TypeId) (m k:V):Option S:=do
 let a ← cfg.ty t
 let .map kt _:=a.und | none
 if !yL cfg kt k then none else
 match m with
 | .nilm=>some s
 | .map id=>match s.get id with
  | some (.map es clock)=>do
   let r ← uR (keyEq cfg kt) k es 0
   match r with
   | some (i,_)=>some (s.put id (.map (es.eraseIdx i) clock))
   | none=>some (s.put id (.map es clock))
  | _=>none
 | _=>none

def zu (place:Nat→Option (Nat×Nat)) (cells:List V):List (Nat×V)→Option (List V)
 | []=>some cells
 | (i,v)::rest =>
  match place i with
  | none=>none
  | some (off,size) =>
   if v.cells.length≠size∨off+v.cells.length > cells.length then none
   else zu place (zl cells off v.cells) rest

def yP (cfg:Cfg) (tmps:List V):List (Nat×Operand)→Option (List (Nat×V))
 | []=>some []
 | (i,x)::l=>match ev cfg tmps x,yP cfg tmps l with
  | some v,some r=>some ((i,v)::r)
  | _,_=>none

def evL (cfg:Cfg) (tmps:List V):List Operand→Option (List V)
 | []=>some []
 | x::l=>match ev cfg tmps x,evL cfg tmps l with
  | some v,some r=>some (v::r)
  | _,_=>none

def wh (cfg:Cfg):List Field→Option (List (Nat×Nat))
 | []=>some []
 | f::l=>match cfg.ty f.type,wh cfg l with
  | some b,some r=>some ((f.offset,b.size)::r)
  | _,_=>none

def xh (cfg:Cfg) (t:TypeId) (parts:List (Nat×V)):Option V:=do
 let a ← cfg.ty t
 match a.und with
 | .struct fs=>do
  let ps ← wh cfg fs.toList
  let cs ← zu (ps[·]?) a.zero.cells parts
  some (.agg cs)
 | .array _ e=>do
  let b ← cfg.ty e
  let cs ← zu (fun i=>some (i*b.size,b.size)) a.zero.cells parts
  some (.agg cs)
 | _=>none

def zk (z:List V):Nat→List V
 | 0=>[]
 | n+1=>z++zk z n

def za (cfg:Cfg) (nw:Nat) (s:S) (t:TypeId) (len:Nat) (parts:List (Nat×V)):Option (V×S):=do
 let a ← cfg.ty t
 let .slice e:=a.und | none
 let b ← cfg.ty e
 if b.size=0∨len*b.size > 16777216 then none else
 let cs ← zu (fun i=>some (i*b.size,b.size)) (zk b.zero.cells len) parts
 if cs.all V.one then some (.arr nw 0 len b.size (zS b.und) (len+1),s.add nw (.cells cs 0 e true)) else none

def zb (cfg:Cfg) (nw:Nat) (s:S) (t:TypeId) (len cap:V):Option (V×S):=do
 let a ← cfg.ty t
 let .slice e:=a.und | none
 let b ← cfg.ty e
 let n ← asInt len
 let c ← asInt cap
 if b.size≠0∧0≤n∧n≤c∧c*b.bytes≤140737488355328∧c≤140737488355328 then
  some (.arr nw 0 n.toNat b.size (zS b.und) (c.toNat+1),s.add nw (.cells (zk b.zero.cells n.toNat) 0 e (n == c)))
 else none

def yo (cfg:Cfg) (nw:Nat) (s:S) (src dst:TypeId) (x:V):Option (V×S):=do
 let a ← cfg.ty src
 let b ← cfg.ty dst
 match a.und,b.und,x with
 | .int _,.int k,.int _ n=>some (.int k (k.wrap n),s)
 | .string,.string,.str c=>some (.str c,s)
 | .slice e,.string,x=>do
  let i ← cfg.ty e
  let .int .u8:=i.und | none
  match x with
  | .nils=>some (.str .empty,s)
  | x=>do
   let (cs,_) ← zh s 1 x
   let l ← vr cs
   match x with
   | .str _=>none
   | _=>some (.str ⟨l.toArray⟩,s)
 | .string,.slice e,.str c=>do
  let i ← cfg.ty e
  let .int .u8:=i.und | none
  if c.size≤140737488355328 then some (.arr nw 0 c.size 1 false 0,s.add nw (.cells (wJ c) 0 e false)) else none
 | .pointer _,.unsafePointer,.nilp=>some (.nilp,s)
 | .pointer t,.unsafePointer,.ptr id off=>do
  let i ← cfg.ty t
  match s.get id with
  | some (.cells cs _ _ _)=>if i.size≠0∧off<cs.length then some (.ptr id off,s) else none
  | _=>none
 | .unsafePointer,.pointer _,.nilp=>some (.nilp,s)
 | .unsafePointer,.pointer u,.ptr id off=>do
  let _ ← cfg.ty u
  match s.get id with
  | some (.cells cs _ e ex)=>if ex∧cfg.lies e cs.length off u then some (.ptr id off,s) else none
  | _=>none
 | _,_,_=>none

def max2V:V→V→Option V
 | .int k x,.int l y=>if k=l then some (.int k (if y > x then y else x)) else none
 | _,_=>none
def min2V:V→V→Option V
 | .int k x,.int l y=>if k=l then some (.int k (if y<x then y else x)) else none
 | _,_=>none
def foldV (g:V→V→Option V):V→List V→Option V
 | x,[]=>some x
 | x,y::r=>match g x y with
  | some z=>foldV g z r
  | none=>none

end
end Go.Proofs.YtchlfjhbijmdiaaGreatDoor.Ai

