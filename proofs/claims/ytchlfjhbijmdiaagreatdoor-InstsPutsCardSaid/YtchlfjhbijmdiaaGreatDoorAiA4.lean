/- Part of a reckoning of a Go program over abstract values, proved sound against the model. -/
import Derived.Test.YtchlfjhbijmdiaaGreatDoorAiA2
set_option linter.unusedSimpArgs false
set_option linter.unusedVariables false
namespace Go.Proofs.YtchlfjhbijmdiaaGreatDoor.Ai
noncomputable section

/-- What a call of a function gives: first what 'tab' knows; else by what the table says of it: 1: it is run alone, with an empty store; 2, 3: so, with what the arguments refer to lent (3: as a change of the store); else: as it is. -/
def uf (cf:CallF) (f:FuncId) (args:List V):Option V :=
 if V.freeL args then
  match cf f args S.empty with
  | some (.ret v,s')=>match see tV s' v with
   | some v'=>if v'.free then some v' else none
   | none=>none
  | _=>none
 else none

mutual
/-- A value without slices. -/
def V.flatv:V→Bool
 | .bool _ | .int _ _ | .str _ | .nilp | .nilm | .nilf | .nili=>true
 | .iface _ v=>V.flatv v
 | .agg cs=>V.flatvL cs
 | .tup cs=>V.flatvL cs
 | _=>false
def V.flatvL:List V→Bool
 | []=>true
 | v::l=>V.flatv v && V.flatvL l
end

def wU (cfg:Cfg) (cf:CallF) (f:FuncId) (args:List V) (s:S):Option V :=
 match vy tV s args with
 | some args'=>if V.freeL args' then
   match cfg.tab f args' with
   | some v=>if v.flatv then some v else none
   | none=>match cf f args' S.empty with
    | some (.ret v,_)=>if v.flatv then some v else none
    | _=>none
  else none
 | none=>none

def zF (cfg:Cfg) (cf:CF) (f:FuncId) (args:List V) (s:S):Option R :=
 match cfg.tab f args with
 | some v=>some (.val v s)
 | none=>match cfg.pure f with
  | 1=>(uf cf.fn f args).map (.val · s)
  | 2 | 3=>(wU cfg cf.fn f args s).map (.val · s)
  | _=>match cf.fn f args s with
   | some (.ret v,s')=>some (.val v s')
   | some (.pan ch,s')=>some (.pan ch s')
   | none=>none

/-- Functions without a Go body, by what the table says. -/
def extOp (cfg:Cfg) (f:FuncId) (args:List V):Option V :=
 match cfg.pure f,args with
 | 10,[x]=>some x
 | 11,[.str a,.str b]=>some (.int .i64 (Extern.BytealgCompare.cmp a b))
 | 12,[.str a,.int .u8 c]=>some (.int .i64 (match (List.range a.size).find? fun i=>a[i]! == UInt8.ofNat c.toNat with | some i=>(i:Int) | none=>-1))
 | _,_=>none

def zy (s:S) (und:TypeDesc) (x:V):Option V :=
 match und,x with
 | .string,.str b=>some (.int .i64 b.size)
 | .slice _,.nils=>some (.int .i64 0)
 | .slice _,.list es=>some (.int .i64 es.length)
 | .slice _,.arr _ _ len _ _ _=>some (.int .i64 len)
 | .array n _,_=>some (.int .i64 n)
 | .map _ _,.nilm=>some (.int .i64 0)
 | .map _ _,.map id=>match s.get id with
  | some (.map es _)=>some (.int .i64 es.length)
  | _=>none
 | _,_=>none

def aCopy (s:S) (w:Nat) (x y:V):Option (V×S) :=
 match x with
 | .arr id off len sz _ _ =>
  match s.get id,zh s w y with
  | some (.cells cs frz e ex),some (new,n) =>
   let k:=min n len
   if sz=w∧off+len*w≤cs.length∧frz≤off∧new.all V.one∧new.length=n*w then some (.int .i64 k,s.put id (.cells (zl cs off (new.take (k*w))) frz e ex)) else none
  | _,_=>none
 | _=>none

def ye (cfg:Cfg) (sl:Bool) (nw:Nat) (s:S) (b:Builtin) (types:List TypeId) (args:List V):Option R :=
 match b,types,args with
 | .len,t::_,[x]=>do
  let a ← cfg.ty t
  (zy s a.und x).map (.val · s)
 | .cap,t::_,[x]=>do
  let a ← cfg.ty t
  match a.und,x with
  | .slice _,.nils=>some (.val (.int .i64 0) s)
  | .slice _,.arr _ _ _ _ _ cp=>if cp=0 then none else some (.val (.int .i64 ((cp - 1:Nat):Int)) s)
  | _,_=>none
 | .append,[t,u],[x,y]=>(zj cfg sl nw s t u x y).map fun r=>.val r.1 r.2
 | .copy,t::_,[x,y]=>do
  let a ← cfg.ty t
  let .slice e:=a.und | none
  let b ← cfg.ty e
  (aCopy s b.size x y).map fun r=>.val r.1 r.2
 | .delete,t::_,[m,k]=>(aDelete cfg s t m k).map (.val (.tup []) ·)
 | .max,_,x::r=>(foldV max2V x r).map (.val · s)
 | .min,_,x::r=>(foldV min2V x r).map (.val · s)
 | .unsafeSliceData,_,[x]=>match x with
  | .nils=>some (.val .nilp s)
  | .arr id off len _ _ _=>if len=0 then none else some (.val (.ptr id off) s)
  | _=>none
 | .unsafeString,_::_,[.nilp,.int _ 0]=>some (.val (.str .empty) s)
 | .unsafeString,pt::_,[.ptr id off,.int _ n]=>do
  let a ← cfg.ty pt
  let .pointer u:=a.und | none
  let b ← cfg.ty u
  match s.get id with
  | some (.cells cs _ e _) =>
   if 0<n∧n≤9223372036854775807∧u=e∧b.size=1∧off+n.toNat≤cs.length then match vr ((cs.drop off).take n.toNat) with
    | some l=>some (.val (.str ⟨l.toArray⟩) (s.del id))
    | none=>none
   else none
  | _=>none
 | _,_,_=>none

/-- A slice that nobody else has, as the function's own. -/
def zw (nw:Nat) (t:TypeId) (b:ATy) (es:List V) (s:S):Option (V×S) :=
 if es.isEmpty then some (.list [],s)
 else if es.all (fun e=>e.cells.length == b.size && e.cells.all V.one)∧b.size≠0 then some (.arr nw 0 es.length b.size (zS b.und) 0,s.add nw (.cells (es.flatMap V.cells) 0 t false)) else none

def zA (cfg:Cfg) (nw:Nat) (f:FuncId) (v:V) (s:S):Option (V×S) :=
 match cfg.fresh f with
 | none=>none
 | some (t,pos)=>match cfg.ty t with
  | none=>none
  | some b=>match pos,v with
   | none,.list es=>zw nw t b es s
   | none,.nils=>some (.nils,s)
   | some k,.agg cs=>match cs[k]? with
    | some (.list es)=>match zw nw t b es s with
     | some (v',s')=>some (.agg (cs.set k v'),s')
     | none=>none
    | _=>none
   | _,_=>none

/-- A call, of a function that is known to give something new or of another one. -/
def xq (cfg:Cfg) (cf:CF) (nw:Nat) (f:FuncId) (args:List V) (s:S):Option R :=
 match cfg.pure f with
 | 8=>match cfg.ftab f args with
  | some v=>(zA cfg nw f v s).map fun p=>.val p.1 p.2
  | none=>none
 | _=>zF cfg cf f args s

/-- A method's call. -/
def methOp (cfg:Cfg) (cf:CF) (nw:Nat) (g:FuncId) (args:List V) (s:S):Option R :=
 match cfg.fn g with
 | some fn=>if fn.body.isNone then none else xq cfg cf nw g args s
 | none=>none

def yY (cfg:Cfg) (cf:CF) (sl:Bool) (nw:Nat) (c:Call) (tmps:List V) (s:S):Option R :=
 match evL cfg tmps c.args.toList with
 | none=>none
 | some args =>
  match c.callee with
  | .builtin b=>ye cfg sl nw s b c.argTypes.toList args
  | .value f=>match ev cfg tmps f with
   | some (.func (.func g) first cap)=>match cfg.fn g with
    | some fn=>if fn.body.isNone then (extOp cfg g (first++args++cap)).map (.val · s) else xq cfg cf nw g (first++args++cap) s
    | none=>none
   | some (.yield id)=>match cf.rd id args s with
    | some (.ret v,s')=>some (.val v s')
    | _=>none
   | _=>none
  | .invoke ro name=>match ev cfg tmps ro with
   | some (.iface t v)=>match cfg.meth t name with
    | some (g,none)=>methOp cfg cf nw g (v::args) s
    | some (g,some e)=>match cfg.ty e with
     | some a=>match zt s a.size (zS a.und) v with
      | some r=>methOp cfg cf nw g (r::args) s
      | none=>none
     | none=>none
    | none=>none
   | _=>none

def aRange (cfg:Cfg) (nw:Nat) (s:S) (t:TypeId) (x:V):Option (V×S):=do
 let a ← cfg.ty t
 match a.und,x with
 | .string,.str b=>some (.ptr nw 0,s.add nw (.siter b 0))
 | .map _ _,.nilm=>some (.ptr nw 0,s.add nw (.iter none 0 [] 0))
 | .map _ _,.map id=>match s.get id with
  | some (.map _ clock)=>some (.ptr nw 0,s.add nw (.iter (some id) clock [] clock))
  | _=>none
 | _,_=>none

/-- A step: over a map only where there is no choice. -/
def aNext (s:S) (it:V) (str:Bool):Option (V×S) :=
 match it with
 | .ptr r 0=>match s.get r,str with
  | some (.siter b pos),true=>if pos<b.size then some (.tup [.bool true,.int .i64 pos,.int .i32 (Utf8.decode b pos).1],s.put r (.siter b (pos+(Utf8.decode b pos).2))) else some (.tup [.bool false],s)
  | some (.iter none _ _ _),false=>some (.tup [.bool false],s)
  | some (.iter (some id) since seen last),false=>match s.get id with
   | some (.map es clock) =>
    if !seen.isEmpty && !es.isEmpty && es.all (fun e=>decide (last≤e.2.2)) then none
    else match (es.filter fun e=>!seen.contains e.2.2).filter (fun e=>decide (e.2.2<since)),(es.filter fun e=>!seen.contains e.2.2).filter (fun e=>decide (since≤e.2.2)) with
     | [],[]=>some (.tup [.bool false],s)
     | [e],[]=>some (.tup [.bool true,e.1,e.2.1],s.put r (.iter (some id) since (seen++[e.2.2]) clock))
     | _,_=>none
   | _=>none
  | _,_=>none
 | _=>none

def aEntry (s:S) (it:V):Option V :=
 match it with
 | .ptr r 0=>match s.get r with
  | some (.iter (some id) _ seen stepped)=>match s.get id,seen.getLast? with
   | some (.map es clock),some stamp=>if clock=stepped then (es.find? (fun e=>e.2.2 == stamp)).map fun e=>.tup [e.1,e.2.1] else none
   | _,_=>none
  | _=>none
 | _=>none

def evO (cfg:Cfg) (tmps:List V):Option Operand→Option (Option V)
 | none=>some none
 | some x=>(ev cfg tmps x).map some

def opMove (cfg:Cfg) (tmps:List V) (s:S) (x:Operand):Option R:=(ev cfg tmps x).map (.val · s)
def opPick (cfg:Cfg) (tmps:List V) (s:S) (c a b:Operand):Option R:=match ev cfg tmps c with
 | some (.bool t)=>(ev cfg tmps (if t then a else b)).map (.val · s)
 | _=>none
def opAlloc (cfg:Cfg) (nw:Nat) (s:S) (t:TypeId):Option R:=do
 let a ← cfg.ty t
 some (.val (.ptr nw 0) (s.add nw (.cells a.zero.cells 0 t true)))
def opBox (cfg:Cfg) (nw:Nat) (tmps:List V) (s:S) (t:TypeId) (x:Operand):Option R:=do
 let v ← ev cfg tmps x
 if v.cells.all V.one then some (.val (.ptr nw 0) (s.add nw (.cells v.cells 0 t true))) else none
def opBuild (cfg:Cfg) (tmps:List V) (s:S) (t:TypeId) (ps:Array (Nat×Operand)):Option R:=do
 let ps ← yP cfg tmps ps.toList
 (xh cfg t ps).map (.val · s)
def wl (cfg:Cfg) (nw:Nat) (tmps:List V) (s:S) (t:TypeId) (n:Nat) (ps:Array (Nat×Operand)):Option R:=do
 let ps ← yP cfg tmps ps.toList
 (za cfg nw s t n ps).map fun r=>.val r.1 r.2
def opLoad (cfg:Cfg) (tmps:List V) (s:S) (t:TypeId) (p:Operand):Option R:=do
 let a ← cfg.ty t
 let p ← ev cfg tmps p
 (zt s a.size (zS a.und) p).map (.val · s)
def opStore (cfg:Cfg) (tmps:List V) (s:S) (t:TypeId) (p x:Operand):Option R:=do
 let a ← cfg.ty t
 let p ← ev cfg tmps p
 let v ← ev cfg tmps x
 (zr s a.size p v).map (.val yc ·)
def opNilCheck (cfg:Cfg) (tmps:List V) (s:S) (x:Operand):Option R:=match ev cfg tmps x with
 | some (.ptr i o)=>some (.val (.ptr i o) s)
 | some (.cptr c o)=>some (.val (.cptr c o) s)
 | some (.func (.func g) a b)=>some (.val (.func (.func g) a b) s)
 | some (.yield id)=>some (.val (.yield id) s)
 | _=>none
def opBin (cfg:Cfg) (tmps:List V) (s:S) (op:BinOp) (t:TypeId) (x y:Operand):Option R:=do
 let x ← ev cfg tmps x
 let y ← ev cfg tmps y
 (wN cfg op t x y).map (.val · s)
def opUn (cfg:Cfg) (tmps:List V) (s:S) (op:UnOp) (x:Operand):Option R:=do
 let x ← ev cfg tmps x
 (aUn op x).map (.val · s)
def opConvert (cfg:Cfg) (nw:Nat) (tmps:List V) (s:S) (a b:TypeId) (x:Operand):Option R:=do
 let x ← ev cfg tmps x
 (yo cfg nw s a b x).map fun r=>.val r.1 r.2
def xR (cfg:Cfg) (tmps:List V) (s:S) (t:TypeId) (x:Operand):Option R:=do
 let a ← cfg.ty t
 let x ← ev cfg tmps x
 match a.und with
 | .interface _=>none
 | _=>some (.val (.iface t x) s)
def ug (cfg:Cfg) (tmps:List V) (s:S) (fn:Fn) (a b:Array Operand):Option R:=do
 let a ← evL cfg tmps a.toList
 let b ← evL cfg tmps b.toList
 some (.val (.func fn a b) s)
def opMakeMap (cfg:Cfg) (nw:Nat) (tmps:List V) (s:S) (t:TypeId) (r:Option Operand):Option R:=match r with
 | none=>some (.val (.map nw) (s.add nw (.map [] 0)))
 | some x=>do
  let a ← cfg.ty t
  match a.und,ev cfg tmps x with
  | .map _ _,some (.int _ _)=>some (.val (.map nw) (s.add nw (.map [] 0)))
  | _,_=>none
def uN (cfg:Cfg) (nw:Nat) (tmps:List V) (s:S) (t:TypeId) (l c:Operand):Option R:=do
 let l ← ev cfg tmps l
 let c ← ev cfg tmps c
 (zb cfg nw s t l c).map fun r=>.val r.1 r.2
def opSlice (cfg:Cfg) (tmps:List V) (s:S) (t:TypeId) (x:Operand) (lo hi mx:Option Operand):Option R:=do
 let a ← cfg.ty t
 let x ← ev cfg tmps x
 let lo ← evO cfg tmps lo
 let hi ← evO cfg tmps hi
 let mx ← evO cfg tmps mx
 (zs cfg a.und x lo hi mx).map (.val · s)
def uP (cfg:Cfg) (tmps:List V) (s:S) (t:TypeId) (x:Operand) (f:Nat):Option R:=do
 let x ← ev cfg tmps x
 (ze cfg t x f).map (.val · s)
def opField (cfg:Cfg) (tmps:List V) (s:S) (t:TypeId) (x:Operand) (f:Nat):Option R:=do
 let x ← ev cfg tmps x
 (zq cfg t x f).map (.val · s)
def uO (cfg:Cfg) (tmps:List V) (s:S) (t:TypeId) (x i:Operand):Option R:=do
 let x ← ev cfg tmps x
 let i ← ev cfg tmps i
 (zd cfg t x i).map (.val · s)
def opIndex (cfg:Cfg) (tmps:List V) (s:S) (t:TypeId) (x i:Operand):Option R:=do
 let x ← ev cfg tmps x
 let i ← ev cfg tmps i
 (zp cfg t x i).map (.val · s)
def opLookup (cfg:Cfg) (tmps:List V) (s:S) (t:TypeId) (m k:Operand) (ok:Bool):Option R:=do
 let m ← ev cfg tmps m
 let k ← ev cfg tmps k
 (yI cfg s t m k ok).map (.val · s)
def opMapUpdate (cfg:Cfg) (tmps:List V) (s:S) (t:TypeId) (m k x:Operand):Option R:=do
 let m ← ev cfg tmps m
 let k ← ev cfg tmps k
 let v ← ev cfg tmps x
 (yj cfg s t m k v).map (.val yc ·)
def wi (cfg:Cfg) (tmps:List V) (s:S) (x:Operand) (t:TypeId) (ok:Bool):Option R:=do
 let a ← cfg.ty t
 match a.und,ev cfg tmps x with
 | .interface _,_=>none
 | _,some (.iface t' v)=>if t'=t then some (.val (if ok then .tup [v,.bool true] else v) s) else if ok then some (.val (.tup [a.zero,.bool false]) s) else none
 | _,some .nili=>if ok then some (.val (.tup [a.zero,.bool false]) s) else none
 | _,_=>none
def opExtract (cfg:Cfg) (tmps:List V) (s:S) (x:Operand) (i:Nat):Option R:=match ev cfg tmps x with
 | some (.tup vs)=>(vs[i]?).map (.val · s)
 | _=>none
def opRange (cfg:Cfg) (nw:Nat) (tmps:List V) (s:S) (t:TypeId) (x:Operand):Option R:=do
 let x ← ev cfg tmps x
 (aRange cfg nw s t x).map fun r=>.val r.1 r.2
def opNext (cfg:Cfg) (tmps:List V) (s:S) (x:Operand) (str:Bool):Option R:=do
 let x ← ev cfg tmps x
 (aNext s x str).map fun r=>.val r.1 r.2
def opEntry (cfg:Cfg) (tmps:List V) (s:S) (x:Operand):Option R:=do
 let x ← ev cfg tmps x
 (aEntry s x).map (.val · s)
def opDefer (cfg:Cfg) (tmps:List V) (s:S) (c:Call):Option R:=match c.callee,evL cfg tmps c.args.toList with
 | .value f,some args=>match ev cfg tmps f with
  | some (.func g first cap)=>some (.dfr (.fn g cap (first++args)) s)
  | _=>none
 | _,_=>none
def opPanic (cfg:Cfg) (tmps:List V) (s:S) (x:Operand):Option R:=match ev cfg tmps x with
 | some (.iface t v)=>some (.pan [⟨.iface t v,false⟩] s)
 | _=>none

def yS (cfg:Cfg) (cf:CF) (sl:Bool) (nw:Nat) (o:Oper) (tmps:List V) (s:S):Option R :=
 match o.op with
 | .move x=>opMove cfg tmps s x
 | .assign x=>opMove cfg tmps s x
 | .pick c a b=>opPick cfg tmps s c a b
 | .alloc t=>opAlloc cfg nw s t
 | .box t x=>opBox cfg nw tmps s t x
 | .build t ps=>opBuild cfg tmps s t ps
 | .buildSlice t n ps=>wl cfg nw tmps s t n ps
 | .load t p=>opLoad cfg tmps s t p
 | .store t p x=>opStore cfg tmps s t p x
 | .nilCheck x=>opNilCheck cfg tmps s x
 | .binOp op t x y _=>opBin cfg tmps s op t x y
 | .unOp op _ x=>opUn cfg tmps s op x
 | .convert a b x=>opConvert cfg nw tmps s a b x
 | .makeInterface t x=>xR cfg tmps s t x
 | .makeFunc fn a b=>ug cfg tmps s fn a b
 | .makeMap t r=>opMakeMap cfg nw tmps s t r
 | .makeSlice t l c=>uN cfg nw tmps s t l c
 | .slice t x lo hi mx=>opSlice cfg tmps s t x lo hi mx
 | .fieldAddr t x f=>uP cfg tmps s t x f
 | .field t x f=>opField cfg tmps s t x f
 | .indexAddr t x i=>uO cfg tmps s t x i
 | .index t x i=>opIndex cfg tmps s t x i
 | .lookup t m k ok=>opLookup cfg tmps s t m k ok
 | .mapUpdate t m k x=>opMapUpdate cfg tmps s t m k x
 | .insert t m k x=>opMapUpdate cfg tmps s t m k x
 | .typeAssert x _ t ok=>wi cfg tmps s x t ok
 | .extract x i=>opExtract cfg tmps s x i
 | .range t x=>opRange cfg nw tmps s t x
 | .next x str=>opNext cfg tmps s x str
 | .entry x=>opEntry cfg tmps s x
 | .call c=>yY cfg cf sl nw c tmps s
 | .defer c=>opDefer cfg tmps s c
 | .panic x=>opPanic cfg tmps s x
 | _=>none

/-- The same, in one piece: for the proofs. -/
def doOp0 (cfg:Cfg) (cf:CF) (sl:Bool) (nw:Nat) (o:Oper) (tmps:List V) (s:S):Option R :=
 match o.op with
 | .move x | .assign x=>(ev cfg tmps x).map (.val · s)
 | .pick c a b=>match ev cfg tmps c with
  | some (.bool t)=>(ev cfg tmps (if t then a else b)).map (.val · s)
  | _=>none
 | .alloc t=>do
  let a ← cfg.ty t
  some (.val (.ptr nw 0) (s.add nw (.cells a.zero.cells 0 t true)))
 | .box t x=>do
  let v ← ev cfg tmps x
  if v.cells.all V.one then some (.val (.ptr nw 0) (s.add nw (.cells v.cells 0 t true))) else none
 | .build t ps=>do
  let ps ← yP cfg tmps ps.toList
  (xh cfg t ps).map (.val · s)
 | .buildSlice t n ps=>do
  let ps ← yP cfg tmps ps.toList
  (za cfg nw s t n ps).map fun r=>.val r.1 r.2
 | .load t p=>do
  let a ← cfg.ty t
  let p ← ev cfg tmps p
  (zt s a.size (zS a.und) p).map (.val · s)
 | .store t p x=>do
  let a ← cfg.ty t
  let p ← ev cfg tmps p
  let v ← ev cfg tmps x
  (zr s a.size p v).map (.val yc ·)
 | .nilCheck x=>match ev cfg tmps x with
  | some (.ptr i o)=>some (.val (.ptr i o) s)
  | some (.cptr c o)=>some (.val (.cptr c o) s)
  | some (.func (.func g) a b)=>some (.val (.func (.func g) a b) s)
  | some (.yield id)=>some (.val (.yield id) s)
  | _=>none
 | .binOp op t x y _=>do
  let x ← ev cfg tmps x
  let y ← ev cfg tmps y
  (wN cfg op t x y).map (.val · s)
 | .unOp op _ x=>do
  let x ← ev cfg tmps x
  (aUn op x).map (.val · s)
 | .convert a b x=>do
  let x ← ev cfg tmps x
  (yo cfg nw s a b x).map fun r=>.val r.1 r.2
 | .makeInterface t x=>do
  let a ← cfg.ty t
  let x ← ev cfg tmps x
  match a.und with
  | .interface _=>none
  | _=>some (.val (.iface t x) s)
 | .makeFunc fn a b=>do
  let a ← evL cfg tmps a.toList
  let b ← evL cfg tmps b.toList
  some (.val (.func fn a b) s)
 | .makeMap _ none=>some (.val (.map nw) (s.add nw (.map [] 0)))
 | .makeMap t (some x)=>do
  let a ← cfg.ty t
  match a.und,ev cfg tmps x with
  | .map _ _,some (.int _ _)=>some (.val (.map nw) (s.add nw (.map [] 0)))
  | _,_=>none
 | .makeSlice t l c=>do
  let l ← ev cfg tmps l
  let c ← ev cfg tmps c
  (zb cfg nw s t l c).map fun r=>.val r.1 r.2
 | .slice t x lo hi mx=>do
  let a ← cfg.ty t
  let x ← ev cfg tmps x
  let lo ← evO cfg tmps lo
  let hi ← evO cfg tmps hi
  let mx ← evO cfg tmps mx
  (zs cfg a.und x lo hi mx).map (.val · s)
 | .fieldAddr t x f=>do
  let x ← ev cfg tmps x
  (ze cfg t x f).map (.val · s)
 | .field t x f=>do
  let x ← ev cfg tmps x
  (zq cfg t x f).map (.val · s)
 | .indexAddr t x i=>do
  let x ← ev cfg tmps x
  let i ← ev cfg tmps i
  (zd cfg t x i).map (.val · s)
 | .index t x i=>do
  let x ← ev cfg tmps x
  let i ← ev cfg tmps i
  (zp cfg t x i).map (.val · s)
 | .lookup t m k ok=>do
  let m ← ev cfg tmps m
  let k ← ev cfg tmps k
  (yI cfg s t m k ok).map (.val · s)
 | .mapUpdate t m k x | .insert t m k x=>do
  let m ← ev cfg tmps m
  let k ← ev cfg tmps k
  let v ← ev cfg tmps x
  (yj cfg s t m k v).map (.val yc ·)
 | .typeAssert x _ t ok=>do
  let a ← cfg.ty t
  match a.und,ev cfg tmps x with
  | .interface _,_=>none
  | _,some (.iface t' v)=>if t'=t then some (.val (if ok then .tup [v,.bool true] else v) s) else if ok then some (.val (.tup [a.zero,.bool false]) s) else none
  | _,some .nili=>if ok then some (.val (.tup [a.zero,.bool false]) s) else none
  | _,_=>none
 | .extract x i=>match ev cfg tmps x with
  | some (.tup vs)=>(vs[i]?).map (.val · s)
  | _=>none
 | .range t x=>do
  let x ← ev cfg tmps x
  (aRange cfg nw s t x).map fun r=>.val r.1 r.2
 | .next x str=>do
  let x ← ev cfg tmps x
  (aNext s x str).map fun r=>.val r.1 r.2
 | .entry x=>do
  let x ← ev cfg tmps x
  (aEntry s x).map (.val · s)
 | .call c=>yY cfg cf sl nw c tmps s
 | .defer c=>match c.callee,evL cfg tmps c.args.toList with
  | .value f,some args=>match ev cfg tmps f with
   | some (.func g first cap)=>some (.dfr (.fn g cap (first++args)) s)
   | _=>none
  | _,_=>none
 | .panic x=>match ev cfg tmps x with
  | some (.iface t v)=>some (.pan [⟨.iface t v,false⟩] s)
  | _=>none
 | _=>none

theorem doOp_eq:@yS=@doOp0:=by
 funext cfg cf sl nw o tmps s
 unfold yS doOp0
 cases o.op <;> try rfl
 case makeMap t r=>cases r <;> rfl

theorem xZ (cfg:Cfg) (cf:CF) (sl:Bool) (nw:Nat) (o:Oper) (tmps:List V) (s:S):yS cfg cf sl nw o tmps s=doOp0 cfg cf sl nw o tmps s:=by rw [doOp_eq]

def wd (ops:Array Oper) (tmps:List V) (j:Nat):Option Bool :=
 match ((ops[j]?).bind (·.dst)).bind (nth tmps ·) with
 | some (.bool b)=>some b
 | _=>none

def yk (ops:Array Oper) (o:Oper) (tmps:List V):Bool :=
 match o.guard with
 | none=>true
 | some (j,want)=>wd ops tmps j == some want

def uB (cfg:Cfg) (cf:CF) (sl:Bool) (ro:Option Nat) (ops:Array Oper):List Oper→Fr→S→Option (AX×Fr×S)
 | [],fr,s=>some (.normal,fr,s)
 | o::rest,fr,s =>
  if yk ops o fr.tmps then
   match yS cfg cf sl s.next o fr.tmps s with
   | some (.val v s')=>bif Nat.ble s.next s'.next then uB cfg cf sl ro ops rest (fr.put o.dst v) s' else none
   | some (.dfr d s')=>match ro with
    | none=>uB cfg cf sl ro ops rest ({ fr with dfs:=d::fr.dfs }.put o.dst yc) s'
    | some _=>none
   | some (.pan ch s')=>bif Nat.ble s.next s'.next then some (.pan ch,fr,s') else none
   | none=>none
  else uB cfg cf sl ro ops rest (fr.put o.dst yc) s

/-! regions that draw their order -/

/-- What an operation may do: 0: it only reckons; 1: it reads the store; 2: it makes something new; 3: it may change the store. -/
def zC (cfg:Cfg) (o:Oper):Nat :=
 match o.op with
 | .move _ | .assign _ | .pick .. | .build .. | .nilCheck _ | .binOp .. | .unOp .. | .makeInterface .. | .makeFunc .. | .slice .. | .fieldAddr .. | .field .. | .indexAddr .. | .index .. | .typeAssert .. | .extract ..=>0
 | .load .. | .lookup ..=>1
 | .alloc _ | .box .. | .buildSlice .. | .makeMap .. | .makeSlice ..=>2
 | .convert a b _=>match cfg.ty a with
  | some i=>match i.und with
   | .slice _=>1
   | .string=>match cfg.ty b with
    | some j=>(match j.und with
     | .slice _=>2
     | _=>0)
    | none=>3
   | .pointer _ | .unsafePointer=>1
   | _=>0
  | none=>3
 | .call c=>match c.callee with
  | .builtin .len=>1
  | .builtin .min | .builtin .max=>0
  | .value (.func g)=>match cfg.pure g with
   | 1=>0
   | 2=>1
   | 10 | 11 | 12=>match cfg.fn g with
    | some fn=>if fn.body.isNone then 0 else 3
    | none=>3
   | _=>3
  | _=>3
 | _=>3

def yV (o:Oper):List Nat:=(o.after.toList.filter fun e=>Region.binds .any e).map (·.on)

/-- The numbers of the operations that must come before each one, as a set of bits. -/
def vx (acc:List Nat):List Nat→Nat→Nat
 | [],s=>s
 | j::l,s=>vx acc l (s ||| 2 ^ j ||| (acc[j]?).getD 0)

def befL:List Oper→List Nat→List Nat
 | [],acc=>acc
 | o::l,acc=>befL l (acc++[vx acc (yV o) 0])

def bef (ops:Array Oper):List Nat:=befL ops.toList []

def xp (b:List Nat) (i j:Nat):Bool:=((b[j]?).getD 0).testBit i

def looks (ops:Array Oper) (o:Oper):List Tmp:=o.looksAt ops

def yg (cfg:Cfg) (ops:Array Oper):Bool :=
 let b:=bef ops
 let l:=ops.toList.zipIdx
 l.all fun (oi,i) =>
  (yV oi).all (·<i) &&
  l.all fun (oj,j)=>i == j ||
   ((match oi.dst with
    | some d=>oj.dst != some d && (!(looks ops oj).contains d || xp b i j || xp b j i)
    | none=>true) &&
    (zC cfg oi != 3 || zC cfg oj != 3 || xp b i j || xp b j i))

def yb (cfg:Cfg):Code→Bool
 | .region _ ops true=>yg cfg ops
 | .seq a b=>yb cfg a && yb cfg b
 | .cond _ a b=>yb cfg a && yb cfg b
 | .block _ c=>yb cfg c
 | .loop c=>yb cfg c
 | .scope c=>yb cfg c
 | _=>true

/-- What an operation did: its kind (4: it was not wanted), its value, the temporaries before it, the store's core before and after it, what it made. -/
structure Rec where
 k:Nat
 v:V
 tm:List V
 c:S
 c':S
 ob:Option O

def putT (d:Option Tmp) (tm:List V) (v:V):List V :=
 match d with
 | some t=>updL tm v t
 | none=>tm

def zE:List Rec→Nat→List Nat
 | [],_=>[]
 | r::l,i=>if r.k=3 then i::zE l (i+1) else zE l (i+1)

/-- A change has come that waited for this one. -/
def absB (b:List Nat) (effs:List Nat) (i:Nat):Bool:=effs.any fun e=>xp b i e

def putO (p:Bool) (id:Nat) (ob:Option O) (s:S):S :=
 match ob with
 | some o=>bif p then s.add id o else s
 | none=>s

/-- The store with what was made and no change has met. -/
def yW (p:Nat→Bool) (base:Nat):List Rec→Nat→S→S
 | [],_,s=>s
 | r::rs,i,s=>yW p base rs (i+1) (putO (p i) (base+i) r.ob s)

def stepD (cfg:Cfg) (cf:CF) (sl:Bool) (ops:Array Oper) (b:List Nat) (base:Nat) (acc:List Rec) (o:Oper) (i:Nat) (tm:List V) (c:S):Option Rec :=
 if yk ops o tm then
  match zC cfg o with
  | 3=>match yS cfg cf sl (base+i) o tm (yW (fun k=>!absB b (zE acc 0) k && xp b k i) base acc 0 c) with
   | some (.val v s')=>bif Nat.ble (base+ops.size) s'.next then some ⟨3,v,tm,c,s',none⟩ else none
   | _=>none
  | 2=>match yS cfg cf sl (base+i) o tm c with
   | some (.val v s')=>match s'.get (base+i) with
    | some ob=>some ⟨2,v,tm,c,c,some ob⟩
    | none=>none
   | _=>none
  | k=>match yS cfg cf sl (base+i) o tm c with
   | some (.val v _)=>some ⟨k,v,tm,c,c,none⟩
   | _=>none
 else some ⟨4,yc,tm,c,c,none⟩

def xw (cfg:Cfg) (cf:CF) (sl:Bool) (ops:Array Oper) (b:List Nat) (base:Nat):List Oper→Nat→List Rec→List V→S→Option (List Rec×List V×S)
 | [],_,acc,tm,c=>some (acc,tm,c)
 | o::rest,i,acc,tm,c =>
  match stepD cfg cf sl ops b base acc o i tm c with
  | some r=>xw cfg cf sl ops b base rest (i+1) (acc++[r]) (putT o.dst tm r.v) r.c'
  | none=>none

def zU:List Rec→List S
 | []=>[]
 | r::l=>if r.k=3 then r.c'::zU l else zU l

/-- What was read must be the same at every epoch that the edges allow. -/
def pendOk (cfg:Cfg) (cf:CF) (sl:Bool) (b:List Nat) (effs:List Nat) (starts:List S) (o:Oper) (i:Nat) (r:Rec):Bool :=
 let lo:=(effs.filter fun e=>xp b e i).length
 let hi:=(effs.filter fun e=>!xp b i e).length
 (List.range (hi+1)).all fun m=>decide (m<lo) || match starts[m]? with
  | some s=>(match yS cfg cf sl 0 o r.tm s with
   | some (.val v _)=>decide (v=r.v)
   | _=>false)
  | none=>false

def wT (cfg:Cfg) (cf:CF) (sl:Bool) (b:List Nat) (effs:List Nat) (starts:List S):List Oper→List Rec→Nat→Bool
 | o::ops,r::l,i=>(r.k != 1 || pendOk cfg cf sl b effs starts o i r) && wT cfg cf sl b effs starts ops l (i+1)
 | _,_,_=>true

def vG (cfg:Cfg) (cf:CF) (sl:Bool) (ops:Array Oper) (fr:Fr) (s:S):Option (Fr×S) :=
 match xw cfg cf sl ops (bef ops) s.next ops.toList 0 [] fr.tmps ⟨s.next+ops.size,s.tr⟩ with
 | some (rs,tm,c) =>
  if Nat.ble s.next c.next && wT cfg cf sl (bef ops) (zE rs 0) (⟨s.next+ops.size,s.tr⟩::zU rs) ops.toList rs 0 then
   some ({ fr with tmps:=tm },yW (fun k=>!absB (bef ops) (zE rs 0) k) s.next rs 0 c)
  else none
 | none=>none

/-! code -/
def iter (body:Fr→S→Option (AX×Fr×S)):Nat→Fr→S→Option (AX×Fr×S)
 | 0,_,_=>none
 | n+1,fr,s=>match body fr s with
  | some (.normal,fr',s')=>iter body n fr' s'
  | r=>r

/-- What a range over a function makes first: outside of all rounds the block of their deferred calls. -/
def enterL (s:S) (ro:Option Nat):Option (S×List DF) :=
 match ro with
 | none=>some (s.add s.next (.dblk true),[.mark s.next])
 | some l=>match s.get l with
  | some (.loop ..)=>some (s,[])
  | _=>none

/-- What is done behind a range over a function. -/
def leaveL (fr:Fr) (idl:Nat) (s:S):Option (AX×Fr×S) :=
 match s.get idl with
 | some (.loop st pd tm ps asg bd)=>match st with
  | .busy=>none
  | _=>match pd with
   | none=>some (.normal,fr,s.put idl (.loop .exhausted pd tm ps asg bd))
   | some .ret=>some (.ret,fr,s.put idl (.loop .exhausted pd tm ps asg bd))
   | some (.exit j)=>some (.exit j,fr,s.put idl (.loop .exhausted pd tm ps asg bd))
   | _=>none
 | _=>none

def rangeL (cfg:Cfg) (cf:CF) (ro:Option Nat) (g:Operand) (ps:Array Tmp) (asg bd:Code) (fr:Fr) (s:S):Option (AX×Fr×S) :=
 match ev cfg fr.tmps g with
 | some (.func (.func f) first cap)=>match cfg.fn f with
  | some fn=>if fn.body.isSome then
    match enterL s ro with
    | some (s1,mark) =>
     match cf.fn f (first++[V.yield s1.next]++cap) (s1.add s1.next (.loop .ready none fr.tmps ps asg bd)) with
     | some (.ret _,s3)=>bif Nat.ble s.next s3.next then leaveL { fr with dfs:=mark++fr.dfs } s1.next s3 else none
     | some (.pan ch,s3)=>bif Nat.ble s.next s3.next then some (.pan ch,{ fr with dfs:=mark++fr.dfs },s3) else none
     | none=>none
    | none=>none
   else none
  | none=>none
 | _=>none

def exec (cfg:Cfg) (cf:CF) (fuel:Nat) (sl:Bool) (ro:Option Nat):Code→Fr→S→Option (AX×Fr×S)
 | .skip,fr,s=>some (.normal,fr,s)
 | .label _,fr,s=>some (.normal,fr,s)
 | .region _ ops draw,fr,s=>match draw with
  | true=>match vG cfg cf sl ops fr s with
   | some (fr',s')=>some (.normal,fr',s')
   | none=>none
  | false=>uB cfg cf sl ro ops ops.toList fr s
 | .seq a b,fr,s=>match exec cfg cf fuel sl ro a fr s with
  | some (.normal,fr',s')=>exec cfg cf fuel sl ro b fr' s'
  | r=>r
 | .cond c x y,fr,s=>match ev cfg fr.tmps c with
  | some (.bool true)=>exec cfg cf fuel sl ro x fr s
  | some (.bool false)=>exec cfg cf fuel sl ro y fr s
  | _=>none
 | .block id c,fr,s=>match exec cfg cf fuel sl ro c fr s with
  | some (.exit j,fr',s')=>if j=id then some (.normal,fr',s') else some (.exit j,fr',s')
  | r=>r
 | .loop c,fr,s=>iter (exec cfg cf fuel sl ro c) fuel fr s
 | .exit id,fr,s=>some (.exit id,fr,s)
 | .ret,fr,s=>some (.ret,fr,s)
 | .scope c,fr,s=>exec cfg cf fuel sl ro c fr s
 | .rangeFunc g ps asg bd,fr,s=>rangeL cfg cf ro g ps asg bd fr s
 | _,_,_=>none

/-- A round of a range over a function. -/
def roundRun (cfg:Cfg) (cf:CF) (fuel:Nat) (id:Nat) (args:List V) (s:S):Option (AE×S) :=
 match s.get id with
 | some (.loop _ _ tm ps asg bd) =>
  if args.length=ps.size∧yb cfg asg=true∧yb cfg bd=true then
   match exec cfg cf fuel true (some id) asg ⟨(ps.toList.zip args).foldl (fun t p=>t.set p.1 p.2) tm,[]⟩ s with
   | some (.normal,fr1,s1)=>match s1.get id with
    | some (.loop .ready pd1 tm1 ps1 asg1 bd1) =>
     match exec cfg cf fuel true (some id) bd fr1 (s1.put id (.loop .busy pd1 tm1 ps1 asg1 bd1)) with
     | some (e,_,s2)=>match s2.get id with
      | some (.loop _ _ tm2 ps2 asg2 bd2)=>match e with
       | .normal=>some (.ret (.bool true),s2.put id (.loop .ready none tm2 ps2 asg2 bd2))
       | .ret=>some (.ret (.bool false),s2.put id (.loop .done (some .ret) tm2 ps2 asg2 bd2))
       | .exit j=>some (.ret (.bool false),s2.put id (.loop .done (some (.exit j)) tm2 ps2 asg2 bd2))
       | .pan _=>none
      | _=>none
     | none=>none
    | _=>none
   | _=>none
  else none
 | _=>none

def resV (cfg:Cfg) (s:S) (tmps:List V):List ResultVar→Option (List V)
 | []=>some []
 | .tmp t::l=>match tmps[t]?,resV cfg s tmps l with
  | some v,some r=>some (v::r)
  | _,_=>none
 | .cell a t::l=>match tmps[a]?,cfg.ty t,resV cfg s tmps l with
  | some p,some i,some r=>match zt s i.size (zS i.und) p with
   | some v=>some (v::r)
   | none=>none
  | _,_,_=>none

def tupV:List V→V
 | [v]=>v
 | l=>.tup l

/-- The body of a function, up to its deferred calls. -/
def body (cfg:Cfg) (cf:CF) (fuel:Nat) (f:FuncId) (args:List V) (s:S):Option (Func×AX×Fr×S) :=
 match cfg.fn f with
 | none=>none
 | some fn=>match fn.body with
  | none=>none
  | some c=>match exec cfg cf fuel (!cfg.raw f) none c ⟨args++List.replicate (fn.ntmps - args.length) yc,[]⟩ s with
   | some (e,fr,s')=>some (fn,e,fr,s')
   | none=>none

/-- How a call is being left: it returns, or it panics. -/
inductive AM where
 | ret
 | pan (ch:List AP)

def aSettle:AM→AM
 | .pan (p::older)=>if p.rcv then .ret else .pan (p::older)
 | m=>m

def aRaised:AM→List AP→AM
 | .pan old,ch=>.pan (ch++old)
 | .ret,ch=>.pan ch

def uy:AM→V×AM
 | .pan (p::older)=>if p.rcv then (.nili,.pan (p::older)) else (p.v,.pan (⟨p.v,true⟩::older))
 | m=>(.nili,m)

def isRec (o:Oper):Bool :=
 match o.op with
 | .call c=>match c.callee with
  | .builtin .recover=>c.args.isEmpty
  | _=>false
 | _=>false

def noYield (cfg:Cfg) (tmps:List V) (o:Oper):Bool :=
 match o.op with
 | .call c=>match c.callee with
  | .value fo=>match ev cfg tmps fo with
   | some (.yield _)=>false
   | _=>true
  | _=>true
 | _=>true

/-- Straight operations of a deferred call, some of which may recover. -/
def uL (cfg:Cfg) (cf:CF) (sl:Bool) (ops:Array Oper):List Oper→Fr→S→AM→Option (AX×Fr×S×AM)
 | [],fr,s,u=>some (.normal,fr,s,u)
 | o::rest,fr,s,u =>
  if yk ops o fr.tmps then
   if isRec o then uL cfg cf sl ops rest (fr.put o.dst (uy u).1) s (uy u).2
   else if noYield cfg fr.tmps o then match yS cfg cf sl s.next o fr.tmps s with
    | some (.val v s')=>bif Nat.ble s.next s'.next then uL cfg cf sl ops rest (fr.put o.dst v) s' u else none
    | some (.pan ch s')=>bif Nat.ble s.next s'.next then some (.pan ch,fr,s',u) else none
    | _=>none
   else none
  else uL cfg cf sl ops rest (fr.put o.dst yc) s u

/-- Code of a deferred call. -/
def execS (cfg:Cfg) (cf:CF) (fuel:Nat) (sl:Bool):Code→Fr→S→AM→Option (AX×Fr×S×AM)
 | .region _ ops false,fr,s,u=>uL cfg cf sl ops ops.toList fr s u
 | .seq a b,fr,s,u=>match execS cfg cf fuel sl a fr s u with
  | some (.normal,fr',s',u')=>execS cfg cf fuel sl b fr' s' u'
  | r=>r
 | .cond c x y,fr,s,u=>match ev cfg fr.tmps c with
  | some (.bool true)=>execS cfg cf fuel sl x fr s u
  | some (.bool false)=>execS cfg cf fuel sl y fr s u
  | _=>none
 | .block id c,fr,s,u=>match execS cfg cf fuel sl c fr s u with
  | some (.exit j,fr',s',u')=>if j=id then some (.normal,fr',s',u') else some (.exit j,fr',s',u')
  | r=>r
 | c,fr,s,u=>match exec cfg cf fuel sl none c fr s with
  | some (e,fr',s')=>some (e,fr',s',u)
  | none=>none

/-- The body of a deferred call. -/
def bodyS (cfg:Cfg) (cf:CF) (fuel:Nat) (f:FuncId) (args:List V) (s:S) (u:AM):Option (Func×AX×Fr×S×AM) :=
 match cfg.fn f with
 | none=>none
 | some fn=>match fn.body with
  | none=>none
  | some c=>match execS cfg cf fuel (!cfg.raw f) c ⟨args++List.replicate (fn.ntmps - args.length) yc,[]⟩ s u with
   | some (e,fr,s',u')=>some (fn,e,fr,s',u')
   | none=>none

/-- The deferred calls. -/
def leave (cfg:Cfg) (cf:CF) (fuel:Nat):List DF→S→AM→Option (S×AM)
 | [],s,u=>some (s,u)
 | .mark id::ds,s,u=>match s.get id with
  | some (.dblk true)=>leave cfg cf fuel ds (s.put id (.dblk false)) u
  | _=>none
 | .fn df dcap dargs::ds,s,u=>match df with
  | .func g=>match bodyS cfg cf fuel g (dargs++dcap) s u with
   | some (fn,e,fr,s',u')=>match e,fr.dfs with
    | .normal,[] | .ret,[]=>match resV cfg s' fr.tmps fn.results.toList with
     | some _=>leave cfg cf fuel ds s' (aSettle u')
     | none=>none
    | .pan ch,[]=>leave cfg cf fuel ds s' (aRaised u' ch)
    | _,_=>none
   | none=>none
  | _=>none

def tz:AX→Option AM
 | .normal | .ret=>some .ret
 | .pan ch=>some (.pan ch)
 | .exit _=>none

def callRun (cfg:Cfg) (cf:CF) (n:Nat):CallF:=fun f args s =>
 match body cfg cf n f args s with
 | none=>none
 | some (fn,e,fr,s')=>match tz e with
  | none=>none
  | some u=>match leave cfg cf n fr.dfs s' u with
   | none=>none
   | some (s'',u')=>match u' with
    | .ret=>match resV cfg s'' fr.tmps fn.results.toList with
     | some vs=>some (.ret (tupV vs),s'')
     | none=>none
    | .pan ch=>some (.pan ch,s'')

def run (cfg:Cfg):Nat→CF
 | 0=>⟨fun _ _ _=>none,fun _ _ _=>none⟩
 | n+1=>⟨callRun cfg (run cfg n) n,roundRun cfg (run cfg n) n⟩

def call (cfg:Cfg) (n:Nat):CallF:=(run cfg n).fn

end
end Go.Proofs.YtchlfjhbijmdiaaGreatDoor.Ai

namespace Go.Proofs.YtchlfjhbijmdiaaGreatDoor.Ai
noncomputable section
/-- Structs and arrays that can be compared without a word. -/
def flatT (P:Program) (t:TypeId):Bool :=
 match P.underlying t with
 | some (.struct _)=>!P.stoodInHeld t && !P.eqGuardType P.depth t
 | some (.array _ _)=>!P.eqGuardType P.depth t
 | _=>false
def mkTy (P:Program) (t:TypeId):Option ATy:=do
 let i ← P.info? t
 let u ← P.underlying t
 let z ← i.zero
 let zv ← yf 3 z
 if z.cells.size=i.size then some ⟨u,i.size,i.bytes,zv,flatT P t⟩ else none
def te (l:List (Nat×Nat)) (f:Nat):Nat :=
 match l with
 | []=>0
 | (a,b)::r=>if a == f then b else te r f
/-- A method by its name: its function, and whether the receiver is loaded first. -/
def mkMeth (P:Program) (t:TypeId) (name:String):Option (FuncId×Option TypeId):=do
 let i ← P.info? t
 let m ← i.methods.find? (·.name == name)
 let u ← P.underlying t
 if m.path.isEmpty then
  match m.func with
  | some (f,true)=>match u with
   | .pointer _=>some (f,none)
   | _=>none
  | some (f,false)=>match u with
   | .pointer e=>some (f,some e)
   | _=>some (f,none)
  | none=>none
 else none
/-- 'mask': the functions that may be reckoned, as bits. -/
def wc (P:Program) (mask:Nat) (glob:Nat→Option (List V)) (pure:List (Nat×Nat)) (raw:List Nat) (tab:FuncId→List V→Option V):Cfg where
 fn f:=if mask.testBit f then P.funcs[f]? else none
 ty t:=mkTy P t
 glob:=glob
 pure f:=te pure f
 raw f:=raw.contains f
 lies e n off u:=liesAt P P.depth e (n / P.cellsOf e) off u 1
 tab:=tab
 meth:=mkMeth P
 fresh _:=none
 ftab _ _:=none
 layr:=false
/-- With what is known of functions that give something new. -/
def Cfg.withF (c:Cfg) (fresh:FuncId→Option (TypeId×Option Nat)) (ftab:FuncId→List V→Option V):Cfg:={ c with fresh:=fresh,ftab:=ftab }
end
end Go.Proofs.YtchlfjhbijmdiaaGreatDoor.Ai

