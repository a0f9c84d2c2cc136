/- Part of a reckoning of a Go program over abstract values, proved sound against the model. -/
import Derived.Test.YtchlfjhbijmdiaaGreatDoorAiS5
set_option linter.unusedSimpArgs false
set_option linter.unusedVariables false
namespace Go.Proofs.YtchlfjhbijmdiaaGreatDoor.Ai
noncomputable section
set_option maxRecDepth 100000

/-! runs by simp, with the temporaries that are known as a short list -/
abbrev Env:=List (Nat×V)
def yw:Env→Nat→Option V
 | [],_=>none
 | p::l,i=>if i=p.1 then some p.2 else yw l i
def Has (E:Env) (tm:List V):Prop:=∀i v,yw E i=some v→nth tm i=some v
def rdE (cfg:Cfg) (E:Env):Operand→Option V
 | .tmp t=>yw E t
 | .const v=>yf 3 v
 | .global g=>(cfg.glob g).map fun cs=>.cptr cs 0
 | .func f=>some (.func (.func f) [] [])

def yx (rd:Operand→Option V):List (Nat×Operand)→Option (List (Nat×V))
 | []=>some []
 | (i,x)::l=>match rd x,yx rd l with
  | some v,some r=>some ((i,v)::r)
  | _,_=>none

def evLR (rd:Operand→Option V):List Operand→Option (List V)
 | []=>some []
 | x::l=>match rd x,evLR rd l with
  | some v,some r=>some (v::r)
  | _,_=>none

def xI (cfg:Cfg) (cf:CF) (sl:Bool) (nw:Nat) (c:Call) (rd:Operand→Option V) (s:S):Option R :=
 match evLR rd c.args.toList with
 | none=>none
 | some args =>
  match c.callee with
  | .builtin b=>ye cfg sl nw s b c.argTypes.toList args
  | .value f=>match rd f with
   | some (.func (.func g) first cap)=>match cfg.fn g with
    | some fn=>if fn.body.isNone then (extOp cfg g (first++args++cap)).map (.val · s) else xq cfg cf nw g (first++args++cap) s
    | none=>none
   | some (.yield id)=>match cf.rd id args s with
    | some (.ret v,s')=>some (.val v s')
    | _=>none
   | _=>none
  | .invoke ro name=>match rd ro with
   | some (.iface t v)=>match cfg.meth t name with
    | some (g,none)=>methOp cfg cf nw g (v::args) s
    | some (g,some e)=>match cfg.ty e with
     | some a=>match zt s a.size (zS a.und) v with
      | some r=>methOp cfg cf nw g (r::args) s
      | none=>none
     | none=>none
    | none=>none
   | _=>none

def evOR (rd:Operand→Option V):Option Operand→Option (Option V)
 | none=>some none
 | some x=>(rd x).map some

def opMoveR (cfg:Cfg) (rd:Operand→Option V) (s:S) (x:Operand):Option R:=(rd x).map (.val · s)
def opPickR (cfg:Cfg) (rd:Operand→Option V) (s:S) (c a b:Operand):Option R:=match rd c with
 | some (.bool t)=>(rd (if t then a else b)).map (.val · s)
 | _=>none
def opAllocR (cfg:Cfg) (nw:Nat) (s:S) (t:TypeId):Option R:=do
 let a ← cfg.ty t
 some (.val (.ptr nw 0) (s.add nw (.cells a.zero.cells 0 t true)))
def opBoxR (cfg:Cfg) (nw:Nat) (rd:Operand→Option V) (s:S) (t:TypeId) (x:Operand):Option R:=do
 let v ← rd x
 if v.cells.all V.one then some (.val (.ptr nw 0) (s.add nw (.cells v.cells 0 t true))) else none
def tw (cfg:Cfg) (rd:Operand→Option V) (s:S) (t:TypeId) (ps:Array (Nat×Operand)):Option R:=do
 let ps ← yx rd ps.toList
 (xh cfg t ps).map (.val · s)
def xk (cfg:Cfg) (nw:Nat) (rd:Operand→Option V) (s:S) (t:TypeId) (n:Nat) (ps:Array (Nat×Operand)):Option R:=do
 let ps ← yx rd ps.toList
 (za cfg nw s t n ps).map fun r=>.val r.1 r.2
def opLoadR (cfg:Cfg) (rd:Operand→Option V) (s:S) (t:TypeId) (p:Operand):Option R:=do
 let a ← cfg.ty t
 let p ← rd p
 (zt s a.size (zS a.und) p).map (.val · s)
def opStoreR (cfg:Cfg) (rd:Operand→Option V) (s:S) (t:TypeId) (p x:Operand):Option R:=do
 let a ← cfg.ty t
 let p ← rd p
 let v ← rd x
 (zr s a.size p v).map (.val yc ·)
def opNilCheckR (cfg:Cfg) (rd:Operand→Option V) (s:S) (x:Operand):Option R:=match rd x with
 | some (.ptr i o)=>some (.val (.ptr i o) s)
 | some (.cptr c o)=>some (.val (.cptr c o) s)
 | some (.func (.func g) a b)=>some (.val (.func (.func g) a b) s)
 | some (.yield id)=>some (.val (.yield id) s)
 | _=>none
def opBinR (cfg:Cfg) (rd:Operand→Option V) (s:S) (op:BinOp) (t:TypeId) (x y:Operand):Option R:=do
 let x ← rd x
 let y ← rd y
 (wN cfg op t x y).map (.val · s)
def opUnR (cfg:Cfg) (rd:Operand→Option V) (s:S) (op:UnOp) (x:Operand):Option R:=do
 let x ← rd x
 (aUn op x).map (.val · s)
def ui (cfg:Cfg) (nw:Nat) (rd:Operand→Option V) (s:S) (a b:TypeId) (x:Operand):Option R:=do
 let x ← rd x
 (yo cfg nw s a b x).map fun r=>.val r.1 r.2
def xc (cfg:Cfg) (rd:Operand→Option V) (s:S) (t:TypeId) (x:Operand):Option R:=do
 let a ← cfg.ty t
 let x ← rd x
 match a.und with
 | .interface _=>none
 | _=>some (.val (.iface t x) s)
def xS (cfg:Cfg) (rd:Operand→Option V) (s:S) (fn:Fn) (a b:Array Operand):Option R:=do
 let a ← evLR rd a.toList
 let b ← evLR rd b.toList
 some (.val (.func fn a b) s)
def opMakeMapR (cfg:Cfg) (nw:Nat) (rd:Operand→Option V) (s:S) (t:TypeId) (r:Option Operand):Option R:=match r with
 | none=>some (.val (.map nw) (s.add nw (.map [] 0)))
 | some x=>do
  let a ← cfg.ty t
  match a.und,rd x with
  | .map _ _,some (.int _ _)=>some (.val (.map nw) (s.add nw (.map [] 0)))
  | _,_=>none
def wj (cfg:Cfg) (nw:Nat) (rd:Operand→Option V) (s:S) (t:TypeId) (l c:Operand):Option R:=do
 let l ← rd l
 let c ← rd c
 (zb cfg nw s t l c).map fun r=>.val r.1 r.2
def tu (cfg:Cfg) (rd:Operand→Option V) (s:S) (t:TypeId) (x:Operand) (lo hi mx:Option Operand):Option R:=do
 let a ← cfg.ty t
 let x ← rd x
 let lo ← evOR rd lo
 let hi ← evOR rd hi
 let mx ← evOR rd mx
 (zs cfg a.und x lo hi mx).map (.val · s)
def vK (cfg:Cfg) (rd:Operand→Option V) (s:S) (t:TypeId) (x:Operand) (f:Nat):Option R:=do
 let x ← rd x
 (ze cfg t x f).map (.val · s)
def opFieldR (cfg:Cfg) (rd:Operand→Option V) (s:S) (t:TypeId) (x:Operand) (f:Nat):Option R:=do
 let x ← rd x
 (zq cfg t x f).map (.val · s)
def wk (cfg:Cfg) (rd:Operand→Option V) (s:S) (t:TypeId) (x i:Operand):Option R:=do
 let x ← rd x
 let i ← rd i
 (zd cfg t x i).map (.val · s)
def opIndexR (cfg:Cfg) (rd:Operand→Option V) (s:S) (t:TypeId) (x i:Operand):Option R:=do
 let x ← rd x
 let i ← rd i
 (zp cfg t x i).map (.val · s)
def tv (cfg:Cfg) (rd:Operand→Option V) (s:S) (t:TypeId) (m k:Operand) (ok:Bool):Option R:=do
 let m ← rd m
 let k ← rd k
 (yI cfg s t m k ok).map (.val · s)
def xe (cfg:Cfg) (rd:Operand→Option V) (s:S) (t:TypeId) (m k x:Operand):Option R:=do
 let m ← rd m
 let k ← rd k
 let v ← rd x
 (yj cfg s t m k v).map (.val yc ·)
def tt (cfg:Cfg) (rd:Operand→Option V) (s:S) (x:Operand) (t:TypeId) (ok:Bool):Option R:=do
 let a ← cfg.ty t
 match a.und,rd x with
 | .interface _,_=>none
 | _,some (.iface t' v)=>if t'=t then some (.val (if ok then .tup [v,.bool true] else v) s) else if ok then some (.val (.tup [a.zero,.bool false]) s) else none
 | _,some .nili=>if ok then some (.val (.tup [a.zero,.bool false]) s) else none
 | _,_=>none
def uh (cfg:Cfg) (rd:Operand→Option V) (s:S) (x:Operand) (i:Nat):Option R:=match rd x with
 | some (.tup vs)=>(vs[i]?).map (.val · s)
 | _=>none
def opRangeR (cfg:Cfg) (nw:Nat) (rd:Operand→Option V) (s:S) (t:TypeId) (x:Operand):Option R:=do
 let x ← rd x
 (aRange cfg nw s t x).map fun r=>.val r.1 r.2
def opNextR (cfg:Cfg) (rd:Operand→Option V) (s:S) (x:Operand) (str:Bool):Option R:=do
 let x ← rd x
 (aNext s x str).map fun r=>.val r.1 r.2
def opEntryR (cfg:Cfg) (rd:Operand→Option V) (s:S) (x:Operand):Option R:=do
 let x ← rd x
 (aEntry s x).map (.val · s)
def opDeferR (cfg:Cfg) (rd:Operand→Option V) (s:S) (c:Call):Option R:=match c.callee,evLR rd c.args.toList with
 | .value f,some args=>match rd f with
  | some (.func g first cap)=>some (.dfr (.fn g cap (first++args)) s)
  | _=>none
 | _,_=>none
def opPanicR (cfg:Cfg) (rd:Operand→Option V) (s:S) (x:Operand):Option R:=match rd x with
 | some (.iface t v)=>some (.pan [⟨.iface t v,false⟩] s)
 | _=>none

def zP (cfg:Cfg) (cf:CF) (sl:Bool) (nw:Nat) (o:Oper) (rd:Operand→Option V) (s:S):Option R :=
 match o.op with
 | .move x=>opMoveR cfg rd s x
 | .assign x=>opMoveR cfg rd s x
 | .pick c a b=>opPickR cfg rd s c a b
 | .alloc t=>opAllocR cfg nw s t
 | .box t x=>opBoxR cfg nw rd s t x
 | .build t ps=>tw cfg rd s t ps
 | .buildSlice t n ps=>xk cfg nw rd s t n ps
 | .load t p=>opLoadR cfg rd s t p
 | .store t p x=>opStoreR cfg rd s t p x
 | .nilCheck x=>opNilCheckR cfg rd s x
 | .binOp op t x y _=>opBinR cfg rd s op t x y
 | .unOp op _ x=>opUnR cfg rd s op x
 | .convert a b x=>ui cfg nw rd s a b x
 | .makeInterface t x=>xc cfg rd s t x
 | .makeFunc fn a b=>xS cfg rd s fn a b
 | .makeMap t r=>opMakeMapR cfg nw rd s t r
 | .makeSlice t l c=>wj cfg nw rd s t l c
 | .slice t x lo hi mx=>tu cfg rd s t x lo hi mx
 | .fieldAddr t x f=>vK cfg rd s t x f
 | .field t x f=>opFieldR cfg rd s t x f
 | .indexAddr t x i=>wk cfg rd s t x i
 | .index t x i=>opIndexR cfg rd s t x i
 | .lookup t m k ok=>tv cfg rd s t m k ok
 | .mapUpdate t m k x=>xe cfg rd s t m k x
 | .insert t m k x=>xe cfg rd s t m k x
 | .typeAssert x _ t ok=>tt cfg rd s x t ok
 | .extract x i=>uh cfg rd s x i
 | .range t x=>opRangeR cfg nw rd s t x
 | .next x str=>opNextR cfg rd s x str
 | .entry x=>opEntryR cfg rd s x
 | .call c=>xI cfg cf sl nw c rd s
 | .defer c=>opDeferR cfg rd s c
 | .panic x=>opPanicR cfg rd s x
 | _=>none


theorem evLR_eq (cfg:Cfg) (tm:List V):evLR (ev cfg tm)=evL cfg tm:=by
 funext l
 induction l with
 | nil=>rfl
 | cons x l ih=>simp only [evLR,evL,ih]; rfl
theorem evPartsR_eq (cfg:Cfg) (tm:List V):yx (ev cfg tm)=yP cfg tm:=by
 funext l
 induction l with
 | nil=>rfl
 | cons x l ih=>obtain ⟨i,x⟩:=x; simp only [yx,yP,ih]; rfl
theorem evOR_eq (cfg:Cfg) (tm:List V):evOR (ev cfg tm)=evO cfg tm:=by
 funext x
 cases x <;> rfl

theorem doOpR_ev (cfg:Cfg) (cf:CF) (sl:Bool) (nw:Nat) (o:Oper) (tm:List V) (s:S):zP cfg cf sl nw o (ev cfg tm) s=yS cfg cf sl nw o tm s:=by
 unfold zP yS
 cases o.op <;> first
  | rfl
  | (simp only [tw,opBuild,evPartsR_eq]; done)
  | (simp only [xk,wl,evPartsR_eq]; done)
  | (simp only [xS,ug,evLR_eq]; done)
  | (simp only [tu,opSlice,evOR_eq]; done)
  | (simp only [xI,yY,evLR_eq]; done)
  | (simp only [xI,yY,evLR_eq]; rfl)
  | (simp only [opDeferR,opDefer,evLR_eq]; rfl)

section
variable {rd rd':Operand→Option V} (h:∀x v,rd x=some v→rd' x=some v)
include h
theorem wI:∀{l:List Operand} {r:List V},evLR rd l=some r→evLR rd' l=some r
 | [],r,e=>e
 | x::l,r,e=>by
  unfold evLR at e ⊢
  split at e
  ·rename_i v r1 h1 h2
   rw [h _ _ h1,wI h2]; exact e
  ·cases e
theorem vj:∀{l:List (Nat×Operand)} {r:List (Nat×V)},yx rd l=some r→yx rd' l=some r
 | [],r,e=>e
 | (i,x)::l,r,e=>by
  unfold yx at e ⊢
  split at e
  ·rename_i v r1 h1 h2
   rw [h _ _ h1,vj h2]; exact e
  ·cases e
theorem evOR_mono {x:Option Operand} {r:Option V} (e:evOR rd x=some r):evOR rd' x=some r:=by
 cases x with
 | none=>exact e
 | some x =>
  simp only [evOR,Option.map_eq_some_iff] at e ⊢
  obtain ⟨v,h1,h2⟩:=e
  exact ⟨v,h _ _ h1,h2⟩

theorem vH {α:Type} {x:Operand} {F:V→Option α} {r:α} (e:(rd x).bind F=some r):(rd' x).bind F=some r:=by
 cases hx:rd x with
 | none=>rw [hx] at e; cases e
 | some v=>rw [hx] at e; rw [h _ _ hx]; exact e
theorem rd_map {α:Type} {x:Operand} {F:V→α} {r:α} (e:(rd x).map F=some r):(rd' x).map F=some r:=by
 cases hx:rd x with
 | none=>rw [hx] at e; cases e
 | some v=>rw [hx] at e; rw [h _ _ hx]; exact e

theorem doCallR_mono {cfg:Cfg} {cf:CF} {sl:Bool} {nw:Nat} {c:Call} {s:S} {r:R} (e:xI cfg cf sl nw c rd s=some r):xI cfg cf sl nw c rd' s=some r:=by
 unfold xI at e ⊢
 split at e
 ·cases e
 ·rename_i args ha
  rw [wI h ha]
  simp only
  cases hc:c.callee with
  | builtin b=>rw [hc] at e; exact e
  | invoke ro name =>
   rw [hc] at e
   simp only at e ⊢
   cases hx:rd ro with
   | none=>rw [hx] at e; cases e
   | some v=>rw [hx] at e; rw [h _ _ hx]; exact e
  | value f =>
   rw [hc] at e
   simp only at e ⊢
   cases hx:rd f with
   | none=>rw [hx] at e; cases e
   | some v=>rw [hx] at e; rw [h _ _ hx]; exact e

theorem doOpR_mono {cfg:Cfg} {cf:CF} {sl:Bool} {nw:Nat} {o:Oper} {s:S} {r:R} (e:zP cfg cf sl nw o rd s=some r):zP cfg cf sl nw o rd' s=some r:=by
 unfold zP at e ⊢
 obtain ⟨d,op,ty,p,a,g⟩:=o
 cases op <;> simp only at e ⊢ <;> try exact e
 case move x=>exact rd_map h e
 case assign x=>exact rd_map h e
 case pick c a b =>
  unfold opPickR at e ⊢
  split at e
  ·rename_i t hc
   rw [h _ _ hc]; exact rd_map h e
  ·cases e
 case box t x=>exact vH h e
 case build t ps =>
  unfold tw at e ⊢
  simp only [Option.bind_eq_bind,Option.bind_eq_some_iff] at e ⊢
  obtain ⟨v,h1,h2⟩:=e
  exact ⟨v,vj h h1,h2⟩
 case buildSlice t n ps =>
  unfold xk at e ⊢
  simp only [Option.bind_eq_bind,Option.bind_eq_some_iff] at e ⊢
  obtain ⟨v,h1,h2⟩:=e
  exact ⟨v,vj h h1,h2⟩
 case load t p =>
  unfold opLoadR at e ⊢
  simp only [Option.bind_eq_bind,Option.bind_eq_some_iff] at e ⊢
  obtain ⟨a,ha,v,h1,h2⟩:=e
  exact ⟨a,ha,v,h _ _ h1,h2⟩
 case store t p x =>
  unfold opStoreR at e ⊢
  simp only [Option.bind_eq_bind,Option.bind_eq_some_iff] at e ⊢
  obtain ⟨a,ha,v,h1,w,h2,h3⟩:=e
  exact ⟨a,ha,v,h _ _ h1,w,h _ _ h2,h3⟩
 case nilCheck x =>
  unfold opNilCheckR at e ⊢
  cases hx:rd x with
  | none=>rw [hx] at e; cases e
  | some v=>rw [hx] at e; rw [h _ _ hx]; exact e
 case binOp op t x y u =>
  unfold opBinR at e ⊢
  simp only [Option.bind_eq_bind,Option.bind_eq_some_iff] at e ⊢
  obtain ⟨v,h1,w,h2,h3⟩:=e
  exact ⟨v,h _ _ h1,w,h _ _ h2,h3⟩
 case unOp op t x=>exact vH h e
 case convert a b x=>
  unfold ui at e ⊢
  exact vH h e
 case makeInterface t x =>
  unfold xc at e ⊢
  simp only [Option.bind_eq_bind,Option.bind_eq_some_iff] at e ⊢
  obtain ⟨a,ha,v,h1,h2⟩:=e
  exact ⟨a,ha,v,h _ _ h1,h2⟩
 case makeFunc f x y =>
  unfold xS at e ⊢
  simp only [Option.bind_eq_bind,Option.bind_eq_some_iff] at e ⊢
  obtain ⟨a,ha,v,h1,h2⟩:=e
  exact ⟨a,wI h ha,v,wI h h1,h2⟩
 case makeMap t r =>
  unfold opMakeMapR at e ⊢
  cases r with
  | none=>exact e
  | some x =>
   simp only [Option.bind_eq_bind,Option.bind_eq_some_iff] at e ⊢
   obtain ⟨a,ha,h1⟩:=e
   refine ⟨a,ha,?_⟩
   split at h1
   ·rename_i hu hx
    rw [h _ _ hx]; simp only [hu]; exact h1
   ·cases h1
 case makeSlice t l c =>
  unfold wj at e ⊢
  simp only [Option.bind_eq_bind,Option.bind_eq_some_iff] at e ⊢
  obtain ⟨v,h1,w,h2,h3⟩:=e
  exact ⟨v,h _ _ h1,w,h _ _ h2,h3⟩
 case slice t x lo hi mx =>
  unfold tu at e ⊢
  simp only [Option.bind_eq_bind,Option.bind_eq_some_iff] at e ⊢
  obtain ⟨a,ha,v,h1,w,h2,w',h3,w'',h4,h5⟩:=e
  exact ⟨a,ha,v,h _ _ h1,w,evOR_mono h h2,w',evOR_mono h h3,w'',evOR_mono h h4,h5⟩
 case fieldAddr t x f=>exact vH h e
 case field t x f=>exact vH h e
 case indexAddr t x i =>
  unfold wk at e ⊢
  simp only [Option.bind_eq_bind,Option.bind_eq_some_iff] at e ⊢
  obtain ⟨v,h1,w,h2,h3⟩:=e
  exact ⟨v,h _ _ h1,w,h _ _ h2,h3⟩
 case index t x i =>
  unfold opIndexR at e ⊢
  simp only [Option.bind_eq_bind,Option.bind_eq_some_iff] at e ⊢
  obtain ⟨v,h1,w,h2,h3⟩:=e
  exact ⟨v,h _ _ h1,w,h _ _ h2,h3⟩
 case lookup t m k ok =>
  unfold tv at e ⊢
  simp only [Option.bind_eq_bind,Option.bind_eq_some_iff] at e ⊢
  obtain ⟨v,h1,w,h2,h3⟩:=e
  exact ⟨v,h _ _ h1,w,h _ _ h2,h3⟩
 case mapUpdate t m k x =>
  unfold xe at e ⊢
  simp only [Option.bind_eq_bind,Option.bind_eq_some_iff] at e ⊢
  obtain ⟨v,h1,w,h2,u,h3,h4⟩:=e
  exact ⟨v,h _ _ h1,w,h _ _ h2,u,h _ _ h3,h4⟩
 case insert t m k x =>
  unfold xe at e ⊢
  simp only [Option.bind_eq_bind,Option.bind_eq_some_iff] at e ⊢
  obtain ⟨v,h1,w,h2,u,h3,h4⟩:=e
  exact ⟨v,h _ _ h1,w,h _ _ h2,u,h _ _ h3,h4⟩
 case typeAssert x n t ok =>
  unfold tt at e ⊢
  simp only [Option.bind_eq_bind,Option.bind_eq_some_iff] at e ⊢
  obtain ⟨a,ha,h1⟩:=e
  refine ⟨a,ha,?_⟩
  cases hx:rd x with
  | none=>rw [hx] at h1; exfalso; cases hu:a.und <;> simp [hu] at h1
  | some v=>rw [hx] at h1; rw [h _ _ hx]; exact h1
 case extract x i =>
  unfold uh at e ⊢
  cases hx:rd x with
  | none=>rw [hx] at e; cases e
  | some v=>rw [hx] at e; rw [h _ _ hx]; exact e
 case range t x=>exact vH h e
 case next x str=>exact vH h e
 case entry x=>exact vH h e
 case call c=>exact doCallR_mono h e
 case defer c =>
  unfold opDeferR at e ⊢
  split at e
  ·rename_i f args hf ha
   rw [wI h ha]
   simp only [hf]
   cases hx:rd f with
   | none=>rw [hx] at e; cases e
   | some v=>rw [hx] at e; rw [h _ _ hx]; exact e
  ·cases e
 case panic x =>
  unfold opPanicR at e ⊢
  cases hx:rd x with
  | none=>rw [hx] at e; cases e
  | some v=>rw [hx] at e; rw [h _ _ hx]; exact e
end

theorem rdE_ev {cfg:Cfg} {E:Env} {tm:List V} (h:Has E tm):∀x v,rdE cfg E x=some v→ev cfg tm x=some v
 | .tmp t,v,e=>h t v e
 | .const _,v,e=>e
 | .global _,v,e=>e
 | .func _,v,e=>e

theorem doOpE {cfg:Cfg} {cf:CF} {sl:Bool} {nw:Nat} {o:Oper} {E:Env} {tm:List V} {s:S} {r:R} (h:Has E tm) (e:zP cfg cf sl nw o (rdE cfg E) s=some r):yS cfg cf sl nw o tm s=some r:=by
 rw [← doOpR_ev]; exact doOpR_mono (rdE_ev h) e
end
end Go.Proofs.YtchlfjhbijmdiaaGreatDoor.Ai

