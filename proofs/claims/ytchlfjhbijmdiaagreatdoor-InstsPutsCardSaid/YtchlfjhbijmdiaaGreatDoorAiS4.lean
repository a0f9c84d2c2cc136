/- Part of a reckoning of a Go program over abstract values, proved sound against the model. -/
import Derived.Test.YtchlfjhbijmdiaaGreatDoorAiS1
set_option linter.unusedSimpArgs false
set_option linter.unusedVariables false
namespace Go.Proofs.YtchlfjhbijmdiaaGreatDoor.Ai
set_option maxRecDepth 100000

/-! what a run gives, with what follows as a condition behind it -/
def Wp (cfg:Cfg) (cf:CF) (fuel:Nat) (sl:Bool) (c:Code) (fr:Fr) (s:S) (Q:AX→Fr→S→Prop):Prop :=
 ∃e fr' s',exec cfg cf fuel sl none c fr s=some (e,fr',s')∧Q e fr' s'
section
variable {cfg:Cfg} {cf:CF} {fuel:Nat} {sl:Bool} {fr:Fr} {s:S} {Q:AX→Fr→S→Prop}

theorem Wp.mono {c:Code} {Q':AX→Fr→S→Prop} (h:Wp cfg cf fuel sl c fr s Q) (hq:∀e fr' s',Kept fr.tmps fr'.tmps (wr c)→Q e fr' s'→Q' e fr' s'):Wp cfg cf fuel sl c fr s Q':=by
 obtain ⟨e,fr',s',h,hQ⟩:=h
 exact ⟨e,fr',s',h,hq _ _ _ (exec_kept c fr fr' s s' e h) hQ⟩

end
end Go.Proofs.YtchlfjhbijmdiaaGreatDoor.Ai

namespace Go.Proofs.YtchlfjhbijmdiaaGreatDoor.Ai
set_option maxRecDepth 100000

section
variable {cfg:Cfg} {cf:CF} {fuel:Nat} {sl:Bool} {nw:Nat} {tm:List V} {dfs:List DF} {s:S}

@[simp] theorem putT_some (t:Nat) (v:V):putT (some t) tm v=updL tm v t:=rfl
@[simp] theorem putT_none (v:V):putT none tm v=tm:=rfl
@[simp] theorem wanted_none {ops:Array Oper} {d:Option Tmp} {op:Op} {t:TypeId} {p:String} {a:Array Edge}:yk ops ⟨d,op,t,p,a,none⟩ tm=true:=rfl
@[simp] theorem ev_tmp (t:Nat):ev cfg tm (.tmp t)=nth tm t:=rfl
@[simp] theorem ev_int (k:IntKind) (n:Int):ev cfg tm (.const (.int k n))=some (.int k n):=rfl
@[simp] theorem ev_bool (b:Bool):ev cfg tm (.const (.bool b))=some (.bool b):=rfl
@[simp] theorem ev_str (b:ByteArray):ev cfg tm (.const (.string b))=some (.str b):=rfl
@[simp] theorem ev_nils:ev cfg tm (.const (.slice none 0 0))=some .nils:=rfl
@[simp] theorem ev_func (f:FuncId):ev cfg tm (.func f)=some (.func (.func f) [] []):=rfl
@[simp] theorem evL_nil:evL cfg tm []=some []:=rfl
@[simp] theorem evL_cons (x:Operand) (l:List Operand):evL cfg tm (x::l)=match ev cfg tm x,evL cfg tm l with | some v,some r=>some (v::r) | _,_=>none:=rfl

variable {d:Option Tmp} {ty:TypeId} {p:String} {a:Array Edge} {g:Option (Nat×Bool)}
@[simp] theorem do_move (x:Operand):yS cfg cf sl nw ⟨d,.move x,ty,p,a,g⟩ tm s=(ev cfg tm x).map (.val · s):=rfl
@[simp] theorem do_assign (x:Operand):yS cfg cf sl nw ⟨d,.assign x,ty,p,a,g⟩ tm s=(ev cfg tm x).map (.val · s):=rfl
@[simp] theorem do_pick (c x y:Operand):yS cfg cf sl nw ⟨d,.pick c x y,ty,p,a,g⟩ tm s=match ev cfg tm c with
 | some (.bool t)=>(ev cfg tm (if t then x else y)).map (.val · s)
 | _=>none:=rfl
@[simp] theorem do_alloc (t:TypeId):yS cfg cf sl nw ⟨d,.alloc t,ty,p,a,g⟩ tm s=(cfg.ty t).map fun a=>.val (.ptr nw 0) (s.add nw (.cells a.zero.cells 0 t true)):=by
 show opAlloc _ _ _ _=_; unfold opAlloc; cases cfg.ty t <;> rfl
@[simp] theorem do_box (t:TypeId) (x:Operand):yS cfg cf sl nw ⟨d,.box t x,ty,p,a,g⟩ tm s=match ev cfg tm x with
 | some v=>if v.cells.all V.one then some (.val (.ptr nw 0) (s.add nw (.cells v.cells 0 t true))) else none
 | none=>none:=by
 show opBox _ _ _ _ _ _=_; unfold opBox; cases ev cfg tm x <;> rfl
@[simp] theorem do_build (t:TypeId) (ps:Array (Nat×Operand)):yS cfg cf sl nw ⟨d,.build t ps,ty,p,a,g⟩ tm s=opBuild cfg tm s t ps:=rfl
@[simp] theorem do_buildSlice (t:TypeId) (n:Nat) (ps:Array (Nat×Operand)):yS cfg cf sl nw ⟨d,.buildSlice t n ps,ty,p,a,g⟩ tm s=wl cfg nw tm s t n ps:=rfl
@[simp] theorem do_load (t:TypeId) (x:Operand):yS cfg cf sl nw ⟨d,.load t x,ty,p,a,g⟩ tm s=match cfg.ty t,ev cfg tm x with
 | some a,some v=>(zt s a.size (zS a.und) v).map (.val · s)
 | _,_=>none:=by
 show opLoad _ _ _ _ _=_; unfold opLoad; cases cfg.ty t <;> cases ev cfg tm x <;> rfl
@[simp] theorem do_store (t:TypeId) (x y:Operand):yS cfg cf sl nw ⟨d,.store t x y,ty,p,a,g⟩ tm s=match cfg.ty t,ev cfg tm x,ev cfg tm y with
 | some a,some q,some v=>(zr s a.size q v).map (.val yc ·)
 | _,_,_=>none:=by
 show opStore _ _ _ _ _ _=_; unfold opStore; cases cfg.ty t <;> cases ev cfg tm x <;> cases ev cfg tm y <;> rfl
@[simp] theorem do_bin (op:BinOp) (t u:TypeId) (x y:Operand):yS cfg cf sl nw ⟨d,.binOp op t x y u,ty,p,a,g⟩ tm s=match ev cfg tm x,ev cfg tm y with
 | some v,some w=>(wN cfg op t v w).map (.val · s)
 | _,_=>none:=by
 show opBin _ _ _ _ _ _ _=_; unfold opBin; cases ev cfg tm x <;> cases ev cfg tm y <;> rfl
@[simp] theorem do_un (op:UnOp) (t:TypeId) (x:Operand):yS cfg cf sl nw ⟨d,.unOp op t x,ty,p,a,g⟩ tm s=match ev cfg tm x with
 | some v=>(aUn op v).map (.val · s)
 | none=>none:=by
 show opUn _ _ _ _ _=_; unfold opUn; cases ev cfg tm x <;> rfl
@[simp] theorem do_convert (t u:TypeId) (x:Operand):yS cfg cf sl nw ⟨d,.convert t u x,ty,p,a,g⟩ tm s=opConvert cfg nw tm s t u x:=rfl
@[simp] theorem do_makeFunc (f:Fn) (x y:Array Operand):yS cfg cf sl nw ⟨d,.makeFunc f x y,ty,p,a,g⟩ tm s=match evL cfg tm x.toList,evL cfg tm y.toList with
 | some v,some w=>some (.val (.func f v w) s)
 | _,_=>none:=by
 show ug _ _ _ _ _ _=_; unfold ug; cases evL cfg tm x.toList <;> cases evL cfg tm y.toList <;> rfl
@[simp] theorem do_makeSlice (t:TypeId) (l c:Operand):yS cfg cf sl nw ⟨d,.makeSlice t l c,ty,p,a,g⟩ tm s=match ev cfg tm l,ev cfg tm c with
 | some v,some w=>(zb cfg nw s t v w).map fun r=>.val r.1 r.2
 | _,_=>none:=by
 show uN _ _ _ _ _ _ _=_; unfold uN; cases ev cfg tm l <;> cases ev cfg tm c <;> rfl
@[simp] theorem do_slice (t:TypeId) (x:Operand) (lo hi mx:Option Operand):yS cfg cf sl nw ⟨d,.slice t x lo hi mx,ty,p,a,g⟩ tm s=opSlice cfg tm s t x lo hi mx:=rfl
@[simp] theorem do_fieldAddr (t:TypeId) (x:Operand) (f:Nat):yS cfg cf sl nw ⟨d,.fieldAddr t x f,ty,p,a,g⟩ tm s=match ev cfg tm x with
 | some v=>(ze cfg t v f).map (.val · s)
 | none=>none:=by
 show uP _ _ _ _ _ _=_; unfold uP; cases ev cfg tm x <;> rfl
@[simp] theorem do_field (t:TypeId) (x:Operand) (f:Nat):yS cfg cf sl nw ⟨d,.field t x f,ty,p,a,g⟩ tm s=match ev cfg tm x with
 | some v=>(zq cfg t v f).map (.val · s)
 | none=>none:=by
 show opField _ _ _ _ _ _=_; unfold opField; cases ev cfg tm x <;> rfl
@[simp] theorem do_indexAddr (t:TypeId) (x i:Operand):yS cfg cf sl nw ⟨d,.indexAddr t x i,ty,p,a,g⟩ tm s=match ev cfg tm x,ev cfg tm i with
 | some v,some w=>(zd cfg t v w).map (.val · s)
 | _,_=>none:=by
 show uO _ _ _ _ _ _=_; unfold uO; cases ev cfg tm x <;> cases ev cfg tm i <;> rfl
@[simp] theorem do_index (t:TypeId) (x i:Operand):yS cfg cf sl nw ⟨d,.index t x i,ty,p,a,g⟩ tm s=match ev cfg tm x,ev cfg tm i with
 | some v,some w=>(zp cfg t v w).map (.val · s)
 | _,_=>none:=by
 show opIndex _ _ _ _ _ _=_; unfold opIndex; cases ev cfg tm x <;> cases ev cfg tm i <;> rfl
@[simp] theorem do_lookup (t:TypeId) (m k:Operand) (ok:Bool):yS cfg cf sl nw ⟨d,.lookup t m k ok,ty,p,a,g⟩ tm s=opLookup cfg tm s t m k ok:=rfl
@[simp] theorem do_extract (x:Operand) (i:Nat):yS cfg cf sl nw ⟨d,.extract x i,ty,p,a,g⟩ tm s=match ev cfg tm x with
 | some (.tup vs)=>(vs[i]?).map (.val · s)
 | _=>none:=rfl
@[simp] theorem do_len (x:Operand) (t:TypeId):yS cfg cf sl nw ⟨d,.call ⟨.builtin .len,#[x],#[t]⟩,ty,p,a,g⟩ tm s=match ev cfg tm x,cfg.ty t with
 | some v,some a=>(zy s a.und v).map (.val · s)
 | _,_=>none:=by
 show yY cfg cf sl nw _ tm s=_
 unfold yY
 cases hx:ev cfg tm x with
 | none=>simp [hx]
 | some v=>cases ht:cfg.ty t <;> simp [hx,ht,ye]
@[simp] theorem do_append (x y:Operand) (t u:TypeId):yS cfg cf sl nw ⟨d,.call ⟨.builtin .append,#[x,y],#[t,u]⟩,ty,p,a,g⟩ tm s=match ev cfg tm x,ev cfg tm y with
 | some v,some w=>(zj cfg sl nw s t u v w).map fun r=>.val r.1 r.2
 | _,_=>none:=by
 show yY cfg cf sl nw _ tm s=_
 unfold yY
 cases hx:ev cfg tm x with
 | none=>simp [hx]
 | some v=>cases hy:ev cfg tm y <;> simp [hx,hy,ye]
/-- A call: of a function with a body. -/
@[simp] theorem do_call (f:Operand) (xs:Array Operand) (ts:Array TypeId):yS cfg cf sl nw ⟨d,.call ⟨.value f,xs,ts⟩,ty,p,a,g⟩ tm s=match evL cfg tm xs.toList,ev cfg tm f with
 | some args,some (.func (.func g) first cap)=>match cfg.fn g with
  | some fn=>if fn.body.isNone then (extOp cfg g (first++args++cap)).map (.val · s) else xq cfg cf nw g (first++args++cap) s
  | none=>none
 | some args,some (.yield id)=>(match cf.rd id args s with
  | some (.ret v,s')=>some (.val v s')
  | _=>none)
 | _,_=>none:=by
 show yY cfg cf sl nw _ tm s=_
 unfold yY
 cases evL cfg tm xs.toList with
 | none=>rfl
 | some args =>
  simp only
  cases ev cfg tm f with
  | none=>rfl
  | some v =>
   cases v <;> try rfl
   rename_i fn _ _
   cases fn <;> rfl
end

/-! numbers -/
section
variable {cfg:Cfg} {t:TypeId} {k:IntKind} {x y:Int}
theorem beq_dec (x y:Int):(x == y)=decide (x=y):=by rw [Bool.eq_iff_iff]; simp
@[simp] theorem bin_eql:wN cfg .eql t (.int k x) (.int k y)=some (.bool (decide (x=y))):=by
 simp [wN,intOp,cmpB,beq_dec]
@[simp] theorem bin_neq:wN cfg .neq t (.int k x) (.int k y)=some (.bool (!decide (x=y))):=by
 simp [wN,intOp,cmpB,bne,beq_dec]
@[simp] theorem bin_lss:wN cfg .lss t (.int k x) (.int k y)=some (.bool (decide (x<y))):=by
 simp [wN,intOp,cmpB,leI_eq,← Int.not_le]
@[simp] theorem bin_leq:wN cfg .leq t (.int k x) (.int k y)=some (.bool (decide (x≤y))):=by
 simp [wN,intOp,cmpB,leI_eq]
@[simp] theorem bin_gtr:wN cfg .gtr t (.int k x) (.int k y)=some (.bool (decide (y<x))):=by
 simp [wN,intOp,cmpB,leI_eq,← Int.not_le]
@[simp] theorem bin_geq:wN cfg .geq t (.int k x) (.int k y)=some (.bool (decide (y≤x))):=by
 simp [wN,intOp,cmpB,leI_eq]
@[simp] theorem bin_add:wN cfg .add t (.int k x) (.int k y)=some (.int k (k.wrap (x+y))):=by simp [wN,intOp]
@[simp] theorem bin_sub:wN cfg .sub t (.int k x) (.int k y)=some (.int k (k.wrap (x - y))):=by simp [wN,intOp]
@[simp] theorem bin_seql {x y:ByteArray}:wN cfg .eql t (.str x) (.str y)=some (.bool (x.toList == y.toList)):=rfl
@[simp] theorem bin_sneq {x y:ByteArray}:wN cfg .neq t (.str x) (.str y)=some (.bool (!(x.toList == y.toList))):=rfl
@[simp] theorem bin_slss {x y:ByteArray}:wN cfg .lss t (.str x) (.str y)=some (.bool (Op.bytesLess x.toList y.toList)):=rfl
@[simp] theorem bin_beql {x y:Bool} {a:ATy} (ht:cfg.ty t=some a) (ha:a.und=.bool):wN cfg .eql t (.bool x) (.bool y)=some (.bool (x == y)):=by simp [wN,aEq,ht,ha]
@[simp] theorem bin_bneq {x y:Bool} {a:ATy} (ht:cfg.ty t=some a) (ha:a.und=.bool):wN cfg .neq t (.bool x) (.bool y)=some (.bool (!(x == y))):=by simp [wN,aEq,ht,ha]
@[simp] theorem un_not {b:Bool}:aUn .not (.bool b)=some (.bool !b):=rfl
theorem wrap_id {x:Int} (h0:-9223372036854775808≤x) (h1:x<9223372036854775808):IntKind.i64.wrap x=x:=by
 simp [IntKind.wrap,IntKind.bits,IntKind.signed]
 omega
end
attribute [simp] nth_updL length_updL

@[simp] theorem one_int (k:IntKind) (n:Int):(V.int k n).one=true:=rfl
@[simp] theorem one_bool (b:Bool):(V.bool b).one=true:=rfl
@[simp] theorem one_str (b:ByteArray):(V.str b).one=true:=rfl
@[simp] theorem one_list (l:List V):(V.list l).one=true:=rfl
@[simp] theorem one_nils:V.nils.one=true:=rfl
@[simp] theorem one_ptr (i o:Nat):(V.ptr i o).one=true:=rfl
@[simp] theorem one_arr (a b c d:Nat) (e:Bool) (f:Nat):(V.arr a b c d e f).one=true:=rfl
@[simp] theorem one_func (f:Fn) (a b:List V):(V.func f a b).one=true:=rfl
@[simp] theorem one_map (i:Nat):(V.map i).one=true:=rfl
@[simp] theorem cells_agg (cs:List V):(V.agg cs).cells=cs:=rfl
@[simp] theorem cells_int (k:IntKind) (n:Int):(V.int k n).cells=[.int k n]:=rfl
@[simp] theorem cells_bool (b:Bool):(V.bool b).cells=[.bool b]:=rfl
@[simp] theorem cells_str (b:ByteArray):(V.str b).cells=[.str b]:=rfl
@[simp] theorem cells_list (l:List V):(V.list l).cells=[.list l]:=rfl
@[simp] theorem cells_nils:V.nils.cells=[.nils]:=rfl
@[simp] theorem cells_ptr (i o:Nat):(V.ptr i o).cells=[.ptr i o]:=rfl
@[simp] theorem cells_arr (a b c d:Nat) (e:Bool) (f:Nat):(V.arr a b c d e f).cells=[.arr a b c d e f]:=rfl
@[simp] theorem cells_func (f:Fn) (a b:List V):(V.func f a b).cells=[.func f a b]:=rfl
@[simp] theorem cells_map (i:Nat):(V.map i).cells=[.map i]:=rfl
end Go.Proofs.YtchlfjhbijmdiaaGreatDoor.Ai

namespace Go.Proofs.YtchlfjhbijmdiaaGreatDoor.Ai
set_option maxRecDepth 100000

/-! regions that draw their order, run in the order of the text -/
def S.ext (a b:S):Prop:=∀i o,a.get i=some o→b.get i=some o
theorem S.ext.refl (a:S):a.ext a:=fun _ _ h=>h
theorem S.ext.trans {a b c:S} (h:a.ext b) (h':b.ext c):a.ext c:=fun i o hi=>h' i o (h i o hi)

def readOp (o:Oper):Bool:=match o.op with
 | .load .. | .lookup ..=>true
 | .call c=>match c.callee with
  | .builtin .len=>true
  | _=>false
 | _=>false
def notCall (o:Oper):Bool:=match o.op with
 | .call _=>false
 | .convert ..=>false
 | _=>true
def newOp (o:Oper):Bool:=match o.op with
 | .alloc _ | .box .. | .buildSlice .. | .makeMap .. | .makeSlice ..=>true
 | _=>false
def wg (cfg:Cfg) (o:Oper):Bool:=match zC cfg o with
 | 0=>notCall o
 | 1=>readOp o
 | 2=>newOp o
 | _=>true

def zD (cfg:Cfg) (ops:Array Oper):Bool :=
 let b:=bef ops
 let l:=ops.toList.zipIdx
 l.all fun (oi,i)=>wg cfg oi && l.all fun (oj,j)=>decide (j≤i) || (!xp b j i && (zC cfg oi != 2 || zC cfg oj != 3 || xp b i j))

section
variable {cfg:Cfg} {cf:CF} {sl:Bool}

theorem aLoad_up {s s':S} (h:s.ext s') {n:Nat} {ag:Bool} {p v:V} (hl:zt s n ag p=some v):zt s' n ag p=some v:=by
 unfold zt at hl ⊢
 split at hl
 ·rename_i id off
  split at hl
  ·rename_i cs a b c hg
   simp only [h _ _ hg]; exact hl
  ·cases hl
 ·exact hl
 ·cases hl

theorem aLen_up {s s':S} (h:s.ext s') {u:TypeDesc} {p v:V} (hl:zy s u p=some v):zy s' u p=some v:=by
 unfold zy at hl ⊢
 cases u <;> cases p <;> try exact hl
 simp only at hl ⊢
 split at hl
 ·rename_i es c hg
  simp only [h _ _ hg]; exact hl
 ·cases hl

theorem mapEnts_up {s s':S} (h:s.ext s') {m:V} {es:List (V×V×Nat)} (hl:zi s m=some es):zi s' m=some es:=by
 unfold zi at hl ⊢
 split at hl
 ·exact hl
 ·split at hl
  ·rename_i es c hg
   simp only [h _ _ hg]; exact hl
  ·cases hl
 ·cases hl

theorem aLookup_up {s s':S} (h:s.ext s') {t:TypeId} {m k v:V} {ok:Bool} (hl:yI cfg s t m k ok=some v):yI cfg s' t m k ok=some v:=by
 unfold yI at hl ⊢
 simp only [Option.bind_eq_bind,Option.bind_eq_some_iff] at hl ⊢
 obtain ⟨a,ha,hl⟩:=hl
 refine ⟨a,ha,?_⟩
 split at hl
 ·simp only [Option.bind_eq_some_iff] at hl ⊢
  obtain ⟨z,hz,hl⟩:=hl
  refine ⟨z,hz,?_⟩
  split at hl
  ·cases hl
  ·rename_i hp
   rw [if_neg hp]
   simp only [Option.bind_eq_some_iff] at hl ⊢
   obtain ⟨es,he,hl⟩:=hl
   exact ⟨es,mapEnts_up h he,hl⟩
 ·cases hl

theorem readR {o:Oper} (hs:wg cfg o=true) (hk:zC cfg o=0∨zC cfg o=1) (tm:List V) :
  ∃r:S→Option V,(∀nw s,yS cfg cf sl nw o tm s=(r s).map (R.val · s))∧∀s s' v,s.ext s'→r s=some v→r s'=some v:=by
 obtain ⟨d,op,ty,p,a,g⟩:=o
 cases op
 case move y=>exact ⟨fun _=>ev cfg tm y,fun _ _=>rfl,fun _ _ _ _ h=>h⟩
 case assign y=>exact ⟨fun _=>ev cfg tm y,fun _ _=>rfl,fun _ _ _ _ h=>h⟩
 case pick c y z =>
  refine ⟨fun _=>match ev cfg tm c with
   | some (.bool t)=>ev cfg tm (if t then y else z)
   | _=>none,fun nw s=>?_,fun _ _ _ _ h=>h⟩
  rw [do_pick]
  cases ev cfg tm c with
  | none=>rfl
  | some v=>cases v <;> rfl
 case load t y =>
  refine ⟨fun s=>match cfg.ty t,ev cfg tm y with
   | some a,some q=>zt s a.size (zS a.und) q
   | _,_=>none,fun nw s=>?_,fun s s' v h hl=>?_⟩
  ·rw [do_load]; cases cfg.ty t <;> cases ev cfg tm y <;> rfl
  ·simp only at hl ⊢
   split at hl
   ·rename_i a q ha hq
    exact aLoad_up h hl
   ·cases hl
 case lookup t m k ok =>
  refine ⟨fun s=>match ev cfg tm m,ev cfg tm k with
   | some m,some k=>yI cfg s t m k ok
   | _,_=>none,fun nw s=>?_,fun s s' v h hl=>?_⟩
  ·rw [do_lookup]; unfold opLookup; cases ev cfg tm m <;> cases ev cfg tm k <;> rfl
  ·simp only at hl ⊢
   split at hl
   ·exact aLookup_up h hl
   ·cases hl
 case build t ps =>
  refine ⟨fun _=>(yP cfg tm ps.toList).bind (xh cfg t),fun nw s=>?_,fun _ _ _ _ h=>h⟩
  rw [do_build]; unfold opBuild; cases yP cfg tm ps.toList <;> rfl
 case nilCheck y =>
  refine ⟨fun _=>match ev cfg tm y with
   | some (.ptr i o)=>some (.ptr i o)
   | some (.cptr c o)=>some (.cptr c o)
   | some (.func (.func g) a b)=>some (.func (.func g) a b)
   | some (.yield id)=>some (.yield id)
   | _=>none,fun nw s=>?_,fun _ _ _ _ h=>h⟩
  show opNilCheck cfg tm s y=_
  unfold opNilCheck
  cases ev cfg tm y with
  | none=>rfl
  | some v =>
   cases v <;> try rfl
   rename_i f _ _
   cases f <;> rfl
 case binOp op t y z u =>
  refine ⟨fun _=>match ev cfg tm y,ev cfg tm z with
   | some a,some b=>wN cfg op t a b
   | _,_=>none,fun nw s=>?_,fun _ _ _ _ h=>h⟩
  rw [do_bin]; cases ev cfg tm y <;> cases ev cfg tm z <;> rfl
 case unOp op t y =>
  refine ⟨fun _=>match ev cfg tm y with
   | some a=>aUn op a
   | none=>none,fun nw s=>?_,fun _ _ _ _ h=>h⟩
  rw [do_un]; cases ev cfg tm y <;> rfl
 case makeInterface t y =>
  refine ⟨fun _=>match cfg.ty t,ev cfg tm y with
   | some a,some v=>(match a.und with
    | .interface _=>none
    | _=>some (.iface t v))
   | _,_=>none,fun nw s=>?_,fun _ _ _ _ h=>h⟩
  show xR cfg tm s t y=_
  unfold xR
  cases cfg.ty t with
  | none=>rfl
  | some a =>
   cases ev cfg tm y with
   | none=>rfl
   | some v =>
    simp only [Option.bind_eq_bind,Option.bind_some]
    cases a.und <;> rfl
 case makeFunc f y z =>
  refine ⟨fun _=>match evL cfg tm y.toList,evL cfg tm z.toList with
   | some a,some b=>some (.func f a b)
   | _,_=>none,fun nw s=>?_,fun _ _ _ _ h=>h⟩
  rw [do_makeFunc]; cases evL cfg tm y.toList <;> cases evL cfg tm z.toList <;> rfl
 case slice t y lo hi mx =>
  refine ⟨fun _=>(cfg.ty t).bind fun a=>(ev cfg tm y).bind fun x=>(evO cfg tm lo).bind fun l=>(evO cfg tm hi).bind fun h=>(evO cfg tm mx).bind fun m=>zs cfg a.und x l h m,fun nw s=>?_,fun _ _ _ _ h=>h⟩
  rw [do_slice]; unfold opSlice
  cases cfg.ty t <;> cases ev cfg tm y <;> cases evO cfg tm lo <;> cases evO cfg tm hi <;> cases evO cfg tm mx <;> rfl
 case fieldAddr t y f =>
  refine ⟨fun _=>match ev cfg tm y with
   | some a=>ze cfg t a f
   | none=>none,fun nw s=>?_,fun _ _ _ _ h=>h⟩
  rw [do_fieldAddr]; cases ev cfg tm y <;> rfl
 case field t y f =>
  refine ⟨fun _=>match ev cfg tm y with
   | some a=>zq cfg t a f
   | none=>none,fun nw s=>?_,fun _ _ _ _ h=>h⟩
  rw [do_field]; cases ev cfg tm y <;> rfl
 case indexAddr t y i =>
  refine ⟨fun _=>match ev cfg tm y,ev cfg tm i with
   | some a,some b=>zd cfg t a b
   | _,_=>none,fun nw s=>?_,fun _ _ _ _ h=>h⟩
  rw [do_indexAddr]; cases ev cfg tm y <;> cases ev cfg tm i <;> rfl
 case index t y i =>
  refine ⟨fun _=>match ev cfg tm y,ev cfg tm i with
   | some a,some b=>zp cfg t a b
   | _,_=>none,fun nw s=>?_,fun _ _ _ _ h=>h⟩
  rw [do_index]; cases ev cfg tm y <;> cases ev cfg tm i <;> rfl
 case typeAssert y n t ok=>
  refine ⟨fun s=>match wi cfg tm S.empty y t ok with
   | some (.val v _)=>some v
   | _=>none,fun nw s=>?_,fun _ _ _ _ h=>h⟩
  show wi cfg tm s y t ok=_
  unfold wi
  cases cfg.ty t with
  | none=>rfl
  | some a =>
   cases ev cfg tm y with
   | none=>cases hu:a.und <;> simp [hu]
   | some v =>
    cases hu:a.und <;> cases v <;> simp [hu] <;> cases ok <;> simp <;> (try split) <;> simp
 case extract y i =>
  refine ⟨fun _=>match ev cfg tm y with
   | some (.tup vs)=>vs[i]?
   | _=>none,fun nw s=>?_,fun _ _ _ _ h=>h⟩
  rw [do_extract]
  cases ev cfg tm y with
  | none=>rfl
  | some v=>cases v <;> rfl
 case call c =>
  obtain ⟨f,xs,ts⟩:=c
  rcases hk with hk | hk
  ·simp [wg,hk,notCall] at hs
  ·simp only [wg,hk,readOp] at hs
   cases f with
   | value f=>simp at hs
   | invoke _ _=>simp at hs
   | builtin b =>
    cases b <;> simp at hs
    refine ⟨fun s=>match evL cfg tm xs.toList,ts.toList with
     | some [x],t::_=>(cfg.ty t).bind fun a=>zy s a.und x
     | _,_=>none,fun nw s=>?_,fun s s' v h hl=>?_⟩
    ·show yY cfg cf sl nw ⟨.builtin .len,xs,ts⟩ tm s=_
     unfold yY
     cases he:evL cfg tm xs.toList with
     | none=>simp [he]
     | some args =>
      cases ht:ts.toList with
      | nil=>cases args <;> simp [he,ht,ye]
      | cons t l =>
       match args with
       | []=>simp [he,ht,ye]
       | [x]=>cases hc:cfg.ty t <;> simp [he,ht,ye,hc]
       | _::_::_=>simp [he,ht,ye]
    ·simp only at hl ⊢
     split at hl
     ·simp only [Option.bind_eq_some_iff] at hl ⊢
      obtain ⟨a,ha,hl⟩:=hl
      exact ⟨a,ha,aLen_up h hl⟩
     ·cases hl
 case convert t u y=>rcases hk with hk | hk <;> simp [wg,hk,notCall,readOp] at hs
 all_goals (rcases hk with hk | hk <;> simp [zC] at hk)

theorem newR {o:Oper} (hs:wg cfg o=true) (hk:zC cfg o=2) (nw:Nat) (tm:List V) :
  ∃r:Option (V×O),∀s,yS cfg cf sl nw o tm s=r.map fun x=>R.val x.1 (s.add nw x.2):=by
 obtain ⟨d,op,ty,p,a,g⟩:=o
 simp only [wg,hk,newOp] at hs
 cases op <;> simp at hs
 case alloc t =>
  refine ⟨(cfg.ty t).map fun a=>(.ptr nw 0,.cells a.zero.cells 0 t true),fun s=>?_⟩
  rw [do_alloc]; cases cfg.ty t <;> rfl
 case box t x =>
  refine ⟨match ev cfg tm x with
   | some v=>if v.cells.all V.one then some (.ptr nw 0,.cells v.cells 0 t true) else none
   | none=>none,fun s=>?_⟩
  rw [do_box]
  cases ev cfg tm x with
  | none=>rfl
  | some v=>simp only; split <;> rfl
 case buildSlice t n ps =>
  refine ⟨(yP cfg tm ps.toList).bind fun ps=>(za cfg nw S.empty t n ps).bind fun r=>(r.2.get nw).map fun ob=>(r.1,ob),fun s=>?_⟩
  rw [do_buildSlice]; unfold wl
  cases yP cfg tm ps.toList with
  | none=>rfl
  | some ps =>
   show Option.map _ (za cfg nw s t n ps)=_
   simp only [Option.bind_some]
   unfold za
   cases cfg.ty t with
   | none=>rfl
   | some a =>
    simp only [Option.bind_eq_bind,Option.bind_some]
    cases a.und <;> try rfl
    rename_i e
    simp only
    cases cfg.ty e with
    | none=>rfl
    | some b =>
     simp only [Option.bind_some]
     split
     ·rfl
     ·cases zu (fun i=>some (i*b.size,b.size)) (zk b.zero.cells n) ps with
      | none=>rfl
      | some cs =>
       simp only [Option.bind_some]
       split
       ·simp [S.get_add]
       ·rfl
 case makeMap t r =>
  refine ⟨match r with
   | none=>some (.map nw,.map [] 0)
   | some x=>(cfg.ty t).bind fun a=>match a.und,ev cfg tm x with
    | .map _ _,some (.int _ _)=>some (.map nw,.map [] 0)
    | _,_=>none,fun s=>?_⟩
  show opMakeMap cfg nw tm s t r=_
  unfold opMakeMap
  cases r with
  | none=>rfl
  | some x =>
   cases cfg.ty t with
   | none=>rfl
   | some a =>
    simp only [Option.bind_eq_bind,Option.bind_some]
    cases a.und <;> cases ev cfg tm x <;> try rfl
    rename_i v
    cases v <;> rfl
 case makeSlice t l c =>
  refine ⟨match ev cfg tm l,ev cfg tm c with
   | some v,some w=>(zb cfg nw S.empty t v w).bind fun r=>(r.2.get nw).map fun ob=>(r.1,ob)
   | _,_=>none,fun s=>?_⟩
  rw [do_makeSlice]
  cases ev cfg tm l with
  | none=>rfl
  | some v =>
  cases ev cfg tm c with
  | none=>rfl
  | some w =>
   simp only
   unfold zb
   cases cfg.ty t with
   | none=>rfl
   | some a =>
    simp only [Option.bind_eq_bind,Option.bind_some]
    cases a.und <;> try rfl
    rename_i e
    simp only
    cases cfg.ty e with
    | none=>rfl
    | some b =>
     simp only [Option.bind_some]
     cases asInt v with
     | none=>rfl
     | some n =>
      cases asInt w with
      | none=>rfl
      | some m =>
       simp only [Option.bind_some]
       split
       ·simp [S.get_add]
       ·rfl
end
end Go.Proofs.YtchlfjhbijmdiaaGreatDoor.Ai

