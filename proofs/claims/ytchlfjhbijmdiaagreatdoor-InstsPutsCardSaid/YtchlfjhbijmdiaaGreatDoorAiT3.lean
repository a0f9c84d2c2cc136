/- Part of a reckoning of a Go program over abstract values, proved sound against the model. -/
import Derived.Test.YtchlfjhbijmdiaaGreatDoorAiT2
set_option linter.unusedSimpArgs false
set_option linter.unusedVariables false
namespace Go.Proofs.YtchlfjhbijmdiaaGreatDoor.Ai
noncomputable section
set_option maxRecDepth 100000

/-! the steps, as rules of simp that go in order -/
def yU {α β:Type} (x:Option α) (f:α→Option β):Option β:=match x with
 | some a=>f a
 | none=>none
def OptR (x:Option V) (s:S):Option R:=match x with
 | some v=>some (.val v s)
 | none=>none
def OptS (x:Option (V×S)):Option R:=match x with
 | some p=>some (.val p.1 p.2)
 | none=>none
def OptU (x:Option S):Option R:=match x with
 | some s=>some (.val yc s)
 | none=>none
@[congr] theorem OptB_congr {α β:Type} {x y:Option α} {f:α→Option β} (h:x=y):yU x f=yU y f:=by rw [h]
@[simp] theorem tT {α β:Type} (a:α) (f:α→Option β):yU (some a) f=f a:=rfl
@[simp] theorem OptB_none {α β:Type} (f:α→Option β):yU none f=none:=rfl
@[simp] theorem OptR_some (v:V) (s:S):OptR (some v) s=some (.val v s):=rfl
@[simp] theorem OptS_some (v:V) (s:S):OptS (some (v,s))=some (.val v s):=rfl
@[simp] theorem OptU_some (s:S):OptU (some s)=some (.val yc s):=rfl
theorem yJ (x:Option V) (s:S):OptR x s=x.map (.val · s):=by cases x <;> rfl
theorem tj (x:Option (V×S)):OptS x=x.map fun r=>.val r.1 r.2:=by cases x <;> rfl
theorem OptU_eq (x:Option S):OptU x=x.map (.val yc ·):=by cases x <;> rfl

section
variable {n:Nat} {r r':Option R} {K:V→S→Prop} {KP:List AP→S→Prop} {v:V} {s f:S} {A B C D:Prop} {b b':Option V} {w:Bool} {e e':AX} {id:Nat} {E E':Env} {k k':Nat}
@[congr] theorem StepK_congr (h:r=r'):yp n r K KP=yp n r' K KP:=by rw [h]
@[simp] theorem StepK_val:yp n (some (.val v s)) K KP=(n≤s.next∧K v s):=rfl
@[simp] theorem StepK_pan {ch:List AP}:yp n (some (.pan ch s)) K KP=(n≤s.next∧KP ch s):=rfl
@[congr] theorem OptK_congr {α:Type} {x y:Option α} {K:α→Prop} (h:x=y):tk x K=tk y K:=by rw [h]
@[simp] theorem OptK_some {α:Type} {a:α} {K:α→Prop}:tk (some a) K=K a:=rfl
@[congr] theorem GuardK_congr (h:b=b'):wM b w A B=wM b' w A B:=by rw [h]
@[simp] theorem GuardK_bool {c:Bool}:wM (some (.bool c)) w A B=((c=w→A)∧(c=!w→B)):=rfl
@[congr] theorem GuardU_congr (h:b=b'):uF b A B=uF b' A B:=by rw [h]
@[simp] theorem GuardU_bool {c:Bool}:uF (some (.bool c)) A B=B:=rfl
@[simp] theorem GuardU_undef:uF (some yc) A B=A:=rfl
@[congr] theorem CondK_congr (h:b=b'):CondK b A B=CondK b' A B:=by rw [h]
@[simp] theorem CondK_bool {c:Bool}:CondK (some (.bool c)) A B=((c=true→A)∧(c=false→B)):=rfl
@[congr] theorem SeqK_congr (h:e=e'):SeqK e A B=SeqK e' A B:=by rw [h]
@[simp] theorem zK:SeqK .normal A B=A:=rfl
@[simp] theorem xH:SeqK (.exit id) A B=B:=rfl
@[simp] theorem SeqK_ret:SeqK .ret A B=B:=rfl
@[simp] theorem SeqK_pan {ch:List AP}:SeqK (.pan ch) A B=B:=rfl
@[congr] theorem BlockK_congr (h:e=e'):uG e id A B=uG e' id A B:=by rw [h]
@[simp] theorem zZ:uG .normal id A B=B:=rfl
@[simp] theorem BlockK_ret:uG .ret id A B=B:=rfl
@[simp] theorem yQ {j:Nat}:uG (.exit j) id A B=if j=id then A else B:=rfl
@[simp] theorem BlockK_pan {ch:List AP}:uG (.pan ch) id A B=B:=rfl
@[congr] theorem EnvK_congr {K:Env→Prop} (h:E=E'):EnvK E K=EnvK E' K:=by rw [h]
@[simp] theorem EnvK_eq {K:Env→Prop}:EnvK E K=K E:=rfl
@[congr] theorem KindK_congr (h:k=k'):KindK k A B C D=KindK k' A B C D:=by rw [h]
@[simp] theorem KindK_3:KindK 3 A B C D=A:=rfl
@[simp] theorem KindK_2:KindK 2 A B C D=B:=rfl
@[simp] theorem KindK_1:KindK 1 A B C D=C:=rfl
@[simp] theorem KindK_0:KindK 0 A B C D=D:=rfl
@[congr] theorem KeepK_congr {fl:Bool} (h:r=r'):KeepK fl n f r K=KeepK fl n f r' K:=by rw [h]
@[simp] theorem KeepK_val {fl:Bool}:KeepK fl n f (some (.val v s)) K=(f.next≤s.next∧(fl=true∨S.lows n f s)∧K v s):=rfl
@[congr] theorem NewK_congr (h:r=r'):NewK r K=NewK r' K:=by rw [h]
@[simp] theorem NewK_val:NewK (some (.val v s)) K=K v s:=rfl
@[congr] theorem ReadK_congr {K:V→Prop} (h:r=r'):th r K=th r' K:=by rw [h]
@[simp] theorem ReadK_val {K:V→Prop}:th (some (.val v s)) K=K v:=rfl
end

section
variable {E:Env} {i j:Nat} {v:V}
@[simp] theorem eget_cons:yw ((j,v)::E) i=if i=j then some v else yw E i:=rfl
@[simp] theorem eget_nil:yw [] i=none:=rfl
@[simp] theorem eput_some {t:Nat}:vw (some t) v E=(t,v)::E:=rfl
@[simp] theorem eput_none:vw none v E=E:=rfl
def KeepE (x:Option V) (k:Nat) (E:Env):Env:=match x with
 | some v=>(k,v)::E
 | none=>E
@[simp] theorem KeepE_some {k:Nat}:KeepE (some v) k E=(k,v)::E:=rfl
@[simp] theorem KeepE_none {k:Nat}:KeepE none k E=E:=rfl
@[simp] theorem ekeep_nil:tb [] E=[]:=rfl
@[simp] theorem ekeep_cons {k:Nat} {ks:List Nat}:tb (k::ks) E=KeepE (yw E k) k (tb ks E):=by
 conv=>lhs; unfold tb
 cases yw E k <;> rfl
@[simp] theorem SubE_nil:zI [] E=True:=rfl
@[simp] theorem SubE_cons {E':Env}:zI ((i,v)::E') E=(yw E i=some v∧zI E' E):=rfl
@[simp] theorem argsE_nil:argsE i []=[]:=rfl
@[simp] theorem argsE_cons {l:List V}:argsE i (v::l)=(i,v)::argsE (i+1) l:=rfl
end

section
variable {cfg:Cfg} {cf:CF} {sl:Bool} {sp:List (FuncId×SpE)} {N:Nat} {ops:Array Oper} {l:List Oper} {E:Env} {s c0 f:S} {Q:AX→Env→S→Prop} {QD:Env→S→Prop} {base i:Nat}
variable {d:Option Tmp} {op:Op} {ty:TypeId} {p:String} {a:Array Edge} {j:Nat} {w:Bool} {ks:List Nat} {n:Nat}
@[congr] theorem RunE_congr {l':List Oper} (h:l=l'):RunE cfg cf sl sp ops l E s Q=RunE cfg cf sl sp ops l' E s Q:=by rw [h]
@[simp ↓] theorem RunE_nil:RunE cfg cf sl sp ops [] E s Q=Q .normal E s:=rfl
@[simp ↓] theorem RunE_none:RunE cfg cf sl sp ops (⟨d,op,ty,p,a,none⟩::l) E s Q=yD cfg cf sl sp ⟨d,op,ty,p,a,none⟩ (rdE cfg E) s (fun v s'=>RunE cfg cf sl sp ops l (vw d v E) s' Q) (fun ch s'=>Q (.pan ch) E s'):=rfl
@[simp ↓] theorem RunE_some:RunE cfg cf sl sp ops (⟨d,op,ty,p,a,some (j,w)⟩::l) E s Q=tk (zL ops j) fun t=>uF (yw E t) (RunE cfg cf sl sp ops l (vw d yc E) s Q) <| wM (yw E t) w
    (yD cfg cf sl sp ⟨d,op,ty,p,a,none⟩ (rdE cfg ((t,.bool w)::E)) s (fun v s'=>RunE cfg cf sl sp ops l (vw d v ((t,.bool w)::E)) s' Q) (fun ch s'=>Q (.pan ch) E s'))
    (RunE cfg cf sl sp ops l (vw d yc ((t,.bool !w)::E)) s Q):=rfl
@[congr] theorem RunD_congr {l':List Oper} (h:l=l'):uz cfg cf sl ops base c0 l i E f QD=uz cfg cf sl ops base c0 l' i E f QD:=by rw [h]
@[simp ↓] theorem RunD_nil:uz cfg cf sl ops base c0 [] i E f QD=QD E f:=rfl
@[simp ↓] theorem RunD_none:uz cfg cf sl ops base c0 (⟨d,op,ty,p,a,none⟩::l) i E f QD=KindK (zC cfg ⟨d,op,ty,p,a,none⟩)
    (KeepK (zV cfg ops i) base f (zP cfg cf sl (base+i) ⟨d,op,ty,p,a,none⟩ (rdE cfg E) f) fun v f'=>uz cfg cf sl ops base c0 l (i+1) (vw d v E) f' QD)
    (NewK (zP cfg cf sl (base+i) ⟨d,op,ty,p,a,none⟩ (rdE cfg E) f) fun v f'=>uz cfg cf sl ops base c0 l (i+1) (vw d v E) f' QD)
    (th (zP cfg cf sl 0 ⟨d,op,ty,p,a,none⟩ (rdE cfg E) c0) fun v=>uz cfg cf sl ops base c0 l (i+1) (vw d v E) f QD)
    (th (zP cfg cf sl 0 ⟨d,op,ty,p,a,none⟩ (rdE cfg E) S.empty) fun v=>uz cfg cf sl ops base c0 l (i+1) (vw d v E) f QD):=rfl
@[simp ↓] theorem RunD_some:uz cfg cf sl ops base c0 (⟨d,op,ty,p,a,some (j,w)⟩::l) i E f QD=tk (zL ops j) fun t=>uF (yw E t) (uz cfg cf sl ops base c0 l (i+1) (vw d yc E) f QD) <| wM (yw E t) w
    (KindK (zC cfg ⟨d,op,ty,p,a,none⟩)
     (KeepK (zV cfg ops i) base f (zP cfg cf sl (base+i) ⟨d,op,ty,p,a,none⟩ (rdE cfg ((t,.bool w)::E)) f) fun v f'=>uz cfg cf sl ops base c0 l (i+1) (vw d v ((t,.bool w)::E)) f' QD)
     (NewK (zP cfg cf sl (base+i) ⟨d,op,ty,p,a,none⟩ (rdE cfg ((t,.bool w)::E)) f) fun v f'=>uz cfg cf sl ops base c0 l (i+1) (vw d v ((t,.bool w)::E)) f' QD)
     (th (zP cfg cf sl 0 ⟨d,op,ty,p,a,none⟩ (rdE cfg ((t,.bool w)::E)) c0) fun v=>uz cfg cf sl ops base c0 l (i+1) (vw d v ((t,.bool w)::E)) f QD)
     (th (zP cfg cf sl 0 ⟨d,op,ty,p,a,none⟩ (rdE cfg ((t,.bool w)::E)) S.empty) fun v=>uz cfg cf sl ops base c0 l (i+1) (vw d v ((t,.bool w)::E)) f QD))
    (uz cfg cf sl ops base c0 l (i+1) (vw d yc ((t,.bool !w)::E)) f QD):=rfl
@[simp ↓] theorem RunC_reg:yd cfg cf sl sp N (.reg n ops ks) E s Q=RunE cfg cf sl sp ops ops.toList E s fun e E' s'=>EnvK (tb ks E') fun E''=>Q e E'' s':=rfl
@[simp ↓] theorem RunC_draw:yd cfg cf sl sp N (.draw n ops ks) E s Q=(zD cfg ops=true∧yg cfg ops=true∧s.wf∧uz cfg cf sl ops s.next ⟨s.next+ops.size,s.tr⟩ ops.toList 0 E ⟨s.next+ops.size,s.tr⟩ fun E' s'=>EnvK (tb ks E') fun E''=>Q .normal E'' s'):=rfl
@[simp ↓] theorem yN {x y:AC}:yd cfg cf sl sp N (.seq x y) E s Q=yd cfg cf sl sp N x E s fun e E' s'=>SeqK e (yd cfg cf sl sp N y E' s' Q) (Q e E' s'):=rfl
@[simp ↓] theorem RunC_cond {c:Operand} {x y:AC}:yd cfg cf sl sp N (.cond c x y) E s Q=CondK (rdE cfg E c) (yd cfg cf sl sp N x E s Q) (yd cfg cf sl sp N y E s Q):=rfl
@[simp ↓] theorem RunC_block {id:Nat} {c:AC}:yd cfg cf sl sp N (.block id c) E s Q=yd cfg cf sl sp N c E s fun e E' s'=>uG e id (Q .normal E' s') (Q e E' s'):=rfl
@[simp ↓] theorem RunC_scope {c:AC}:yd cfg cf sl sp N (.scope c) E s Q=yd cfg cf sl sp N c E s Q:=rfl
@[simp ↓] theorem RunC_exit {id:Nat}:yd cfg cf sl sp N (.exit id) E s Q=Q (.exit id) E s:=rfl
@[simp ↓] theorem RunC_ret:yd cfg cf sl sp N .ret E s Q=Q .ret E s:=rfl
@[simp ↓] theorem RunC_skip:yd cfg cf sl sp N .skip E s Q=Q .normal E s:=rfl
/-- Nothing of a loop is looked at. -/
@[congr] theorem RunC_congr {c c':AC} (h:c=c'):yd cfg cf sl sp N c E s Q=yd cfg cf sl sp N c' E s Q:=by rw [h]

@[simp] theorem rdE_tmp {t:Nat}:rdE cfg E (.tmp t)=yw E t:=rfl
@[simp] theorem rdE_int {k:IntKind} {n:Int}:rdE cfg E (.const (.int k n))=some (.int k n):=rfl
@[simp] theorem rdE_bool {b:Bool}:rdE cfg E (.const (.bool b))=some (.bool b):=rfl
@[simp] theorem rdE_str {b:ByteArray}:rdE cfg E (.const (.string b))=some (.str b):=rfl
@[simp] theorem rdE_nils:rdE cfg E (.const (.slice none 0 0))=some .nils:=rfl
@[simp] theorem rdE_nilp:rdE cfg E (.const (.pointer none))=some .nilp:=rfl
@[simp] theorem rdE_nilm:rdE cfg E (.const (.map none))=some .nilm:=rfl
@[simp] theorem rdE_nilf:rdE cfg E (.const .nilFunc)=some .nilf:=rfl
@[simp] theorem rdE_nili:rdE cfg E (.const .nilIface)=some .nili:=rfl
@[simp] theorem rdE_func {f:FuncId}:rdE cfg E (.func f)=some (.func (.func f) [] []):=rfl

@[simp] theorem resE_nil:resE cfg s E []=some []:=rfl
@[simp] theorem resE_cons {t:Nat} {l:List ResultVar}:resE cfg s E (.tmp t::l)=yU (yw E t) fun v=>yU (resE cfg s E l) fun r=>some (v::r):=by
 conv=>lhs; unfold resE
 cases yw E t with
 | none=>rfl
 | some v=>cases resE cfg s E l <;> rfl
@[simp] theorem resE_cell {x:Nat} {t:TypeId} {l:List ResultVar}:resE cfg s E (.cell x t::l)=yU (yw E x) fun p=>yU (cfg.ty t) fun i=>yU (resE cfg s E l) fun r=>yU (zt s i.size (zS i.und) p) fun v=>some (v::r):=by
 conv=>lhs; unfold resE
 cases yw E x with
 | none=>rfl
 | some v=>cases cfg.ty t with
  | none=>rfl
  | some i=>cases resE cfg s E l with
   | none=>rfl
   | some r=>simp only [tT]; cases zt s i.size (zS i.und) v <;> rfl
section
variable {rs:List ResultVar} {K:V→S→Prop} {KP:List AP→S→Prop}
@[simp ↓] theorem FinK_ret:FinK cfg rs K KP .ret E s=tk (resE cfg s E rs) fun vs=>K (tupV vs) s:=rfl
@[simp ↓] theorem FinK_normal:FinK cfg rs K KP .normal E s=tk (resE cfg s E rs) fun vs=>K (tupV vs) s:=rfl
@[simp ↓] theorem FinK_pan {ch:List AP}:FinK cfg rs K KP (.pan ch) E s=KP ch s:=rfl
end
@[simp] theorem tupV_1 {v:V}:tupV [v]=v:=rfl
@[simp] theorem tupV_2 {v w:V}:tupV [v,w]=.tup [v,w]:=rfl
@[simp] theorem tupV_3 {v w x:V}:tupV [v,w,x]=.tup [v,w,x]:=rfl
@[simp] theorem tupV_4 {v w x y:V}:tupV [v,w,x,y]=.tup [v,w,x,y]:=rfl

/-! operations -/
variable {nw:Nat} {rd:Operand→Option V} {g:Option (Nat×Bool)}
@[simp] theorem evLR_nil:evLR rd []=some []:=rfl
@[simp] theorem evLR_cons {x:Operand} {l:List Operand}:evLR rd (x::l)=yU (rd x) fun v=>yU (evLR rd l) fun r=>some (v::r):=by
 conv=>lhs; unfold evLR
 cases rd x with
 | none=>rfl
 | some v=>cases evLR rd l <;> rfl
@[simp] theorem evPartsR_nil:yx rd []=some []:=rfl
@[simp] theorem evPartsR_cons {i:Nat} {x:Operand} {l:List (Nat×Operand)}:yx rd ((i,x)::l)=yU (rd x) fun v=>yU (yx rd l) fun r=>some ((i,v)::r):=by
 conv=>lhs; unfold yx
 cases rd x with
 | none=>rfl
 | some v=>cases yx rd l <;> rfl
@[simp] theorem evOR_none:evOR rd none=some none:=rfl
@[simp] theorem evOR_some {x:Operand}:evOR rd (some x)=yU (rd x) fun v=>some (some v):=by
 cases h:rd x <;> simp [evOR,yU,h]
def PickB (c:Option V) (x y:Option V) (s:S):Option R:=match c with
 | some (.bool t)=>OptR (if t then x else y) s
 | _=>none
@[simp] theorem PickB_bool {b:Bool} {x y:Option V}:PickB (some (.bool b)) x y s=OptR (if b then x else y) s:=rfl
@[simp ↓] theorem doR_move {x:Operand}:zP cfg cf sl nw ⟨d,.move x,ty,p,a,g⟩ rd s=OptR (rd x) s:=(yJ _ _).symm
@[simp ↓] theorem doR_assign {x:Operand}:zP cfg cf sl nw ⟨d,.assign x,ty,p,a,g⟩ rd s=OptR (rd x) s:=(yJ _ _).symm
@[simp ↓] theorem doR_pick {c x y:Operand}:zP cfg cf sl nw ⟨d,.pick c x y,ty,p,a,g⟩ rd s=PickB (rd c) (rd x) (rd y) s:=by
 show opPickR cfg _ _ _ _ _=_
 unfold opPickR PickB
 cases rd c with
 | none=>rfl
 | some v =>
  cases v <;> try rfl
  rename_i b; cases b <;> exact (yJ _ _).symm
@[simp ↓] theorem doR_alloc {t:TypeId}:zP cfg cf sl nw ⟨d,.alloc t,ty,p,a,g⟩ rd s=yU (cfg.ty t) fun a=>some (.val (.ptr nw 0) (s.add nw (.cells a.zero.cells 0 t true))):=by
 show opAllocR cfg _ _ _=_; unfold opAllocR; cases cfg.ty t <;> rfl
@[simp ↓] theorem doR_box {t:TypeId} {x:Operand}:zP cfg cf sl nw ⟨d,.box t x,ty,p,a,g⟩ rd s=yU (rd x) fun v=>if v.cells.all V.one then some (.val (.ptr nw 0) (s.add nw (.cells v.cells 0 t true))) else none:=by
 show opBoxR cfg _ _ _ _ _=_; unfold opBoxR; cases rd x <;> rfl
@[simp ↓] theorem doR_build {t:TypeId} {ps:Array (Nat×Operand)}:zP cfg cf sl nw ⟨d,.build t ps,ty,p,a,g⟩ rd s=yU (yx rd ps.toList) fun ps=>OptR (xh cfg t ps) s:=by
 show tw cfg _ _ _ _=_; unfold tw
 cases yx rd ps.toList with
 | none=>rfl
 | some v=>exact (yJ _ _).symm
@[simp ↓] theorem doR_buildSlice {t:TypeId} {n:Nat} {ps:Array (Nat×Operand)}:zP cfg cf sl nw ⟨d,.buildSlice t n ps,ty,p,a,g⟩ rd s=yU (yx rd ps.toList) fun ps=>OptS (za cfg nw s t n ps):=by
 show xk cfg _ _ _ _ _ _=_; unfold xk
 cases yx rd ps.toList with
 | none=>rfl
 | some v=>exact (tj _).symm
@[simp ↓] theorem doR_load {t:TypeId} {x:Operand}:zP cfg cf sl nw ⟨d,.load t x,ty,p,a,g⟩ rd s=yU (cfg.ty t) fun a=>yU (rd x) fun v=>OptR (zt s a.size (zS a.und) v) s:=by
 show opLoadR cfg _ _ _ _=_; unfold opLoadR
 cases cfg.ty t with
 | none=>rfl
 | some _=>cases rd x with
  | none=>rfl
  | some v=>exact (yJ _ _).symm
@[simp ↓] theorem doR_store {t:TypeId} {x y:Operand}:zP cfg cf sl nw ⟨d,.store t x y,ty,p,a,g⟩ rd s=yU (cfg.ty t) fun a=>yU (rd x) fun q=>yU (rd y) fun v=>OptU (zr s a.size q v):=by
 show opStoreR cfg _ _ _ _ _=_; unfold opStoreR
 cases cfg.ty t with
 | none=>rfl
 | some _=>cases rd x with
  | none=>rfl
  | some v=>cases rd y with
   | none=>rfl
   | some v=>exact (OptU_eq _).symm
@[simp ↓] theorem doR_bin {op:BinOp} {t u:TypeId} {x y:Operand}:zP cfg cf sl nw ⟨d,.binOp op t x y u,ty,p,a,g⟩ rd s=yU (rd x) fun v=>yU (rd y) fun w=>OptR (wN cfg op t v w) s:=by
 show opBinR cfg _ _ _ _ _ _=_; unfold opBinR
 cases rd x with
 | none=>rfl
 | some v=>cases rd y with
  | none=>rfl
  | some v=>exact (yJ _ _).symm
@[simp ↓] theorem doR_un {op:UnOp} {t:TypeId} {x:Operand}:zP cfg cf sl nw ⟨d,.unOp op t x,ty,p,a,g⟩ rd s=yU (rd x) fun v=>OptR (aUn op v) s:=by
 show opUnR cfg _ _ _ _=_; unfold opUnR
 cases rd x with
 | none=>rfl
 | some v=>exact (yJ _ _).symm
@[simp ↓] theorem doR_convert {t u:TypeId} {x:Operand}:zP cfg cf sl nw ⟨d,.convert t u x,ty,p,a,g⟩ rd s=yU (rd x) fun v=>OptS (yo cfg nw s t u v):=by
 show ui cfg _ _ _ _ _ _=_; unfold ui
 cases rd x with
 | none=>rfl
 | some v=>exact (tj _).symm
@[simp ↓] theorem doR_makeFunc {f:Fn} {x y:Array Operand}:zP cfg cf sl nw ⟨d,.makeFunc f x y,ty,p,a,g⟩ rd s=yU (evLR rd x.toList) fun v=>yU (evLR rd y.toList) fun w=>some (.val (.func f v w) s):=by
 show xS cfg _ _ _ _ _=_; unfold xS; cases evLR rd x.toList <;> cases evLR rd y.toList <;> rfl
@[simp ↓] theorem doR_makeMap {t:TypeId}:zP cfg cf sl nw ⟨d,.makeMap t none,ty,p,a,g⟩ rd s=some (.val (.map nw) (s.add nw (.map [] 0))):=rfl
@[simp ↓] theorem doR_makeSlice {t:TypeId} {l c:Operand}:zP cfg cf sl nw ⟨d,.makeSlice t l c,ty,p,a,g⟩ rd s=yU (rd l) fun v=>yU (rd c) fun w=>OptS (zb cfg nw s t v w):=by
 show wj cfg _ _ _ _ _ _=_; unfold wj
 cases rd l with
 | none=>rfl
 | some v=>cases rd c with
  | none=>rfl
  | some v=>exact (tj _).symm
@[simp ↓] theorem doR_slice {t:TypeId} {x:Operand} {lo hi mx:Option Operand}:zP cfg cf sl nw ⟨d,.slice t x lo hi mx,ty,p,a,g⟩ rd s=yU (cfg.ty t) fun a=>yU (rd x) fun v=>yU (evOR rd lo) fun l=>yU (evOR rd hi) fun h=>yU (evOR rd mx) fun m=>OptR (zs cfg a.und v l h m) s:=by
 show tu cfg _ _ _ _ _ _ _=_; unfold tu
 cases cfg.ty t with
 | none=>rfl
 | some _=>cases rd x with
  | none=>rfl
  | some v=>cases evOR rd lo with
   | none=>rfl
   | some v=>cases evOR rd hi with
    | none=>rfl
    | some v=>cases evOR rd mx with
     | none=>rfl
     | some v=>exact (yJ _ _).symm
@[simp ↓] theorem doR_fieldAddr {t:TypeId} {x:Operand} {f:Nat}:zP cfg cf sl nw ⟨d,.fieldAddr t x f,ty,p,a,g⟩ rd s=yU (rd x) fun v=>OptR (ze cfg t v f) s:=by
 show vK cfg _ _ _ _ _=_; unfold vK
 cases rd x with
 | none=>rfl
 | some v=>exact (yJ _ _).symm
@[simp ↓] theorem doR_field {t:TypeId} {x:Operand} {f:Nat}:zP cfg cf sl nw ⟨d,.field t x f,ty,p,a,g⟩ rd s=yU (rd x) fun v=>OptR (zq cfg t v f) s:=by
 show opFieldR cfg _ _ _ _ _=_; unfold opFieldR
 cases rd x with
 | none=>rfl
 | some v=>exact (yJ _ _).symm
@[simp ↓] theorem doR_indexAddr {t:TypeId} {x i:Operand}:zP cfg cf sl nw ⟨d,.indexAddr t x i,ty,p,a,g⟩ rd s=yU (rd x) fun v=>yU (rd i) fun w=>OptR (zd cfg t v w) s:=by
 show wk cfg _ _ _ _ _=_; unfold wk
 cases rd x with
 | none=>rfl
 | some v=>cases rd i with
  | none=>rfl
  | some v=>exact (yJ _ _).symm
@[simp ↓] theorem doR_index {t:TypeId} {x i:Operand}:zP cfg cf sl nw ⟨d,.index t x i,ty,p,a,g⟩ rd s=yU (rd x) fun v=>yU (rd i) fun w=>OptR (zp cfg t v w) s:=by
 show opIndexR cfg _ _ _ _ _=_; unfold opIndexR
 cases rd x with
 | none=>rfl
 | some v=>cases rd i with
  | none=>rfl
  | some v=>exact (yJ _ _).symm
@[simp ↓] theorem doR_lookup {t:TypeId} {m k:Operand} {ok:Bool}:zP cfg cf sl nw ⟨d,.lookup t m k ok,ty,p,a,g⟩ rd s=yU (rd m) fun v=>yU (rd k) fun w=>OptR (yI cfg s t v w ok) s:=by
 show tv cfg _ _ _ _ _ _=_; unfold tv
 cases rd m with
 | none=>rfl
 | some v=>cases rd k with
  | none=>rfl
  | some v=>exact (yJ _ _).symm
@[simp ↓] theorem doR_mapUpdate {t:TypeId} {m k x:Operand}:zP cfg cf sl nw ⟨d,.mapUpdate t m k x,ty,p,a,g⟩ rd s=yU (rd m) fun v=>yU (rd k) fun w=>yU (rd x) fun u=>OptU (yj cfg s t v w u):=by
 show xe cfg _ _ _ _ _ _=_; unfold xe
 cases rd m with
 | none=>rfl
 | some v=>cases rd k with
  | none=>rfl
  | some v=>cases rd x with
   | none=>rfl
   | some v=>exact (OptU_eq _).symm
@[simp ↓] theorem doR_insert {t:TypeId} {m k x:Operand}:zP cfg cf sl nw ⟨d,.insert t m k x,ty,p,a,g⟩ rd s=yU (rd m) fun v=>yU (rd k) fun w=>yU (rd x) fun u=>OptU (yj cfg s t v w u):=doR_mapUpdate (d:=d) (ty:=ty) (p:=p) (a:=a) (g:=g) (cf:=cf) (sl:=sl) (nw:=nw)
def ExtB (x:Option V) (i:Nat) (s:S):Option R:=match x with
 | some (.tup vs)=>OptR vs[i]? s
 | _=>none
@[simp] theorem ExtB_tup {vs:List V} {i:Nat}:ExtB (some (.tup vs)) i s=OptR vs[i]? s:=rfl
@[simp ↓] theorem doR_extract {x:Operand} {i:Nat}:zP cfg cf sl nw ⟨d,.extract x i,ty,p,a,g⟩ rd s=ExtB (rd x) i s:=by
 show uh cfg _ _ _ _=_; unfold uh ExtB
 cases rd x with
 | none=>rfl
 | some v=>cases v <;> first | rfl | exact (yJ _ _).symm
def NilB (x:Option V) (s:S):Option R:=match x with
 | some (.ptr i o)=>some (.val (.ptr i o) s)
 | some (.cptr c o)=>some (.val (.cptr c o) s)
 | some (.func (.func g) a b)=>some (.val (.func (.func g) a b) s)
 | some (.yield id)=>some (.val (.yield id) s)
 | _=>none
@[simp] theorem NilB_ptr {i o:Nat}:NilB (some (.ptr i o)) s=some (.val (.ptr i o) s):=rfl
@[simp] theorem NilB_cptr {c:List V} {o:Nat}:NilB (some (.cptr c o)) s=some (.val (.cptr c o) s):=rfl
@[simp] theorem NilB_func {f:FuncId} {x y:List V}:NilB (some (.func (.func f) x y)) s=some (.val (.func (.func f) x y) s):=rfl
@[simp ↓] theorem doR_nilCheck {x:Operand}:zP cfg cf sl nw ⟨d,.nilCheck x,ty,p,a,g⟩ rd s=NilB (rd x) s:=rfl
def MkI (a:ATy) (t:TypeId) (v:V) (s:S):Option R:=match a.und with
 | .interface _=>none
 | _=>some (.val (.iface t v) s)
@[simp ↓] theorem doR_makeInterface {t:TypeId} {x:Operand}:zP cfg cf sl nw ⟨d,.makeInterface t x,ty,p,a,g⟩ rd s=yU (cfg.ty t) fun a=>yU (rd x) fun v=>MkI a t v s:=by
 show xc cfg _ _ _ _=_; unfold xc
 cases cfg.ty t with
 | none=>rfl
 | some _=>cases rd x <;> rfl
def PanB (x:Option V) (s:S):Option R:=match x with
 | some (.iface t v)=>some (.pan [⟨.iface t v,false⟩] s)
 | _=>none
@[simp] theorem PanB_iface {t:TypeId} {v:V}:PanB (some (.iface t v)) s=some (.pan [⟨.iface t v,false⟩] s):=rfl
@[simp ↓] theorem doR_panic {x:Operand}:zP cfg cf sl nw ⟨d,.panic x,ty,p,a,g⟩ rd s=PanB (rd x) s:=rfl
@[simp ↓] theorem doR_range {t:TypeId} {x:Operand}:zP cfg cf sl nw ⟨d,.range t x,ty,p,a,g⟩ rd s=yU (rd x) fun v=>OptS (aRange cfg nw s t v):=by
 show opRangeR cfg _ _ _ _ _=_; unfold opRangeR
 cases rd x with
 | none=>rfl
 | some v=>exact (tj _).symm
@[simp ↓] theorem doR_next {x:Operand} {b:Bool}:zP cfg cf sl nw ⟨d,.next x b,ty,p,a,g⟩ rd s=yU (rd x) fun v=>OptS (aNext s v b):=by
 show opNextR cfg _ _ _ _=_; unfold opNextR
 cases rd x with
 | none=>rfl
 | some v=>exact (tj _).symm
@[simp ↓] theorem doR_len {x:Operand} {t:TypeId}:zP cfg cf sl nw ⟨d,.call ⟨.builtin .len,#[x],#[t]⟩,ty,p,a,g⟩ rd s=yU (rd x) fun v=>yU (cfg.ty t) fun a=>OptR (zy s a.und v) s:=by
 show xI cfg cf sl nw _ rd s=_
 unfold xI
 cases hx:rd x with
 | none=>simp [evLR,hx,yU]
 | some v=>cases ht:cfg.ty t <;> simp [evLR,hx,ht,ye,yU,yJ]
@[simp ↓] theorem doR_append {x y:Operand} {t u:TypeId}:zP cfg cf sl nw ⟨d,.call ⟨.builtin .append,#[x,y],#[t,u]⟩,ty,p,a,g⟩ rd s=yU (rd x) fun v=>yU (rd y) fun w=>OptS (zj cfg sl nw s t u v w):=by
 show xI cfg cf sl nw _ rd s=_
 unfold xI
 cases hx:rd x with
 | none=>simp [evLR,hx,yU]
 | some v=>cases hy:rd y <;> simp [evLR,hx,hy,ye,yU,tj]
/-- A call: of a function with a body. -/
def CallB (cfg:Cfg) (cf:CF) (nw:Nat) (args:List V) (f:Option V) (s:S):Option R:=match f with
 | some (.func (.func g) first cap)=>yU (cfg.fn g) fun fn=>if fn.body.isNone then OptR (extOp cfg g (first++args++cap)) s else xq cfg cf nw g (first++args++cap) s
 | some (.yield id)=>(match cf.rd id args s with
  | some (.ret v,s')=>some (.val v s')
  | _=>none)
 | _=>none
@[simp] theorem CallB_func {args first cap:List V} {f:FuncId}:CallB cfg cf nw args (some (.func (.func f) first cap)) s=yU (cfg.fn f) fun fn=>if fn.body.isNone then OptR (extOp cfg f (first++args++cap)) s else xq cfg cf nw f (first++args++cap) s:=rfl
@[simp ↓] theorem doR_call {f:Operand} {xs:Array Operand} {ts:Array TypeId}:zP cfg cf sl nw ⟨d,.call ⟨.value f,xs,ts⟩,ty,p,a,g⟩ rd s=yU (evLR rd xs.toList) fun args=>CallB cfg cf nw args (rd f) s:=by
 show xI cfg cf sl nw _ rd s=_
 unfold xI
 cases evLR rd xs.toList with
 | none=>rfl
 | some args =>
  unfold CallB
  simp only [tT]
  cases rd f with
  | none=>rfl
  | some v =>
   cases v <;> try rfl
   rename_i fn first cap
   cases fn <;> try rfl
   rename_i g
   simp only
   cases cfg.fn g with
   | none=>rfl
   | some fn=>simp only [tT,yJ]
section
variable {K:V→S→Prop} {KP:List AP→S→Prop}
@[simp ↓] theorem so_move {x:Operand}:yD cfg cf sl sp ⟨d,.move x,ty,p,a,g⟩ rd s K KP=yp s.next (zP cfg cf sl s.next ⟨d,.move x,ty,p,a,g⟩ rd s) K KP:=rfl
@[simp ↓] theorem so_assign {x:Operand}:yD cfg cf sl sp ⟨d,.assign x,ty,p,a,g⟩ rd s K KP=yp s.next (zP cfg cf sl s.next ⟨d,.assign x,ty,p,a,g⟩ rd s) K KP:=rfl
@[simp ↓] theorem so_pick {c x y:Operand}:yD cfg cf sl sp ⟨d,.pick c x y,ty,p,a,g⟩ rd s K KP=yp s.next (zP cfg cf sl s.next ⟨d,.pick c x y,ty,p,a,g⟩ rd s) K KP:=rfl
@[simp ↓] theorem so_alloc {t:TypeId}:yD cfg cf sl sp ⟨d,.alloc t,ty,p,a,g⟩ rd s K KP=yp s.next (zP cfg cf sl s.next ⟨d,.alloc t,ty,p,a,g⟩ rd s) K KP:=rfl
@[simp ↓] theorem so_box {t:TypeId} {x:Operand}:yD cfg cf sl sp ⟨d,.box t x,ty,p,a,g⟩ rd s K KP=yp s.next (zP cfg cf sl s.next ⟨d,.box t x,ty,p,a,g⟩ rd s) K KP:=rfl
@[simp ↓] theorem so_build {t:TypeId} {ps:Array (Nat×Operand)}:yD cfg cf sl sp ⟨d,.build t ps,ty,p,a,g⟩ rd s K KP=yp s.next (zP cfg cf sl s.next ⟨d,.build t ps,ty,p,a,g⟩ rd s) K KP:=rfl
@[simp ↓] theorem so_buildSlice {t:TypeId} {n:Nat} {ps:Array (Nat×Operand)}:yD cfg cf sl sp ⟨d,.buildSlice t n ps,ty,p,a,g⟩ rd s K KP=yp s.next (zP cfg cf sl s.next ⟨d,.buildSlice t n ps,ty,p,a,g⟩ rd s) K KP:=rfl
@[simp ↓] theorem so_load {t:TypeId} {x:Operand}:yD cfg cf sl sp ⟨d,.load t x,ty,p,a,g⟩ rd s K KP=yp s.next (zP cfg cf sl s.next ⟨d,.load t x,ty,p,a,g⟩ rd s) K KP:=rfl
@[simp ↓] theorem so_store {t:TypeId} {x y:Operand}:yD cfg cf sl sp ⟨d,.store t x y,ty,p,a,g⟩ rd s K KP=yp s.next (zP cfg cf sl s.next ⟨d,.store t x y,ty,p,a,g⟩ rd s) K KP:=rfl
@[simp ↓] theorem so_un {o:UnOp} {t:TypeId} {x:Operand}:yD cfg cf sl sp ⟨d,.unOp o t x,ty,p,a,g⟩ rd s K KP=yp s.next (zP cfg cf sl s.next ⟨d,.unOp o t x,ty,p,a,g⟩ rd s) K KP:=rfl
@[simp ↓] theorem so_convert {t u:TypeId} {x:Operand}:yD cfg cf sl sp ⟨d,.convert t u x,ty,p,a,g⟩ rd s K KP=yp s.next (zP cfg cf sl s.next ⟨d,.convert t u x,ty,p,a,g⟩ rd s) K KP:=rfl
@[simp ↓] theorem so_makeFunc {f:Fn} {x y:Array Operand}:yD cfg cf sl sp ⟨d,.makeFunc f x y,ty,p,a,g⟩ rd s K KP=yp s.next (zP cfg cf sl s.next ⟨d,.makeFunc f x y,ty,p,a,g⟩ rd s) K KP:=rfl
@[simp ↓] theorem so_makeMap {t:TypeId} {r:Option Operand}:yD cfg cf sl sp ⟨d,.makeMap t r,ty,p,a,g⟩ rd s K KP=yp s.next (zP cfg cf sl s.next ⟨d,.makeMap t r,ty,p,a,g⟩ rd s) K KP:=rfl
@[simp ↓] theorem so_makeSlice {t:TypeId} {l c:Operand}:yD cfg cf sl sp ⟨d,.makeSlice t l c,ty,p,a,g⟩ rd s K KP=yp s.next (zP cfg cf sl s.next ⟨d,.makeSlice t l c,ty,p,a,g⟩ rd s) K KP:=rfl
@[simp ↓] theorem so_slice {t:TypeId} {x:Operand} {lo hi mx:Option Operand}:yD cfg cf sl sp ⟨d,.slice t x lo hi mx,ty,p,a,g⟩ rd s K KP=yp s.next (zP cfg cf sl s.next ⟨d,.slice t x lo hi mx,ty,p,a,g⟩ rd s) K KP:=rfl
@[simp ↓] theorem so_fieldAddr {t:TypeId} {x:Operand} {f:Nat}:yD cfg cf sl sp ⟨d,.fieldAddr t x f,ty,p,a,g⟩ rd s K KP=yp s.next (zP cfg cf sl s.next ⟨d,.fieldAddr t x f,ty,p,a,g⟩ rd s) K KP:=rfl
@[simp ↓] theorem so_field {t:TypeId} {x:Operand} {f:Nat}:yD cfg cf sl sp ⟨d,.field t x f,ty,p,a,g⟩ rd s K KP=yp s.next (zP cfg cf sl s.next ⟨d,.field t x f,ty,p,a,g⟩ rd s) K KP:=rfl
@[simp ↓] theorem so_indexAddr {t:TypeId} {x i:Operand}:yD cfg cf sl sp ⟨d,.indexAddr t x i,ty,p,a,g⟩ rd s K KP=yp s.next (zP cfg cf sl s.next ⟨d,.indexAddr t x i,ty,p,a,g⟩ rd s) K KP:=rfl
@[simp ↓] theorem so_index {t:TypeId} {x i:Operand}:yD cfg cf sl sp ⟨d,.index t x i,ty,p,a,g⟩ rd s K KP=yp s.next (zP cfg cf sl s.next ⟨d,.index t x i,ty,p,a,g⟩ rd s) K KP:=rfl
@[simp ↓] theorem so_lookup {t:TypeId} {m k:Operand} {ok:Bool}:yD cfg cf sl sp ⟨d,.lookup t m k ok,ty,p,a,g⟩ rd s K KP=yp s.next (zP cfg cf sl s.next ⟨d,.lookup t m k ok,ty,p,a,g⟩ rd s) K KP:=rfl
@[simp ↓] theorem so_mapUpdate {t:TypeId} {m k x:Operand}:yD cfg cf sl sp ⟨d,.mapUpdate t m k x,ty,p,a,g⟩ rd s K KP=yp s.next (zP cfg cf sl s.next ⟨d,.mapUpdate t m k x,ty,p,a,g⟩ rd s) K KP:=rfl
@[simp ↓] theorem so_insert {t:TypeId} {m k x:Operand}:yD cfg cf sl sp ⟨d,.insert t m k x,ty,p,a,g⟩ rd s K KP=yp s.next (zP cfg cf sl s.next ⟨d,.insert t m k x,ty,p,a,g⟩ rd s) K KP:=rfl
@[simp ↓] theorem so_extract {x:Operand} {i:Nat}:yD cfg cf sl sp ⟨d,.extract x i,ty,p,a,g⟩ rd s K KP=yp s.next (zP cfg cf sl s.next ⟨d,.extract x i,ty,p,a,g⟩ rd s) K KP:=rfl
@[simp ↓] theorem so_nilCheck {x:Operand}:yD cfg cf sl sp ⟨d,.nilCheck x,ty,p,a,g⟩ rd s K KP=yp s.next (zP cfg cf sl s.next ⟨d,.nilCheck x,ty,p,a,g⟩ rd s) K KP:=rfl
@[simp ↓] theorem so_makeInterface {t:TypeId} {x:Operand}:yD cfg cf sl sp ⟨d,.makeInterface t x,ty,p,a,g⟩ rd s K KP=yp s.next (zP cfg cf sl s.next ⟨d,.makeInterface t x,ty,p,a,g⟩ rd s) K KP:=rfl
@[simp ↓] theorem so_panic {x:Operand}:yD cfg cf sl sp ⟨d,.panic x,ty,p,a,g⟩ rd s K KP=yp s.next (zP cfg cf sl s.next ⟨d,.panic x,ty,p,a,g⟩ rd s) K KP:=rfl
@[simp ↓] theorem so_range {t:TypeId} {x:Operand}:yD cfg cf sl sp ⟨d,.range t x,ty,p,a,g⟩ rd s K KP=yp s.next (zP cfg cf sl s.next ⟨d,.range t x,ty,p,a,g⟩ rd s) K KP:=rfl
@[simp ↓] theorem so_next {x:Operand} {b:Bool}:yD cfg cf sl sp ⟨d,.next x b,ty,p,a,g⟩ rd s K KP=yp s.next (zP cfg cf sl s.next ⟨d,.next x b,ty,p,a,g⟩ rd s) K KP:=rfl
@[simp ↓] theorem so_entry {x:Operand}:yD cfg cf sl sp ⟨d,.entry x,ty,p,a,g⟩ rd s K KP=yp s.next (zP cfg cf sl s.next ⟨d,.entry x,ty,p,a,g⟩ rd s) K KP:=rfl
@[simp ↓] theorem so_typeAssert {x:Operand} {t u:TypeId} {ok:Bool}:yD cfg cf sl sp ⟨d,.typeAssert x t u ok,ty,p,a,g⟩ rd s K KP=yp s.next (zP cfg cf sl s.next ⟨d,.typeAssert x t u ok,ty,p,a,g⟩ rd s) K KP:=rfl
@[simp ↓] theorem so_builtin {b:Builtin} {xs:Array Operand} {ts:Array TypeId}:yD cfg cf sl sp ⟨d,.call ⟨.builtin b,xs,ts⟩,ty,p,a,g⟩ rd s K KP=yp s.next (zP cfg cf sl s.next ⟨d,.call ⟨.builtin b,xs,ts⟩,ty,p,a,g⟩ rd s) K KP:=rfl
@[simp ↓] theorem so_invoke {r:Operand} {m:String} {xs:Array Operand} {ts:Array TypeId}:yD cfg cf sl sp ⟨d,.call ⟨.invoke r m,xs,ts⟩,ty,p,a,g⟩ rd s K KP=yp s.next (zP cfg cf sl s.next ⟨d,.call ⟨.invoke r m,xs,ts⟩,ty,p,a,g⟩ rd s) K KP:=rfl
@[simp ↓] theorem so_bin {op:BinOp} {t u:TypeId} {x y:Operand}:yD cfg cf sl sp ⟨d,.binOp op t x y u,ty,p,a,g⟩ rd s K KP=tk (rd x) fun v=>tk (rd y) fun w=>BinK cfg op t v w s K KP:=rfl
@[simp ↓] theorem so_call {f:Operand} {xs:Array Operand} {ts:Array TypeId}:yD cfg cf sl sp ⟨d,.call ⟨.value f,xs,ts⟩,ty,p,a,g⟩ rd s K KP=tk (evLR rd xs.toList) fun args=>CallK cfg cf sp args (rd f) s K KP:=rfl
def IteK (b:Bool) (A B:Prop):Prop:=bif b then A else B
@[congr] theorem IteK_congr {b b':Bool} {A B:Prop} (h:b=b'):IteK b A B=IteK b' A B:=by rw [h]
@[simp] theorem IteK_true {A B:Prop}:IteK true A B=A:=rfl
@[simp] theorem IteK_false {A B:Prop}:IteK false A B=B:=rfl
@[simp ↓] theorem BinK_eq {op:BinOp} {t:TypeId} {v w:V}:BinK cfg op t v w s K KP=IteK (isLN v && isLN w) (NilK cfg op t v w s K) (yp s.next (OptR (wN cfg op t v w) s) K KP):=by
 rw [yJ]; rfl
@[simp ↓] theorem NilK_ln {op:BinOp} {t:TypeId} {es:List V}:NilK cfg op t (.list es) .nils s K=((op=.eql∨op=.neq)∧tk (cfg.ty t) fun a=>(∃e,a.und=.slice e)∧(es.isEmpty=false→K (.bool (op == .neq)) s)∧(es.isEmpty=true→∀b,K (.bool b) s)):=rfl
@[simp ↓] theorem NilK_nl {op:BinOp} {t:TypeId} {es:List V}:NilK cfg op t .nils (.list es) s K=((op=.eql∨op=.neq)∧tk (cfg.ty t) fun a=>(∃e,a.und=.slice e)∧(es.isEmpty=false→K (.bool (op == .neq)) s)∧(es.isEmpty=true→∀b,K (.bool b) s)):=rfl
@[simp ↓] theorem NilK_nn {op:BinOp} {t:TypeId}:NilK cfg op t .nils .nils s K=((op=.eql∨op=.neq)∧tk (cfg.ty t) fun a=>(∃e,a.und=.slice e)∧K (.bool (op == .eql)) s):=rfl
@[congr] theorem CallK_congr {args:List V} {f f':Option V} (h:f=f'):CallK cfg cf sp args f s K KP=CallK cfg cf sp args f' s K KP:=by rw [h]
@[simp ↓] theorem CallK_func {args first cap:List V} {g:FuncId}:CallK cfg cf sp args (some (.func (.func g) first cap)) s K KP=IteK (Nat.beq (cfg.pure g) 7) (spAt sp g (first++args++cap) s K KP) (tk (cfg.fn g) fun fn =>
   IteK fn.body.isNone (yp s.next (OptR (extOp cfg g (first++args++cap)) s) K KP) (yp s.next (xq cfg cf s.next g (first++args++cap) s) K KP)):=by
 simp only [yJ]; rfl
@[simp ↓] theorem spAt_nil {f:FuncId} {args:List V}:spAt [] f args s K KP=False:=rfl
@[simp ↓] theorem spAt_cons {h:FuncId} {e:SpE} {r:List (FuncId×SpE)} {f:FuncId} {args:List V}:spAt ((h,e)::r) f args s K KP=if h=f then e.D args s∧(∀v s',e.R args s v s'→K v s')∧(∀ch s',e.RP args s ch s'→KP ch s') else spAt r f args s K KP:=rfl
@[simp] theorem assoc_nil' {f:Nat}:te [] f=0:=rfl
@[simp] theorem assoc_cons' {x y f:Nat} {l:List (Nat×Nat)}:te ((x,y)::l) f=if x=f then y else te l f:=by
 show (if (x == f)=true then y else te l f)=_
 simp
end
@[simp] theorem isLN_list {l:List V}:isLN (.list l)=true:=rfl
@[simp] theorem isLN_nils:isLN .nils=true:=rfl
@[simp] theorem isLN_int {k:IntKind} {n:Int}:isLN (.int k n)=false:=rfl
@[simp] theorem isLN_bool {b:Bool}:isLN (.bool b)=false:=rfl
@[simp] theorem isLN_str {b:ByteArray}:isLN (.str b)=false:=rfl
@[simp] theorem isLN_ptr {i o:Nat}:isLN (.ptr i o)=false:=rfl
@[simp] theorem isLN_cptr {c:List V} {o:Nat}:isLN (.cptr c o)=false:=rfl
@[simp] theorem isLN_nilp:isLN .nilp=false:=rfl
@[simp] theorem isLN_arr {a b c d:Nat} {e:Bool} {f:Nat}:isLN (.arr a b c d e f)=false:=rfl
@[simp] theorem isLN_func {f:Fn} {a b:List V}:isLN (.func f a b)=false:=rfl
@[simp] theorem isLN_nilf:isLN .nilf=false:=rfl
@[simp] theorem isLN_iface {t:TypeId} {v:V}:isLN (.iface t v)=false:=rfl
@[simp] theorem isLN_nili:isLN .nili=false:=rfl
@[simp] theorem isLN_agg {l:List V}:isLN (.agg l)=false:=rfl
@[simp] theorem isLN_map {i:Nat}:isLN (.map i)=false:=rfl
@[simp] theorem isLN_nilm:isLN .nilm=false:=rfl
@[simp] theorem eql_eql:(BinOp.eql == BinOp.eql)=true:=rfl
@[simp] theorem eql_neq:(BinOp.eql == BinOp.neq)=false:=rfl
@[simp] theorem neq_eql:(BinOp.neq == BinOp.eql)=false:=rfl
@[simp] theorem neq_neq:(BinOp.neq == BinOp.neq)=true:=rfl
@[simp] theorem callAt_eq {f:FuncId} {args:List V}:xq cfg cf nw f args s=if cfg.pure f=8 then yU (cfg.ftab f args) fun v=>OptS (zA cfg nw f v s) else zF cfg cf f args s:=by
 unfold xq
 split
 ·rename_i h
  rw [if_pos h]
  cases cfg.ftab f args with
  | none=>rfl
  | some v=>simp only [tT]; exact (tj _).symm
 ·rename_i h; rw [if_neg h]
theorem zH {f:FuncId} {args:List V} {v:V} (h:cfg.tab f args=some v):zF cfg cf f args s=some (.val v s):=by
 unfold zF; rw [h]
/-- Kinds. -/
@[simp] theorem kd_move {x:Operand}:zC cfg ⟨d,.move x,ty,p,a,g⟩=0:=rfl
@[simp] theorem kd_assign {x:Operand}:zC cfg ⟨d,.assign x,ty,p,a,g⟩=0:=rfl
@[simp] theorem kd_pick {x y z:Operand}:zC cfg ⟨d,.pick x y z,ty,p,a,g⟩=0:=rfl
@[simp] theorem kd_build {t:TypeId} {ps:Array (Nat×Operand)}:zC cfg ⟨d,.build t ps,ty,p,a,g⟩=0:=rfl
@[simp] theorem kd_nilCheck {x:Operand}:zC cfg ⟨d,.nilCheck x,ty,p,a,g⟩=0:=rfl
@[simp] theorem kd_bin {op:BinOp} {t u:TypeId} {x y:Operand}:zC cfg ⟨d,.binOp op t x y u,ty,p,a,g⟩=0:=rfl
@[simp] theorem kd_un {op:UnOp} {t:TypeId} {x:Operand}:zC cfg ⟨d,.unOp op t x,ty,p,a,g⟩=0:=rfl
@[simp] theorem kd_makeInterface {t:TypeId} {x:Operand}:zC cfg ⟨d,.makeInterface t x,ty,p,a,g⟩=0:=rfl
@[simp] theorem kd_makeFunc {f:Fn} {x y:Array Operand}:zC cfg ⟨d,.makeFunc f x y,ty,p,a,g⟩=0:=rfl
@[simp] theorem kd_slice {t:TypeId} {x:Operand} {lo hi mx:Option Operand}:zC cfg ⟨d,.slice t x lo hi mx,ty,p,a,g⟩=0:=rfl
@[simp] theorem kd_fieldAddr {t:TypeId} {x:Operand} {f:Nat}:zC cfg ⟨d,.fieldAddr t x f,ty,p,a,g⟩=0:=rfl
@[simp] theorem kd_field {t:TypeId} {x:Operand} {f:Nat}:zC cfg ⟨d,.field t x f,ty,p,a,g⟩=0:=rfl
@[simp] theorem kd_indexAddr {t:TypeId} {x i:Operand}:zC cfg ⟨d,.indexAddr t x i,ty,p,a,g⟩=0:=rfl
@[simp] theorem kd_index {t:TypeId} {x i:Operand}:zC cfg ⟨d,.index t x i,ty,p,a,g⟩=0:=rfl
@[simp] theorem kd_extract {x:Operand} {i:Nat}:zC cfg ⟨d,.extract x i,ty,p,a,g⟩=0:=rfl
@[simp] theorem kd_load {t:TypeId} {x:Operand}:zC cfg ⟨d,.load t x,ty,p,a,g⟩=1:=rfl
@[simp] theorem kd_lookup {t:TypeId} {m k:Operand} {ok:Bool}:zC cfg ⟨d,.lookup t m k ok,ty,p,a,g⟩=1:=rfl
@[simp] theorem kd_alloc {t:TypeId}:zC cfg ⟨d,.alloc t,ty,p,a,g⟩=2:=rfl
@[simp] theorem kd_box {t:TypeId} {x:Operand}:zC cfg ⟨d,.box t x,ty,p,a,g⟩=2:=rfl
@[simp] theorem kd_buildSlice {t:TypeId} {n:Nat} {ps:Array (Nat×Operand)}:zC cfg ⟨d,.buildSlice t n ps,ty,p,a,g⟩=2:=rfl
@[simp] theorem kd_makeMap {t:TypeId} {r:Option Operand}:zC cfg ⟨d,.makeMap t r,ty,p,a,g⟩=2:=rfl
@[simp] theorem kd_makeSlice {t:TypeId} {l c:Operand}:zC cfg ⟨d,.makeSlice t l c,ty,p,a,g⟩=2:=rfl
@[simp] theorem kd_store {t:TypeId} {x y:Operand}:zC cfg ⟨d,.store t x y,ty,p,a,g⟩=3:=rfl
@[simp] theorem kd_mapUpdate {t:TypeId} {m k x:Operand}:zC cfg ⟨d,.mapUpdate t m k x,ty,p,a,g⟩=3:=rfl
@[simp] theorem kd_insert {t:TypeId} {m k x:Operand}:zC cfg ⟨d,.insert t m k x,ty,p,a,g⟩=3:=rfl
@[simp] theorem kd_len {xs:Array Operand} {ts:Array TypeId}:zC cfg ⟨d,.call ⟨.builtin .len,xs,ts⟩,ty,p,a,g⟩=1:=rfl
@[simp] theorem kd_append {xs:Array Operand} {ts:Array TypeId}:zC cfg ⟨d,.call ⟨.builtin .append,xs,ts⟩,ty,p,a,g⟩=3:=rfl
def vp (k:Nat) (f:Option Func):Nat:=match k with
 | 1=>0
 | 2=>1
 | 10 | 11 | 12=>match f with
  | some fn=>if fn.body.isNone then 0 else 3
  | none=>3
 | _=>3
theorem kd_callf {h:Nat} {xs:Array Operand} {ts:Array TypeId}:zC cfg ⟨d,.call ⟨.value (.func h),xs,ts⟩,ty,p,a,g⟩=vp (cfg.pure h) (cfg.fn h):=rfl
attribute [simp] kd_callf
@[simp] theorem ck_0 {f:Option Func}:vp 0 f=3:=rfl
@[simp] theorem ck_1 {f:Option Func}:vp 1 f=0:=rfl
@[simp] theorem ck_2 {f:Option Func}:vp 2 f=1:=rfl
@[simp] theorem ck_3 {f:Option Func}:vp 3 f=3:=rfl
@[simp] theorem ck_7 {f:Option Func}:vp 7 f=3:=rfl
@[simp] theorem ck_8 {f:Option Func}:vp 8 f=3:=rfl
@[simp] theorem kd_callt {t:Nat} {xs:Array Operand} {ts:Array TypeId}:zC cfg ⟨d,.call ⟨.value (.tmp t),xs,ts⟩,ty,p,a,g⟩=3:=rfl
end

/-! stores -/
attribute [simp] S.get_add S.get_put S.get_del
@[simp] theorem S.empty_next:S.empty.next=0:=rfl
@[simp] theorem max_succ_self (n:Nat):max n (n+1)=n+1:=by omega
@[simp] theorem max_add_add (n a b:Nat):max (n+a) (n+b)=n+max a b:=by omega
@[simp] theorem wf_empty':S.empty.wf:=S.wf_empty
@[simp] theorem wf_add' {s:S} (h:s.wf) (n:Nat) (o:O):(s.add n o).wf:=S.wf_add h n o
@[simp] theorem wf_del' {s:S} (h:s.wf) (n:Nat):(s.del n).wf:=S.wf_del h n
@[simp] theorem wf_put' {s:S} (h:s.wf) {n:Nat} (hn:n<s.next) (o:O):(s.put n o).wf:=S.wf_put h n o hn
@[simp] theorem keeps_add' {a b:S} (h:a.keeps b) {n:Nat} (hn:a.next≤n) (o:O):a.keeps (b.add n o):=h.add o hn
@[simp] theorem keeps_del' {a b:S} (h:a.keeps b) {n:Nat} (hn:a.next≤n):a.keeps (b.del n):=h.del hn
@[simp] theorem keeps_put' {a b:S} (h:a.keeps b) {n:Nat} (hn:a.next≤n) (hl:n<b.next) (o:O):a.keeps (b.put n o):=h.put o hn hl
@[simp] theorem keeps_bump (s:S) (n:Nat):s.keeps (S.mk (s.next+n) s.tr):=S.keeps_next s n
@[simp] theorem keeps_mk {a b:S} (h:a.keeps b) {n:Nat} (hn:b.next≤n):a.keeps (S.mk n b.tr):=⟨Nat.le_trans h.1 hn,fun i hi=>h.2.1 i hi,fun w i hi=>h.2.2 w i (Nat.le_trans hn hi)⟩
@[simp] theorem wf_mk {b:S} (h:b.wf) {n:Nat} (hn:b.next≤n):(S.mk n b.tr).wf:=fun i hi=>h i (Nat.le_trans hn hi)
@[simp] theorem lows_refl (n:Nat) (s:S):S.lows n s s:=fun _ _=>rfl
@[simp] theorem lows_add {n:Nat} {a b:S} (h:S.lows n a b) {i:Nat} (hi:n≤i) (o:O):S.lows n a (b.add i o):=fun j hj=>by rw [S.get_add,if_neg (by omega)]; exact h j hj
@[simp] theorem lows_put {n:Nat} {a b:S} (h:S.lows n a b) {i:Nat} (hi:n≤i) (o:O):S.lows n a (b.put i o):=fun j hj=>by rw [S.get_put,if_neg (by omega)]; exact h j hj
@[simp] theorem lows_del {n:Nat} {a b:S} (h:S.lows n a b) {i:Nat} (hi:n≤i):S.lows n a (b.del i):=fun j hj=>by rw [S.get_del,if_neg (by omega)]; exact h j hj
@[simp] theorem keeps_refl' (s:S):s.keeps s:=S.keeps.refl s
@[simp] theorem S.mk_next (n:Nat) (t:T O):(S.mk n t).next=n:=rfl
@[simp] theorem S.empty_add_next (i:Nat) (o:O):(S.add S.empty i o).next=max 0 (i+1):=rfl
theorem wf_bump {s:S} (h:s.wf) (n:Nat) (hn:s.next≤n):(S.mk n s.tr).wf:=fun i hi=>h i (by simp only at hi; omega)
@[simp] theorem zX {s:S} (h:s.wf) (n:Nat):(S.mk (s.next+n) s.tr).wf:=wf_bump h _ (by omega)
@[simp] theorem wf_bump0 (n:Nat):(S.mk n S.empty.tr).wf:=wf_bump S.wf_empty n (Nat.zero_le _)
@[simp] theorem bump_get (n:Nat) (s:S) (i:Nat):(S.mk n s.tr).get i=s.get i:=rfl
theorem placesOf_ty {c c':Cfg} (h:c.ty=c'.ty):∀(l:List Field),wh c l=wh c' l
 | []=>rfl
 | f::l=>by unfold wh; rw [h,placesOf_ty h l]
theorem aBuild_ty {c c':Cfg} (h:c.ty=c'.ty) (t:TypeId) (ps:List (Nat×V)):xh c t ps=xh c' t ps:=by
 unfold xh
 rw [h]
 cases c'.ty t with
 | none=>rfl
 | some a =>
  simp only [Option.bind_eq_bind,Option.bind_some]
  cases a.und <;> simp only [placesOf_ty h]
end
end Go.Proofs.YtchlfjhbijmdiaaGreatDoor.Ai

