/- Part of a reckoning of a Go program over abstract values, proved sound against the model. -/
import Derived.Test.YtchlfjhbijmdiaaGreatDoorAiT1
import Derived.Test.YtchlfjhbijmdiaaGreatDoorAiU3
set_option linter.unusedSimpArgs false
set_option linter.unusedVariables false
namespace Go.Proofs.YtchlfjhbijmdiaaGreatDoor.Ai
noncomputable section
set_option maxRecDepth 100000

def vw (d:Option Tmp) (v:V) (E:Env):Env:=match d with
 | some t=>(t,v)::E
 | none=>E
def tb:List Nat→Env→Env
 | [],_=>[]
 | k::ks,E=>match yw E k with
  | some v=>(k,v)::tb ks E
  | none=>tb ks E
def zI:Env→Env→Prop
 | [],_=>True
 | p::l,E=>yw E p.1=some p.2∧zI l E
def argsE:Nat→List V→Env
 | _,[]=>[]
 | i,v::l=>(i,v)::argsE (i+1) l
def zL (ops:Array Oper) (j:Nat):Option Tmp:=(ops[j]?).bind (·.dst)

def tk {α:Type} (x:Option α) (K:α→Prop):Prop:=match x with
 | some a=>K a
 | none=>False
def wM (b:Option V) (w:Bool) (A B:Prop):Prop:=match b with
 | some (.bool b)=>(b=w→A)∧(b=!w→B)
 | _=>False
/-- A guard that was itself not reached. -/
def uF (b:Option V) (C X:Prop):Prop:=match b with
 | some (.tup _)=>C
 | _=>X
def CondK (b:Option V) (A B:Prop):Prop:=match b with
 | some (.bool b)=>(b=true→A)∧(b=false→B)
 | _=>False
def SeqK (e:AX) (A B:Prop):Prop:=match e with
 | .normal=>A
 | _=>B
def uG (e:AX) (id:Nat) (A B:Prop):Prop:=match e with
 | .exit j=>if j=id then A else B
 | _=>B
def EnvK (E:Env) (K:Env→Prop):Prop:=K E
def KindK (k:Nat) (A3 A2 A1 A0:Prop):Prop:=match k with
 | 3=>A3
 | 2=>A2
 | 1=>A1
 | _=>A0
def KeepK (fl:Bool) (base:Nat) (f:S) (r:Option R) (K:V→S→Prop):Prop:=match r with
 | some (.val v f')=>f.next≤f'.next∧(fl=true∨S.lows base f f')∧K v f'
 | _=>False
def NewK (r:Option R) (K:V→S→Prop):Prop:=match r with
 | some (.val v f')=>K v f'
 | _=>False
def th (r:Option R) (K:V→Prop):Prop:=match r with
 | some (.val v _)=>K v
 | _=>False

/-- What is known of a function that may change the store: where it may be called, and what it may give. -/
structure SpE where
 D:List V→S→Prop
 R:List V→S→V→S→Prop
 RP:List V→S→List AP→S→Prop
def spAt:List (FuncId×SpE)→Sp
 | [],_,_,_,_,_=>False
 | p::l,f,args,s,K,KP=>if p.1=f then p.2.D args s∧(∀v s',p.2.R args s v s'→K v s')∧(∀ch s',p.2.RP args s ch s'→KP ch s') else spAt l f args s K KP
theorem spAt_mono {K K':V→S→Prop} {KP KP':List AP→S→Prop} (h1:∀v s,K v s→K' v s) (h2:∀ch s,KP ch s→KP' ch s) {f:FuncId} {args:List V} {s:S}:∀{l:List (FuncId×SpE)},spAt l f args s K KP→spAt l f args s K' KP'
 | [],h=>h
 | p::l,h=>by
  unfold spAt at h ⊢
  by_cases e:p.1=f
  ·rw [if_pos e] at h ⊢
   exact ⟨h.1,fun v s' hr=>h1 _ _ (h.2.1 v s' hr),fun ch s' hr=>h2 _ _ (h.2.2 ch s' hr)⟩
  ·rw [if_neg e] at h ⊢
   exact spAt_mono h1 h2 h
def tR (P:Program) (cfg:Cfg) (f:FuncId) (e:SpE):Prop:=∀(x:Cx) (args:List V) (cargs:List Value),GOk cfg x→Rel x→RepL x args cargs→e.D args x.s →
 Ent P f∧Calls P f cargs.toArray x.w fun E w'=>∃y:Cx,y.w=w'∧EndW x (e.R args x.s) (e.RP args x.s) y E
theorem EndW.mono {x y:Cx} {K K':V→S→Prop} {KP KP':List AP→S→Prop} (h1:∀v s,K v s→K' v s) (h2:∀ch s,KP ch s→KP' ch s) {E:Ending} (h:EndW x K KP y E):EndW x K' KP' y E:=by
 cases E with
 | returned c=>obtain ⟨v,s',a,b,c,d⟩:=h; exact ⟨v,s',a,b,c,h1 _ _ d⟩
 | panicked d=>obtain ⟨v,s',a,b,c,d⟩:=h; exact ⟨v,s',a,b,c,h2 _ _ d⟩
 | outgrown=>exact h
theorem spAt_ok {P:Program} {cfg:Cfg}:∀{l:List (FuncId×SpE)},(∀f e,(f,e)∈l→tR P cfg f e)→SpOk P cfg (spAt l)
 | [],_=>fun _ _ _ _ _ _ _ _ _ h=>h.elim
 | (g,e)::l,hl=>fun x f args cargs K KP hg hx ha h=>by
  unfold spAt at h
  by_cases he:g=f
  ·subst he
   rw [if_pos rfl] at h
   obtain ⟨h1,h2⟩:=hl g e (by simp) x args cargs hg hx ha h.1
   refine ⟨h1,h2.mono ?_⟩
   rintro E w' ⟨y,hy,hend⟩
   exact ⟨y,hy,hend.mono h.2.1 h.2.2⟩
  ·rw [if_neg he] at h
   exact spAt_ok (fun f e hm=>hl f e (by simp [hm])) x f args cargs K KP hg hx ha h

def isLN:V→Bool
 | .list _ | .nils=>true
 | _=>false
/-- A comparison of two slices. -/
def NilK (cfg:Cfg) (op:BinOp) (t:TypeId) (v w:V) (s:S) (K:V→S→Prop):Prop :=
 (op=.eql∨op=.neq)∧tk (cfg.ty t) fun a=>(∃e,a.und=.slice e)∧match v,w with
  | .list es,.nils=>(es.isEmpty=false→K (.bool (op == .neq)) s)∧(es.isEmpty=true→∀b,K (.bool b) s)
  | .nils,.list es=>(es.isEmpty=false→K (.bool (op == .neq)) s)∧(es.isEmpty=true→∀b,K (.bool b) s)
  | .nils,.nils=>K (.bool (op == .eql)) s
  | _,_=>False
def BinK (cfg:Cfg) (op:BinOp) (t:TypeId) (v w:V) (s:S) (K:V→S→Prop) (KP:List AP→S→Prop):Prop :=
 bif isLN v && isLN w then NilK cfg op t v w s K else yp s.next ((wN cfg op t v w).map (.val · s)) K KP
def CallK (cfg:Cfg) (cf:CF) (sp:List (FuncId×SpE)) (args:List V) (fv:Option V) (s:S) (K:V→S→Prop) (KP:List AP→S→Prop):Prop:=match fv with
 | some (.func (.func g) first cap)=>bif Nat.beq (cfg.pure g) 7 then spAt sp g (first++args++cap) s K KP else tk (cfg.fn g) fun fn =>
   bif fn.body.isNone then yp s.next ((extOp cfg g (first++args++cap)).map (.val · s)) K KP else yp s.next (xq cfg cf s.next g (first++args++cap) s) K KP
 | _=>False

section
variable (cfg:Cfg) (cf:CF) (sl:Bool) (sp:List (FuncId×SpE)) (N:Nat)

def yD (o:Oper) (rd:Operand→Option V) (s:S) (K:V→S→Prop) (KP:List AP→S→Prop):Prop:=match o.op with
 | .binOp op t x y _=>tk (rd x) fun v=>tk (rd y) fun w=>BinK cfg op t v w s K KP
 | .call c=>match c.callee with
  | .value f=>tk (evLR rd c.args.toList) fun args=>CallK cfg cf sp args (rd f) s K KP
  | _=>yp s.next (zP cfg cf sl s.next o rd s) K KP
 | _=>yp s.next (zP cfg cf sl s.next o rd s) K KP

def RunE (ops:Array Oper):List Oper→Env→S→(AX→Env→S→Prop)→Prop
 | [],E,s,Q=>Q .normal E s
 | o::l,E,s,Q=>match o.guard with
  | none=>yD cfg cf sl sp o (rdE cfg E) s (fun v s'=>RunE ops l (vw o.dst v E) s' Q) (fun ch s'=>Q (.pan ch) E s')
  | some (j,w)=>tk (zL ops j) fun t=>uF (yw E t) (RunE ops l (vw o.dst yc E) s Q) <| wM (yw E t) w
    (yD cfg cf sl sp o (rdE cfg ((t,.bool w)::E)) s (fun v s'=>RunE ops l (vw o.dst v ((t,.bool w)::E)) s' Q) (fun ch s'=>Q (.pan ch) E s'))
    (RunE ops l (vw o.dst yc ((t,.bool !w)::E)) s Q)

def uz (ops:Array Oper) (base:Nat) (c0:S):List Oper→Nat→Env→S→(Env→S→Prop)→Prop
 | [],_,E,f,Q=>Q E f
 | o::l,i,E,f,Q=>match o.guard with
  | none=>KindK (zC cfg o)
    (KeepK (zV cfg ops i) base f (zP cfg cf sl (base+i) o (rdE cfg E) f) fun v f'=>uz ops base c0 l (i+1) (vw o.dst v E) f' Q)
    (NewK (zP cfg cf sl (base+i) o (rdE cfg E) f) fun v f'=>uz ops base c0 l (i+1) (vw o.dst v E) f' Q)
    (th (zP cfg cf sl 0 o (rdE cfg E) c0) fun v=>uz ops base c0 l (i+1) (vw o.dst v E) f Q)
    (th (zP cfg cf sl 0 o (rdE cfg E) S.empty) fun v=>uz ops base c0 l (i+1) (vw o.dst v E) f Q)
  | some (j,w)=>tk (zL ops j) fun t=>uF (yw E t) (uz ops base c0 l (i+1) (vw o.dst yc E) f Q) <| wM (yw E t) w
    (KindK (zC cfg o)
     (KeepK (zV cfg ops i) base f (zP cfg cf sl (base+i) o (rdE cfg ((t,.bool w)::E)) f) fun v f'=>uz ops base c0 l (i+1) (vw o.dst v ((t,.bool w)::E)) f' Q)
     (NewK (zP cfg cf sl (base+i) o (rdE cfg ((t,.bool w)::E)) f) fun v f'=>uz ops base c0 l (i+1) (vw o.dst v ((t,.bool w)::E)) f' Q)
     (th (zP cfg cf sl 0 o (rdE cfg ((t,.bool w)::E)) c0) fun v=>uz ops base c0 l (i+1) (vw o.dst v ((t,.bool w)::E)) f Q)
     (th (zP cfg cf sl 0 o (rdE cfg ((t,.bool w)::E)) S.empty) fun v=>uz ops base c0 l (i+1) (vw o.dst v ((t,.bool w)::E)) f Q))
    (uz ops base c0 l (i+1) (vw o.dst yc ((t,.bool !w)::E)) f Q)

/-- Code, with what is kept behind each region. -/
inductive AC where
 | reg (n:Nat) (ops:Array Oper) (ks:List Nat)
 | draw (n:Nat) (ops:Array Oper) (ks:List Nat)
 | seq (a b:AC)
 | cond (c:Operand) (a b:AC)
 | block (id:Nat) (c:AC)
 | loop (c:AC)
 | scope (c:AC)
 | exit (id:Nat)
 | ret
 | skip

def AC.code:AC→Code
 | .reg n ops _=>.region n ops false
 | .draw n ops _=>.region n ops true
 | .seq a b=>.seq a.code b.code
 | .cond c a b=>.cond c a.code b.code
 | .block id c=>.block id c.code
 | .loop c=>.loop c.code
 | .scope c=>.scope c.code
 | .exit id=>.exit id
 | .ret=>.ret
 | .skip=>.skip

def fitsO (ops:List Oper):Bool:=ops.all fun o=>match o.dst with
 | some t=>Nat.blt t N
 | none=>true
def AC.fits:AC→Bool
 | .reg _ ops _=>fitsO N ops.toList
 | .draw _ ops _=>fitsO N ops.toList
 | .seq a b=>a.fits && b.fits
 | .cond _ a b=>a.fits && b.fits
 | .block _ c=>c.fits
 | .loop c=>c.fits
 | .scope c=>c.fits
 | _=>true

def WpE (c:Code) (E:Env) (s:S) (Q:AX→Env→S→Prop):Prop :=
 ∀dfs tm Q',tm.length=N→Has E tm→(∀e E' tm' s',tm'.length=N→Has E' tm'→Q e E' s'→Q' e ⟨tm',dfs⟩ s')→W cfg cf sl (spAt sp) c ⟨tm,dfs⟩ s Q'

def yd:AC→Env→S→(AX→Env→S→Prop)→Prop
 | .reg _ ops ks,E,s,Q=>RunE cfg cf sl sp ops ops.toList E s fun e E' s'=>EnvK (tb ks E') fun E''=>Q e E'' s'
 | .draw _ ops ks,E,s,Q=>zD cfg ops=true∧yg cfg ops=true∧s.wf∧uz cfg cf sl ops s.next ⟨s.next+ops.size,s.tr⟩ ops.toList 0 E ⟨s.next+ops.size,s.tr⟩ fun E' s'=>EnvK (tb ks E') fun E''=>Q .normal E'' s'
 | .seq a b,E,s,Q=>yd a E s fun e E' s'=>SeqK e (yd b E' s' Q) (Q e E' s')
 | .cond c x y,E,s,Q=>CondK (rdE cfg E c) (yd x E s Q) (yd y E s Q)
 | .block id c,E,s,Q=>yd c E s fun e E' s'=>uG e id (Q .normal E' s') (Q e E' s')
 | .loop c,E,s,Q=>WpE cfg cf sl sp N (.loop c.code) E s Q
 | .scope c,E,s,Q=>yd c E s Q
 | .exit id,E,s,Q=>Q (.exit id) E s
 | .ret,E,s,Q=>Q .ret E s
 | .skip,E,s,Q=>Q .normal E s
end

section
variable {cfg:Cfg} {cf:CF} {sl:Bool} {sp:List (FuncId×SpE)} {N:Nat} {dfs:List DF}

theorem has_put {E:Env} {tm:List V} {t:Nat} {v:V} (h:Has E tm) (ht:t<tm.length):Has ((t,v)::E) (updL tm v t):=fun i w hi=>by
 simp only [yw] at hi
 rw [nth_updL]
 by_cases e:i=t
 ·rw [if_pos e] at hi ⊢
  rw [if_pos ht]; exact hi
 ·rw [if_neg e] at hi ⊢
  exact h i w hi
theorem has_same {E:Env} {tm:List V} {t:Nat} {v:V} (h:Has E tm) (ht:nth tm t=some v):Has ((t,v)::E) tm:=fun i w hi=>by
 simp only [yw] at hi
 by_cases e:i=t
 ·rw [if_pos e] at hi; subst e; rw [ht]; exact hi
 ·rw [if_neg e] at hi; exact h i w hi
theorem keep_get:∀(ks:List Nat) {E:Env} {i:Nat} {v:V},yw (tb ks E) i=some v→yw E i=some v
 | [],_,_,_,h=>by cases h
 | k::ks,E,i,v,h=>by
  unfold tb at h
  split at h
  ·rename_i w hw
   simp only [yw] at h
   by_cases e:i=k
   ·rw [if_pos e] at h; subst e; rw [hw]; exact h
   ·rw [if_neg e] at h; exact keep_get ks h
  ·exact keep_get ks h
theorem has_keep {E:Env} {tm:List V} (h:Has E tm) (ks:List Nat):Has (tb ks E) tm:=fun i v hi=>h i v (keep_get ks hi)
theorem sub_get:∀{E' E:Env} {i:Nat} {v:V},zI E' E→yw E' i=some v→yw E i=some v
 | [],_,_,_,_,h=>by cases h
 | p::l,E,i,v,hs,h=>by
  simp only [yw] at h
  by_cases e:i=p.1
  ·rw [if_pos e] at h; rw [e,hs.1]; exact h
  ·rw [if_neg e] at h; exact sub_get hs.2 h
theorem has_sub {E' E:Env} {tm:List V} (hs:zI E' E) (h:Has E tm):Has E' tm:=fun i v hi=>h i v (sub_get hs hi)

theorem eput_has {E:Env} {tm:List V} {d:Option Tmp} {v:V} (h:Has E tm) (hd:(match d with | some t=>Nat.blt t N | none=>true)=true) (hl:tm.length=N):Has (vw d v E) (Fr.put ⟨tm,dfs⟩ d v).tmps∧(Fr.put ⟨tm,dfs⟩ d v).tmps.length=N∧Fr.put ⟨tm,dfs⟩ d v=⟨(Fr.put ⟨tm,dfs⟩ d v).tmps,dfs⟩:=by
 cases d with
 | none=>exact ⟨h,hl,rfl⟩
 | some t=>exact ⟨has_put h (by rw [hl]; rw [Nat.blt_eq] at hd; exact hd),by simp [Fr.put,hl],rfl⟩

theorem guard_want {ops:Array Oper} {o:Oper} {j:Nat} {w:Bool} {t:Tmp} {b:Bool} {tm:List V} (hg:o.guard=some (j,w)) (ht:zL ops j=some t) (hb:nth tm t=some (.bool b)):yk ops o tm=(b == w):=by
 have hy:wd ops tm j=some b:=by
  unfold wd
  unfold zL at ht
  simp only [ht,Option.bind_some,hb]
 unfold yk
 simp only [hg,hy]
 cases b <;> cases w <;> rfl

theorem guard_lost {ops:Array Oper} {o:Oper} {j:Nat} {w:Bool} {t:Tmp} {vs:List V} {tm:List V} (hg:o.guard=some (j,w)) (ht:zL ops j=some t) (hb:nth tm t=some (.tup vs)):yk ops o tm=false:=by
 have hy:wd ops tm j=none:=by
  unfold wd
  unfold zL at ht
  simp only [ht,Option.bind_some,hb]
 unfold yk
 simp only [hg,hy]
 rfl

theorem stepO_ok {o:Oper} {E:Env} {tm:List V} (hh:Has E tm) {s:S} {K K':V→S→Prop} {KP KP':List AP→S→Prop} (h:yD cfg cf sl sp o (rdE cfg E) s K KP) (hk:∀v s,K v s→K' v s) (hp:∀ch s,KP ch s→KP' ch s):OpW cfg cf sl (spAt sp) o tm s K' KP':=by
 have step:∀r,yS cfg cf sl s.next o tm s=r→yp s.next r K KP→OpW cfg cf sl (spAt sp) o tm s K' KP':=by
  intro r hr h
  refine .inl ?_
  rw [hr]
  unfold yp at h ⊢
  split at h
  ·exact ⟨h.1,hk _ _ h.2⟩
  ·exact ⟨h.1,hp _ _ h.2⟩
  ·exact h.elim
 have plain:yp s.next (zP cfg cf sl s.next o (rdE cfg E) s) K KP→OpW cfg cf sl (spAt sp) o tm s K' KP':=by
  intro h
  cases hr:zP cfg cf sl s.next o (rdE cfg E) s with
  | none=>rw [hr] at h; exact h.elim
  | some r=>rw [hr] at h; exact step _ (doOpE hh hr) h
 unfold yD at h
 split at h
 ·rename_i op t x y u hop
  unfold tk at h
  split at h
  case h_2=>exact h.elim
  rename_i v hv
  split at h
  case h_2=>exact h.elim
  rename_i w hw
  have hv':=rdE_ev hh _ _ hv
  have hw':=rdE_ev hh _ _ hw
  have hd:∀r,wN cfg op t v w=some r→yS cfg cf sl s.next o tm s=some (.val r s):=by
   intro r hr
   rw [xZ]; unfold doOp0; rw [hop]
   simp only [hv',hw',Option.bind_eq_bind,Option.bind_some,hr,Option.map_some]
  unfold BinK at h
  cases hln:isLN v && isLN w with
  | false =>
   rw [hln] at h
   simp only [cond_false] at h
   cases hr:wN cfg op t v w with
   | none=>rw [hr] at h; exact h.elim
   | some r=>rw [hr] at h; exact step _ (hd r hr) h
  | true =>
   rw [hln] at h
   simp only [cond_true] at h
   obtain ⟨hop2,h⟩:=h
   unfold tk at h
   split at h
   case h_2=>exact h.elim
   rename_i a ha
   obtain ⟨⟨e,he⟩,h⟩:=h
   have eqv:∀b,aEq cfg t v w=some b→K (.bool (if op=.eql then b else !b)) s→OpW cfg cf sl (spAt sp) o tm s K' KP':=by
    intro b hb hK
    refine step _ (hd (.bool (if op=.eql then b else !b)) ?_) ⟨Nat.le_refl _,hK⟩
    unfold wN
    rcases hop2 with rfl | rfl <;> cases v <;> cases w <;> simp_all [isLN]
   have unk:((ev cfg tm x=some (.list [])∧ev cfg tm y=some .nils)∨(ev cfg tm x=some .nils∧ev cfg tm y=some (.list [])))→(∀b,K (.bool b) s)→OpW cfg cf sl (spAt sp) o tm s K' KP':=fun h1 h2 =>
    .inr (.inr ⟨op,t,x,y,u,a,e,hop,hop2,ha,he,h1,fun b=>hk _ _ (h2 b)⟩)
   split at h
   ·rename_i es
    cases es with
    | nil=>exact unk (.inl ⟨hv',hw'⟩) (h.2 rfl)
    | cons z es =>
     refine eqv false (by simp [aEq,ha,he]) ?_
     have:=h.1 rfl
     rcases hop2 with rfl | rfl <;> exact this
   ·rename_i es
    cases es with
    | nil=>exact unk (.inr ⟨hv',hw'⟩) (h.2 rfl)
    | cons z es =>
     refine eqv false (by simp [aEq,ha,he]) ?_
     have:=h.1 rfl
     rcases hop2 with rfl | rfl <;> exact this
   ·refine eqv true (by simp [aEq,ha,he]) ?_
    rcases hop2 with rfl | rfl <;> exact h
   ·exact h.elim
 ·rename_i c hop
  split at h
  ·rename_i f hcal
   unfold tk at h
   split at h
   case h_2=>exact h.elim
   rename_i args hargs
   have hargs':evL cfg tm c.args.toList=some args:=by
    have:=wI (rdE_ev hh) hargs
    rwa [evLR_eq] at this
   unfold CallK at h
   split at h
   case h_2=>exact h.elim
   rename_i g first cap hf
   have hf':=rdE_ev hh _ _ hf
   cases h7:Nat.beq (cfg.pure g) 7 with
   | true =>
    rw [h7] at h
    exact .inr (.inl ⟨c,hop,f,g,first,cap,args,hcal,hf',hargs',spAt_mono hk hp h⟩)
   | false =>
    rw [h7] at h
    simp only [cond_false] at h
    unfold tk at h
    split at h
    case h_2=>exact h.elim
    rename_i fn hfn
    have hd:yS cfg cf sl s.next o tm s=if fn.body.isNone then (extOp cfg g (first++args++cap)).map (.val · s) else xq cfg cf s.next g (first++args++cap) s:=by
     rw [xZ]; unfold doOp0; rw [hop]
     simp only [yY,hargs',hcal,hf',hfn]
    cases hb:fn.body.isNone with
    | true =>
     rw [hb] at h hd
     exact step _ hd h
    | false =>
     rw [hb] at h hd
     exact step _ hd h
  ·exact plain h
 ·exact plain h

theorem runE_ok {ops:Array Oper} {Q:AX→Env→S→Prop} {Q':AX→Fr→S→Prop} (hq:∀e E' tm' s',tm'.length=N→Has E' tm'→Q e E' s'→Q' e ⟨tm',dfs⟩ s'):∀(l:List Oper) (E:Env) (s:S) (tm:List V),fitsO N l=true→tm.length=N→Has E tm→RunE cfg cf sl sp ops l E s Q→WOps cfg cf sl (spAt sp) ops l ⟨tm,dfs⟩ s Q'
 | [],E,s,tm,_,hl,hh,h=>hq _ _ _ _ hl hh h
 | o::l,E,s,tm,hf,hl,hh,h=>by
  simp only [fitsO,List.all_cons,Bool.and_eq_true] at hf
  have ihv:∀(E1:Env) (v:V) (s':S),Has E1 tm→RunE cfg cf sl sp ops l (vw o.dst v E1) s' Q→WOps cfg cf sl (spAt sp) ops l (Fr.put ⟨tm,dfs⟩ o.dst v) s' Q':=by
   intro E1 v s' h1 h2
   obtain ⟨h3,h4,h5⟩:=eput_has (dfs:=dfs) (d:=o.dst) (v:=v) h1 hf.1 hl
   rw [h5]
   exact runE_ok hq l _ _ _ hf.2 h4 h3 h2
  have step:∀E1,Has E1 tm→yk ops o tm=true→yD cfg cf sl sp o (rdE cfg E1) s (fun v s'=>RunE cfg cf sl sp ops l (vw o.dst v E1) s' Q) (fun ch s'=>Q (.pan ch) E s')→WOps cfg cf sl (spAt sp) ops (o::l) ⟨tm,dfs⟩ s Q':=by
   intro E1 h1 hw hk
   unfold WOps
   rw [if_pos hw]
   exact stepO_ok h1 hk (fun v s' h=>ihv E1 v s' h1 h) (fun ch s' h=>hq _ _ _ _ hl hh h)
  unfold RunE at h
  split at h
  ·rename_i hg
   exact step E hh (by unfold yk; rw [hg]) h
  ·rename_i j w hg
   unfold tk at h
   split at h
   ·rename_i t ht
    unfold uF at h
    split at h
    ·rename_i vs hb
     have hbt:=hh t _ hb
     unfold WOps
     rw [if_neg (by rw [guard_lost hg ht hbt]; decide)]
     exact ihv E yc s hh h
    unfold wM at h
    split at h
    ·rename_i b hb
     have hbt:=hh t _ hb
     have hw:=guard_want (tm:=tm) hg ht hbt
     by_cases e:b=w
     ·subst e
      exact step _ (has_same hh hbt) (by rw [hw]; simp) (h.1 rfl)
     ·have e':b=!w:=by cases b <;> cases w <;> simp_all
      unfold WOps
      rw [if_neg (by rw [hw]; simpa using e)]
      exact ihv _ yc s (has_same hh (by rw [hbt,e'])) (h.2 e')
    ·exact h.elim
   ·exact h.elim

theorem runD_ok {ops:Array Oper} {base:Nat} {c0:S} {Q:Env→S→Prop}:∀(l:List Oper) (i:Nat) (E:Env) (f:S) (tm:List V),fitsO N l=true→tm.length=N→Has E tm→uz cfg cf sl ops base c0 l i E f Q →
  WpD cfg cf sl ops base c0 l i tm f fun tm' s'=>tm'.length=N∧∃E',Has E' tm'∧Q E' s'
 | [],i,E,f,tm,_,hl,hh,h=>⟨hl,E,hh,h⟩
 | o::l,i,E,f,tm,hf,hl,hh,h=>by
  simp only [fitsO,List.all_cons,Bool.and_eq_true] at hf
  have ihv:∀(E1:Env) (v:V) (f':S),Has E1 tm→uz cfg cf sl ops base c0 l (i+1) (vw o.dst v E1) f' Q→WpD cfg cf sl ops base c0 l (i+1) (putT o.dst tm v) f' fun tm' s'=>tm'.length=N∧∃E',Has E' tm'∧Q E' s':=by
   intro E1 v s' h1 h2
   obtain ⟨h3,h4,_⟩:=eput_has (dfs:=[]) (d:=o.dst) (v:=v) h1 hf.1 hl
   have he:putT o.dst tm v=(Fr.put ⟨tm,[]⟩ o.dst v).tmps:=by cases o.dst <;> rfl
   rw [he]
   exact runD_ok l _ _ _ _ hf.2 h4 h3 h2
  have step:∀E1,Has E1 tm→yk ops o tm=true→KindK (zC cfg o)
    (KeepK (zV cfg ops i) base f (zP cfg cf sl (base+i) o (rdE cfg E1) f) fun v f'=>uz cfg cf sl ops base c0 l (i+1) (vw o.dst v E1) f' Q)
    (NewK (zP cfg cf sl (base+i) o (rdE cfg E1) f) fun v f'=>uz cfg cf sl ops base c0 l (i+1) (vw o.dst v E1) f' Q)
    (th (zP cfg cf sl 0 o (rdE cfg E1) c0) fun v=>uz cfg cf sl ops base c0 l (i+1) (vw o.dst v E1) f Q)
    (th (zP cfg cf sl 0 o (rdE cfg E1) S.empty) fun v=>uz cfg cf sl ops base c0 l (i+1) (vw o.dst v E1) f Q)→WpD cfg cf sl ops base c0 (o::l) i tm f fun tm' s'=>tm'.length=N∧∃E',Has E' tm'∧Q E' s':=by
   intro E1 h1 hw hk
   unfold WpD
   rw [if_pos hw]
   unfold KindK at hk
   split at hk
   ·rename_i hkind
    simp only [hkind]
    unfold KeepK at hk
    split at hk
    ·rename_i v f' hr
     rw [doOpE h1 hr]
     exact ⟨hk.1,hk.2.1,ihv E1 v f' h1 hk.2.2⟩
    ·exact hk.elim
   ·rename_i hkind
    simp only [hkind]
    unfold NewK at hk
    split at hk
    ·rename_i v f' hr
     rw [doOpE h1 hr]
     exact ihv E1 v f' h1 hk
    ·exact hk.elim
   ·rename_i hkind
    simp only [hkind]
    unfold th at hk
    split at hk
    ·rename_i v f' hr
     rw [doOpE h1 hr]
     exact ihv E1 v f h1 hk
    ·exact hk.elim
   ·rename_i k3 k2 k1
    unfold th at hk
    split at hk
    ·rename_i v f' hr
     split
     ·rename_i e; exact absurd e k3
     ·rename_i e; exact absurd e k2
     ·rename_i e; exact absurd e k1
     ·rw [doOpE h1 hr]
      exact ihv E1 v f h1 hk
    ·exact hk.elim
  unfold uz at h
  split at h
  ·rename_i hg
   exact step E hh (by unfold yk; rw [hg]) h
  ·rename_i j w hg
   unfold tk at h
   split at h
   ·rename_i t ht
    unfold uF at h
    split at h
    ·rename_i vs hb
     have hbt:=hh t _ hb
     unfold WpD
     rw [if_neg (by rw [guard_lost hg ht hbt]; decide)]
     exact ihv E yc f hh h
    unfold wM at h
    split at h
    ·rename_i b hb
     have hbt:=hh t _ hb
     have hw:=guard_want (tm:=tm) hg ht hbt
     by_cases e:b=w
     ·subst e
      exact step _ (has_same hh hbt) (by rw [hw]; simp) (h.1 rfl)
     ·have e':b=!w:=by cases b <;> cases w <;> simp_all
      unfold WpD
      rw [if_neg (by rw [hw]; simpa using e)]
      exact ihv _ yc f (has_same hh (by rw [hbt,e'])) (h.2 e')
    ·exact h.elim
   ·exact h.elim

theorem runC_ok:∀(c:AC) (E:Env) (s:S) (Q:AX→Env→S→Prop),c.fits N=true→yd cfg cf sl sp N c E s Q→WpE cfg cf sl sp N c.code E s Q:=by
 intro c
 induction c with
 | reg n ops ks =>
  intro E s Q hf h dfs tm Q' hl hh hq
  exact runE_ok (dfs:=dfs) (fun e E' tm' s' h1 h2 h3=>hq e (tb ks E') tm' s' h1 (has_keep h2 ks) h3) ops.toList E s tm hf hl hh h
 | draw n ops ks =>
  intro E s Q hf h dfs tm Q' hl hh hq
  obtain ⟨hs,hd,hw,h⟩:=h
  obtain ⟨tm',s',h1,h2,E',h3,h4⟩:=runDraw_sound (dfs:=dfs) (cf:=cf) (sl:=sl) hs hw (runD_ok (cfg:=cfg) (cf:=cf) (sl:=sl) (N:=N) ops.toList 0 E _ tm hf hl hh h)
  exact ⟨hd,_,s',h1,hq _ (tb ks E') tm' s' h2 (has_keep h3 ks) h4⟩
 | seq a b iha ihb =>
  intro E s Q hf h dfs tm Q' hl hh hq
  simp only [AC.fits,Bool.and_eq_true] at hf
  refine iha E s _ hf.1 h dfs tm _ hl hh fun e E' tm' s' h1 h2 h3=>?_
  cases e with
  | normal=>exact ihb E' s' Q hf.2 h3 dfs tm' Q' h1 h2 hq
  | _=>exact hq _ _ _ _ h1 h2 h3
 | cond c x y ihx ihy =>
  intro E s Q hf h dfs tm Q' hl hh hq
  simp only [AC.fits,Bool.and_eq_true] at hf
  unfold yd CondK at h
  split at h
  ·rename_i b hb
   have hb':=rdE_ev hh _ _ hb
   unfold AC.code W
   simp only [hb']
   cases b with
   | true=>exact ihx E s Q hf.1 (h.1 rfl) dfs tm Q' hl hh hq
   | false=>exact ihy E s Q hf.2 (h.2 rfl) dfs tm Q' hl hh hq
  ·exact h.elim
 | block id c ih =>
  intro E s Q hf h dfs tm Q' hl hh hq
  refine ih E s _ hf h dfs tm _ hl hh fun e E' tm' s' h1 h2 h3=>?_
  cases e with
  | exit j =>
   replace h3:if j=id then Q .normal E' s' else Q (.exit j) E' s':=h3
   show if j=id then _ else _
   by_cases hj:j=id
   ·rw [if_pos hj] at h3 ⊢; exact hq _ _ _ _ h1 h2 h3
   ·rw [if_neg hj] at h3 ⊢; exact hq _ _ _ _ h1 h2 h3
  | _=>exact hq _ _ _ _ h1 h2 h3
 | loop c ih=>intro E s Q hf h; exact h
 | scope c ih=>intro E s Q hf h dfs tm Q' hl hh hq; exact ih E s Q hf h dfs tm Q' hl hh hq
 | exit id=>intro E s Q hf h dfs tm Q' hl hh hq; exact hq _ _ _ _ hl hh h
 | ret=>intro E s Q hf h dfs tm Q' hl hh hq; exact hq _ _ _ _ hl hh h
 | skip=>intro E s Q hf h dfs tm Q' hl hh hq; exact hq _ _ _ _ hl hh h

/-- A loop: each round leads to a lesser one, or out of it. -/
theorem e_loop {α:Type} {c:AC} {E:Env} {s:S} {Q:AX→Env→S→Prop} (I:α→Env→S→Prop) (μ:α→Nat) (a0:α) (hc:c.fits N=true) (h0:∃E0,zI E0 E∧I a0 E0 s)
  (step:∀a E s,I a E s→yd cfg cf sl sp N c E s fun e E' s'=>SeqK e (∃a',μ a'<μ a∧∃E'',zI E'' E'∧I a' E'' s') (Q e E' s')):WpE cfg cf sl sp N (.loop c.code) E s Q:=by
 intro dfs tm Q' hl hh hq
 have key:∀(k:Nat) (a:α) (E:Env) (s:S) (tm:List V),μ a≤k→I a E s→tm.length=N→Has E tm→WI (W cfg cf sl (spAt sp) c.code) (k+1) ⟨tm,dfs⟩ s Q':=by
  intro k
  induction k with
  | zero =>
   intro a E s tm ha hI hl hh
   refine runC_ok c E s _ hc (step a E s hI) dfs tm _ hl hh fun e E' tm' s' h1 h2 h3=>?_
   cases e with
   | normal=>obtain ⟨a',h4,_⟩:=h3; omega
   | _=>exact hq _ _ _ _ h1 h2 h3
  | succ k ih =>
   intro a E s tm ha hI hl hh
   refine runC_ok c E s _ hc (step a E s hI) dfs tm _ hl hh fun e E' tm' s' h1 h2 h3=>?_
   cases e with
   | normal =>
    obtain ⟨a',h4,E'',h5,h6⟩:=h3
    exact ih a' E'' s' tm' (by omega) h6 h1 (has_sub h5 h2)
   | _=>exact hq _ _ _ _ h1 h2 h3
 obtain ⟨E0,h1,h2⟩:=h0
 exact ⟨μ a0+1,key (μ a0) a0 E0 s tm (Nat.le_refl _) h2 hl (has_sub h1 hh)⟩

/-- The same, with what is asked of the store. -/
theorem zO {α:Type} {c:AC} {E:Env} {s:S} {Q:AX→Env→S→Prop} (env:α→Env) (p:α→S→Prop) (μ:α→Nat) (a0:α) (hc:c.fits N=true) (h0:zI (env a0) E) (hp:p a0 s)
  (step:∀a s,p a s→yd cfg cf sl sp N c (env a) s fun e E' s'=>SeqK e (∃a',μ a'<μ a∧p a' s'∧zI (env a') E') (Q e E' s')):WpE cfg cf sl sp N (.loop c.code) E s Q:=by
 refine e_loop (fun a E s=>p a s∧E=env a) μ a0 hc ⟨env a0,h0,hp,rfl⟩ ?_
 rintro a _ s ⟨hp,rfl⟩
 have:=step a s hp
 have hm:(fun e E' s'=>SeqK e (∃a',μ a'<μ a∧p a' s'∧zI (env a') E') (Q e E' s'))=fun e E' s'=>SeqK e (∃a',μ a'<μ a∧∃E'',zI E'' E'∧p a' s'∧E''=env a') (Q e E' s'):=by
  funext e E' s'
  cases e <;> try rfl
  simp only [SeqK,eq_iff_iff]
  constructor
  ·rintro ⟨a',h1,h2,h3⟩; exact ⟨a',h1,_,h3,h2,rfl⟩
  ·rintro ⟨a',h1,E'',h2,h3,rfl⟩; exact ⟨a',h1,h3,h2⟩
 rw [hm] at this
 exact this

theorem has_args (args:List V) (n:Nat) (h:args.length≤n):Has (argsE 0 args) (initT args n):=by
 have key:∀(l:List V) (k i:Nat) (v:V),yw (argsE k l) i=some v→k≤i∧l[i - k]?=some v:=by
  intro l
  induction l with
  | nil=>intro k i v h; cases h
  | cons a l ih =>
   intro k i v h
   simp only [argsE,yw] at h
   by_cases e:i=k
   ·rw [if_pos e] at h; subst e; simpa using h
   ·rw [if_neg e] at h
    obtain ⟨h1,h2⟩:=ih (k+1) i v h
    refine ⟨by omega,?_⟩
    rw [show i - k=(i - (k+1))+1 by omega,List.getElem?_cons_succ]; exact h2
 intro i v hi
 obtain ⟨_,h2⟩:=key args 0 i v hi
 rw [vL,initT,List.getElem?_append_left]
 ·simpa using h2
 ·exact (List.getElem?_eq_some_iff.1 (by simpa using h2)).1

def resE (cfg:Cfg) (s:S) (E:Env):List ResultVar→Option (List V)
 | []=>some []
 | .tmp t::l=>match yw E t,resE cfg s E l with
  | some v,some r=>some (v::r)
  | _,_=>none
 | .cell a t::l=>match yw E a,cfg.ty t,resE cfg s E l with
  | some p,some i,some r=>match zt s i.size (zS i.und) p with
   | some v=>some (v::r)
   | none=>none
  | _,_,_=>none
theorem resE_ok {E:Env} {tm:List V} (h:Has E tm) {s:S}:∀{l:List ResultVar} {vs:List V},resE cfg s E l=some vs→resV cfg s tm l=some vs
 | [],vs,e=>e
 | .tmp t::l,vs,e=>by
  unfold resE at e
  split at e
  ·rename_i v r h1 h2
   have:=h t v h1
   rw [vL] at this
   unfold resV
   rw [this,resE_ok h h2]; exact e
  ·cases e
 | .cell a t::l,vs,e=>by
  unfold resE at e
  split at e
  ·rename_i p i r h1 h2 h3
   have:=h a p h1
   rw [vL] at this
   unfold resV
   rw [this,h2,resE_ok h h3]; exact e
  ·cases e

/-- How a function ends: its results as a value. -/
def FinK (cfg:Cfg) (rs:List ResultVar) (K:V→S→Prop) (KP:List AP→S→Prop) (e:AX) (E:Env) (s:S):Prop:=match e with
 | .normal | .ret=>tk (resE cfg s E rs) fun vs=>K (tupV vs) s
 | .pan ch=>KP ch s
 | .exit _=>False

theorem fin_ok {k:Nat} {fn:Func} {K:V→S→Prop} {KP:List AP→S→Prop} {e:AX} {E:Env} {tm:List V} {s:S} (hh:Has E tm) (h:FinK cfg fn.results.toList K KP e E s):FinW cfg cf k fn K KP e ⟨tm,[]⟩ s:=by
 have done:∀vs,resE cfg s E fn.results.toList=some vs→K (tupV vs) s→(e=.normal∨e=.ret)→FinW cfg cf k fn K KP e ⟨tm,[]⟩ s:=by
  intro vs hv hK he
  rcases he with rfl | rfl <;> exact ⟨.ret,s,.ret,rfl,rfl,vs,resE_ok hh hv,hK⟩
 cases e with
 | normal =>
  simp only [FinK,tk] at h
  split at h
  ·rename_i vs hv; exact done vs hv h (.inl rfl)
  ·exact h.elim
 | ret =>
  simp only [FinK,tk] at h
  split at h
  ·rename_i vs hv; exact done vs hv h (.inr rfl)
  ·exact h.elim
 | pan ch=>exact ⟨.pan ch,s,.pan ch,rfl,rfl,h⟩
 | exit j=>exact h.elim

def wL (s:S) (w v:V):Prop:=see tV s w=some v∧v.free=true

/-- A function that is run alone. -/
theorem zM {P:Program} (hc:cfg.Ok P) {n:Nat} (hcf:wv P cfg cf) (hsp:∀f e,(f,e)∈sp→tR P cfg f e) {f:FuncId} {fn:Func} {c:AC} {args:List V} {v:V} (hf:P.funcs[f]?=some fn) (hb:fn.body=some c.code) (hn:fn.ntmps=n) (hfit:c.fits n=true) (ha:args.length≤n) (hfree:V.freeL args=true)
  (h:yd cfg cf sl sp n c (argsE 0 args) S.empty (FinK cfg fn.results.toList (fun w s=>wL s w v) fun _ _=>False)):zx P cfg f args v:=by
 subst hn
 refine pureW_ok (k:=0) (sl:=sl) hc hcf (spAt_ok hsp) hf hb hfree ?_
 exact runC_ok c _ _ _ hfit h [] (initT args fn.ntmps) _ (wV _ _ ha) (has_args _ _ ha) fun e E' tm' s' h1 h2 h3=>fin_ok h2 h3

/-- A function that may change the store. -/
theorem spec_of {P:Program} (hc:cfg.Ok P) {n:Nat} (hcf:wv P cfg cf) (hsp:∀f e,(f,e)∈sp→tR P cfg f e) {f:FuncId} {fn:Func} {c:AC} {se:SpE} (hf:P.funcs[f]?=some fn) (hname:(fn.name == "runtime.NumGoroutine")=false) (hb:fn.body=some c.code) (hn:fn.ntmps=n) (hfit:c.fits n=true)
  (h:∀args s,se.D args s→s.wf→args.length≤n∧yd cfg cf sl sp n c (argsE 0 args) s (FinK cfg fn.results.toList (se.R args s) (se.RP args s))):tR P cfg f se:=by
 subst hn
 intro x args cargs hg hx ha hD
 have hw:x.s.wf:=fun i hi=>by
  cases ho:x.s.get i with
  | none=>rfl
  | some o=>have:=hx.lt i (hx.live i o ho).1; omega
 obtain ⟨hlen,h⟩:=h args x.s hD hw
 refine ⟨⟨fn,c.code,hf,hb,hname⟩,callW_ok (k:=0) (sl:=sl) hc hcf (spAt_ok hsp) hf hb hg hx ha ?_⟩
 exact runC_ok c _ _ _ hfit h [] (initT args fn.ntmps) _ (wV _ _ hlen) (has_args _ _ hlen) fun e E' tm' s' h1 h2 h3=>fin_ok h2 h3

end
end
end Go.Proofs.YtchlfjhbijmdiaaGreatDoor.Ai

