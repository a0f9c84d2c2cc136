/- Part of a reckoning of a Go program over abstract values, proved sound against the model. -/
import Derived.Test.YtchlfjhbijmdiaaGreatDoorAiD3
import Derived.Test.YtchlfjhbijmdiaaGreatDoorAiS1
set_option linter.unusedSimpArgs false
set_option linter.unusedVariables false
namespace Go.Proofs.YtchlfjhbijmdiaaGreatDoor.Ai
noncomputable section
open Go.RowKit (Below)
set_option maxRecDepth 100000

/-! runs with several outcomes -/
def yp (n:Nat) (r:Option R) (K:V→S→Prop) (KP:List AP→S→Prop):Prop:=match r with
 | some (.val v s')=>n≤s'.next∧K v s'
 | some (.pan ch s')=>n≤s'.next∧KP ch s'
 | _=>False

abbrev Sp:=FuncId→List V→S→(V→S→Prop)→(List AP→S→Prop)→Prop
def Ent (P:Program) (f:FuncId):Prop:=∃fn c,P.funcs[f]?=some fn∧fn.body=some c∧(fn.name == "runtime.NumGoroutine")=false
def EndW (x:Cx) (K:V→S→Prop) (KP:List AP→S→Prop) (y:Cx):Ending→Prop
 | .returned c=>∃v s',Went x x.s.next s' y∧x.s.next≤s'.next∧Rep y v c∧K v s'
 | .panicked d=>∃ch s',Went x x.s.next s' y∧x.s.next≤s'.next∧PRep y ch d∧KP ch s'
 | .outgrown=>False
def SpOk (P:Program) (cfg:Cfg) (sp:Sp):Prop:=∀(x:Cx) (f:FuncId) (args:List V) (cargs:List Value) (K:V→S→Prop) (KP:List AP→S→Prop),GOk cfg x→Rel x→RepL x args cargs→sp f args x.s K KP →
 Ent P f∧Calls P f cargs.toArray x.w fun E w'=>∃y:Cx,y.w=w'∧EndW x K KP y E
section
variable (cfg:Cfg) (cf:CF) (sl:Bool) (sp:Sp)
def CallW (c:Call) (tm:List V) (s:S) (K:V→S→Prop) (KP:List AP→S→Prop):Prop :=
 ∃fo g first cap args,c.callee=.value fo∧ev cfg tm fo=some (.func (.func g) first cap)∧evL cfg tm c.args.toList=some args∧sp g (first++args++cap) s K KP
/-- It is not known whether a slice without elements is nil. -/
def NilW (o:Oper) (tm:List V) (s:S) (K:V→S→Prop):Prop :=
 ∃op t x y u a e,o.op=.binOp op t x y u∧(op=.eql∨op=.neq)∧cfg.ty t=some a∧a.und=.slice e∧((ev cfg tm x=some (.list [])∧ev cfg tm y=some .nils)∨(ev cfg tm x=some .nils∧ev cfg tm y=some (.list [])))∧∀b,K (.bool b) s
def OpW (o:Oper) (tm:List V) (s:S) (K:V→S→Prop) (KP:List AP→S→Prop):Prop :=
 yp s.next (yS cfg cf sl s.next o tm s) K KP∨(∃c,o.op=.call c∧CallW cfg sp c tm s K KP)∨NilW cfg o tm s K

def WOps (ops:Array Oper):List Oper→Fr→S→(AX→Fr→S→Prop)→Prop
 | [],fr,s,Q=>Q .normal fr s
 | o::l,fr,s,Q =>
  if yk ops o fr.tmps then OpW cfg cf sl sp o fr.tmps s (fun v s'=>WOps ops l (fr.put o.dst v) s' Q) (fun ch s'=>Q (.pan ch) fr s')
  else WOps ops l (fr.put o.dst yc) s Q

def WI (body:Fr→S→(AX→Fr→S→Prop)→Prop):Nat→Fr→S→(AX→Fr→S→Prop)→Prop
 | 0,_,_,_=>False
 | n+1,fr,s,Q=>body fr s fun e fr' s'=>match e with
  | .normal=>WI body n fr' s' Q
  | e=>Q e fr' s'

def W:Code→Fr→S→(AX→Fr→S→Prop)→Prop
 | .skip,fr,s,Q=>Q .normal fr s
 | .label _,fr,s,Q=>Q .normal fr s
 | .region _ ops false,fr,s,Q=>WOps cfg cf sl sp ops ops.toList fr s Q
 | .region _ ops true,fr,s,Q=>yg cfg ops=true∧∃fr' s',vG cfg cf sl ops fr s=some (fr',s')∧Q .normal fr' s'
 | .seq a b,fr,s,Q=>W a fr s fun e fr' s'=>match e with
  | .normal=>W b fr' s' Q
  | e=>Q e fr' s'
 | .cond c x y,fr,s,Q=>match ev cfg fr.tmps c with
  | some (.bool true)=>W x fr s Q
  | some (.bool false)=>W y fr s Q
  | _=>False
 | .block id c,fr,s,Q=>W c fr s fun e fr' s'=>match e with
  | .exit j=>if j=id then Q .normal fr' s' else Q (.exit j) fr' s'
  | e=>Q e fr' s'
 | .loop c,fr,s,Q=>∃n,WI (W c) n fr s Q
 | .scope c,fr,s,Q=>W c fr s Q
 | .exit id,fr,s,Q=>Q (.exit id) fr s
 | .ret,fr,s,Q=>Q .ret fr s
 | _,_,_,_=>False
end

section
variable {P:Program} {cfg:Cfg} {cf:CF} {sl:Bool} {sp:Sp} {n:Nat}

theorem enter_W {x:Cx} {o:Oper} {a:Act} {next:Act→World→Prop} {Q:Exit→Act→World→Prop} {g:FuncId} {cargs:List Value} {K:V→S→Prop} {KP:List AP→S→Prop} (he:Ent P g)
  (hrun:(execOp a.eval o).run P x.w=(callFunc g cargs.toArray).run P x.w) (hC:Calls P g cargs.toArray x.w fun E w'=>∃y:Cx,y.w=w'∧EndW x K KP y E)
  (hk:∀y v c s',Went x x.s.next s' y→x.s.next≤s'.next→Rep y v c→K v s'→next (a.put o.dst c) y.w) (hp:∀y ch d s',Went x x.s.next s' y→x.s.next≤s'.next→PRep y ch d→KP ch s'→Q (.panic d) a y.w):o.wp P a x.w next Q:=by
 obtain ⟨fn,c,h1,h2,h3⟩:=he
 have h3':fn.name≠ "runtime.NumGoroutine":=by simpa using h3
 have hent:(callFunc g cargs.toArray).run P x.w=.ok (.enter g cargs.toArray) x.w:=by simp [callFunc,h1,h3',h2]
 unfold Oper.wp
 rw [hrun,hent,Oper.upon_enter]
 refine hC.mono ?_
 rintro E w' ⟨y,rfl,hy⟩
 cases E with
 | returned c=>obtain ⟨v,s',k1,k2,k3,k4⟩:=hy; exact hk y v c s' k1 k2 k3 k4
 | panicked d=>obtain ⟨ch,s',k1,k2,k3,k4⟩:=hy; exact hp y ch d s' k1 k2 k3 k4
 | outgrown=>exact hy.elim

theorem opW_ok (hc:cfg.Ok P) (hcf:wv P cfg cf) (hsp:SpOk P cfg sp) {x:Cx} {o:Oper} {a:Act} {next:Act→World→Prop} {Q:Exit→Act→World→Prop} (hg:GOk cfg x) (hx:Rel x) {tm:List V} (ht:RepL x tm a.tmps.toList) {K:V→S→Prop} {KP:List AP→S→Prop}
  (h:OpW cfg cf sl sp o tm x.s K KP) (hk:∀y v c s',Went x x.s.next s' y→x.s.next≤s'.next→Rep y v c→K v s'→next (a.put o.dst c) y.w) (hp:∀y ch d s',Went x x.s.next s' y→x.s.next≤s'.next→PRep y ch d→KP ch s'→Q (.panic d) a y.w) :
  o.wpIn (FW none) n P a x.w next Q:=by
 have hn:¬x.K x.s.next:=fun h=>Nat.lt_irrefl _ (hx.lt _ h)
 rcases h with h | ⟨c,hop,fo,g,first,cap,args,hcal,hev,hargs,h⟩ | ⟨op,t,p,q,u,b,e,hop,heq,hty,hund,hvals,h⟩
 ·unfold yp at h
  split at h
  ·rename_i v s' hd
   refine vX hc hcf hg hx hn ht (.inl rfl) hd ?_
   intro y c hw hv
   exact hk y v c s' hw h.1 hv h.2
  ·rename_i ch s' hd
   refine vX hc hcf hg hx hn ht (.inl rfl) hd ?_
   intro y d hw hv
   exact hp y ch d s' hw h.1 hv h.2
  ·exact h.elim
 ·refine wpIn_of_wp ?_ (.inl rfl)
  have ha:=uZ (P:=P) hg ht hargs
  have hfr:=xo (P:=P) hg ht hev
  have hexec:execOp a.eval o=(do let d ← resolve a.eval c o.type; invoke d.target d.args):=by
   simp only [execOp,hop]
  generalize hfo:a.eval fo=F at hfr
  cases hfr with
  | func _ hA hB =>
   rename_i A B
   have hall:=(hA.append ha).append hB
   obtain ⟨h1,h2⟩:=hsp x g _ _ K KP hg hx hall h
   refine enter_W h1 ?_ h2 hk hp
   have hargs':(A++c.args.map a.eval++B)=(A.toList++c.args.toList.map a.eval++B.toList).toArray:=by simp
   rw [hexec,← hargs']
   simp only [resolve,hcal,hfo,Deferred.ofValue,invoke,Sem.run_bind,Sem.run_pure,Result.andThen_ok]
 ·refine wpIn_of_wp ?_ (.inl rfl)
  have hu:=(hc.ty _ _ hty).und
  rw [hund] at hu
  have key:∀(A B:Option Addr) (i j k l:Nat),A=none∨B=none→a.eval p=.slice A i j→a.eval q=.slice B k l→o.wp P a x.w next Q:=by
   intro A B i j k l hAB h1 h2
   have hr:∃r,(Op.equal t (.slice A i j) (.slice B k l)).run P x.w=.ok r x.w:=by
    refine ⟨A.isNone && B.isNone,?_⟩
    have hm:∀m,(Op.equalIn (m+1) t (.slice A i j) (.slice B k l)).run P x.w=.ok (A.isNone && B.isNone) x.w:=by
     intro m
     simp only [Op.equalIn,Sem.run_bind,run_underlying hu,Result.andThen_ok]
     cases A <;> cases B <;> first | rfl | simp at hAB
    exact hm 9999
   obtain ⟨r,hr⟩:=hr
   have hg1:(eqGuard op t p q (.slice A i j) (.slice B k l)).run P x.w=.ok () x.w:=by
    rw [eqGuard_at_slice]; rfl
   have hb:∃r',(binOp op t (.slice A i j) (.slice B k l)).run P x.w=.ok (.bool r') x.w:=by
    rcases heq with rfl | rfl
    ·refine ⟨r,?_⟩
     have:binOp .eql t (.slice A i j) (.slice B k l)=(do pure (.bool (← Op.equal t (.slice A i j) (.slice B k l))):Sem Value):=rfl
     rw [this]; simp only [Sem.run_bind,hr,Result.andThen_ok,Sem.run_pure]
    ·refine ⟨!r,?_⟩
     have:binOp .neq t (.slice A i j) (.slice B k l)=(do pure (.bool (!(← Op.equal t (.slice A i j) (.slice B k l)))):Sem Value):=rfl
     rw [this]; simp only [Sem.run_bind,hr,Result.andThen_ok,Sem.run_pure]
   obtain ⟨r',hb⟩:=hb
   refine wp_val (c:=.bool r') (w':=x.w) ?_ (hk x (.bool r') (.bool r') x.s (.same hx _) (Nat.le_refl _) (.bool r') (h r'))
   have h3:((do eqGuard op t p q (a.eval p) (a.eval q); binOp op t (a.eval p) (a.eval q)):Sem Value).run P x.w=.ok (.bool r') x.w:=by
    rw [h1,h2]
    simp only [Sem.run_bind,hg1,Result.andThen_ok,hb]
   simp only [execOp,hop]; rw [Sem.run_bind,h3]; rfl
  rcases hvals with ⟨h1,h2⟩ | ⟨h1,h2⟩
  ·have r1:=xo (P:=P) hg ht h1
   have r2:=xo (P:=P) hg ht h2
   generalize hv1:a.eval p=v1 at r1
   generalize hv2:a.eval q=v2 at r2
   cases r2
   cases r1 with
   | list b o cap sz hh hl hcap he=>exact key _ _ _ _ _ _ (.inr rfl) hv1 hv2
   | lempty A cap=>exact key _ _ _ _ _ _ (.inr rfl) hv1 hv2
  ·have r1:=xo (P:=P) hg ht h1
   have r2:=xo (P:=P) hg ht h2
   generalize hv1:a.eval p=v1 at r1
   generalize hv2:a.eval q=v2 at r2
   cases r1
   cases r2 with
   | list b o cap sz hh hl hcap he=>exact key _ _ _ _ _ _ (.inl rfl) hv1 hv2
   | lempty A cap=>exact key _ _ _ _ _ _ (.inl rfl) hv1 hv2
end
end
end Go.Proofs.YtchlfjhbijmdiaaGreatDoor.Ai

namespace Go.Proofs.YtchlfjhbijmdiaaGreatDoor.Ai
noncomputable section
open Go.RowKit (Below)
set_option maxRecDepth 100000
section
variable {P:Program} {cfg:Cfg} {cf:CF} {sl:Bool} {sp:Sp} {n:Nat}

theorem wOps_ok (hc:cfg.Ok P) (hcf:wv P cfg cf) (hsp:SpOk P cfg sp) {ops:Array Oper} {Q:Exit→Act→World→Prop} {Q':AX→Fr→S→Prop}:∀(l:List Oper) (k:Nat),ops.toList.drop k=l→∀(x:Cx) (a:Act) (fr:Fr),GOk cfg x→Rel x→FRep x fr a →
  WOps cfg cf sl sp ops l fr x.s Q'→(∀e fr' s',Q' e fr' s'→Then x Q e fr' s')→wpOpsIn (FW none) n P ops Q (List.range' k l.length) a x.w
 | [],k,hk,x,a,fr,hg,hx,hf,h,hq=>hq _ _ _ h x .normal a (.refl hx) trivial hf
 | o::rest,k,hk,x,a,fr,hg,hx,hf,h,hq=>by
  have ho:ops[k]?=some o:=by
   rw [← Array.getElem?_toList]
   have:(ops.toList.drop k)[0]?=some o:=by rw [hk]; rfl
   simpa [List.getElem?_drop] using this
  have hk':ops.toList.drop (k+1)=rest:=by
   rw [← List.drop_drop,hk]; rfl
  simp only [List.length_cons,List.range'_succ,wpOpsIn,ho,tl hf.tmps]
  unfold WOps at h
  split at h
  ·rename_i hw
   rw [if_pos hw]
   refine opW_ok hc hcf hsp hg hx hf.tmps h ?_ ?_
   ·intro y v c s' hwent hnx hv hk2
    have hgr:=hwent.grew hnx
    have hys:=hgr.s
    subst hys
    exact wOps_ok hc hcf hsp rest (k+1) hk' y _ _ (hg.mono hgr.le) hgr.rel ((hf.mono hgr.le).put hv o.dst) hk2 fun e fr' s' h=>(hq e fr' s' h).after hgr
   ·intro y ch d s' hwent hnx hpr hk2
    exact hq _ _ _ hk2 y (.panic d) a (hwent.grew hnx) hpr (hf.mono hwent.le)
  ·rename_i hw
   rw [if_neg hw]
   exact ⟨fun _ _=>trivial,wOps_ok hc hcf hsp rest (k+1) hk' x _ _ hg hx (hf.put (xA x) o.dst) h hq⟩

theorem wI_ok {c:Code} (ihc:∀(x:Cx) (a:Act) (fr:Fr) (Q':AX→Fr→S→Prop) (Q:Exit→Act→World→Prop),GOk cfg x→Rel x→FRep x fr a→W cfg cf sl sp c fr x.s Q'→(∀e fr' s',Q' e fr' s'→Then x Q e fr' s')→c.wpIn (FW none) n P Q a x.w) :
  ∀(m:Nat) (x:Cx) (a:Act) (fr:Fr) (Q':AX→Fr→S→Prop) (Q:Exit→Act→World→Prop),GOk cfg x→Rel x→FRep x fr a→WI (W cfg cf sl sp c) m fr x.s Q'→(∀e fr' s',Q' e fr' s'→Then x Q e fr' s')→Code.roundsIn (FW none) n P c Q m a x.w:=by
 intro m
 induction m with
 | zero=>intro x a fr Q' Q _ _ _ h; exact h.elim
 | succ m ih =>
  intro x a fr Q' Q hg hx hf h hq
  rw [roundsIn_succ]
  refine ihc x a fr _ _ hg hx hf h fun e fr' s' he y E a' hgr ho hf'=>?_
  cases E with
  | normal =>
   cases e <;> try exact ho.elim
   have hs:=hgr.s
   subst hs
   exact ih y a' fr' Q' Q (hg.mono hgr.le) hgr.rel hf' he fun e fr' s' h=>(hq e fr' s' h).after hgr
  | _ =>
   cases e <;> first
    | exact ho.elim
    | exact hq _ _ _ he y _ a' hgr ho hf'

theorem w_ok (hc:cfg.Ok P) (hcf:wv P cfg cf) (hsp:SpOk P cfg sp):∀(c:Code) (x:Cx) (a:Act) (fr:Fr) (Q':AX→Fr→S→Prop) (Q:Exit→Act→World→Prop),GOk cfg x→Rel x→FRep x fr a →
  W cfg cf sl sp c fr x.s Q'→(∀e fr' s',Q' e fr' s'→Then x Q e fr' s')→c.wpIn (FW none) n P Q a x.w:=by
 intro c
 induction c with
 | skip=>intro x a fr Q' Q hg hx hf h hq; exact wpIn_skip (hq _ _ _ h x .normal a (.refl hx) trivial hf)
 | label l=>intro x a fr Q' Q hg hx hf h hq; exact wpIn_label (hq _ _ _ h x .normal a (.refl hx) trivial hf)
 | region id ops draw =>
  intro x a fr Q' Q hg hx hf h hq
  cases draw with
  | true =>
   obtain ⟨hd,fr1,s1,hr,hQ⟩:=h
   exact uC (ro:=none) (lr:=none) hc hcf hd hg hx hf trivial hr (hq _ _ _ hQ)
  | false =>
   refine wpIn_region ?_
   have:=wOps_ok (n:=n) hc hcf hsp ops.toList 0 (by simp) x a fr hg hx hf h hq
   rw [List.range_eq_range']
   simpa using this
 | seq c d ihc ihd =>
  intro x a fr Q' Q hg hx hf h hq
  refine wpIn_seq (ihc x a fr _ _ hg hx hf h fun e fr' s' he y E a' hgr ho hf'=>?_)
  cases E with
  | normal =>
   cases e <;> try exact ho.elim
   have hs:=hgr.s
   subst hs
   exact ihd y a' fr' Q' Q (hg.mono hgr.le) hgr.rel hf' he fun e fr' s' h=>(hq e fr' s' h).after hgr
  | _ =>
   cases e <;> first
    | exact ho.elim
    | exact hq _ _ _ he y _ a' hgr ho hf'
 | cond p c d ihc ihd =>
  intro x a fr Q' Q hg hx hf h hq
  unfold W at h
  split at h
  ·rename_i hv
   have hr:=xo (P:=P) hg hf.tmps hv
   generalize hcv:a.eval p=cv at hr
   cases hr
   exact wpIn_cond_true hcv (ihc x a fr Q' Q hg hx hf h hq)
  ·rename_i hv
   have hr:=xo (P:=P) hg hf.tmps hv
   generalize hcv:a.eval p=cv at hr
   cases hr
   exact wpIn_cond_false hcv (ihd x a fr Q' Q hg hx hf h hq)
  ·exact h.elim
 | block id c ih =>
  intro x a fr Q' Q hg hx hf h hq
  refine wpIn_block (ih x a fr _ _ hg hx hf h fun e fr' s' he y E a' hgr ho hf'=>?_)
  cases E with
  | exit j =>
   cases e <;> try exact ho.elim
   simp only [Out] at ho
   subst ho
   simp only [Exit.inBlock]
   split
   ·rename_i hj
    simp only [if_pos hj] at he
    exact hq _ _ _ he y .normal a' hgr trivial hf'
   ·rename_i hj
    simp only [if_neg hj] at he
    exact hq _ _ _ he y (.exit _) a' hgr rfl hf'
  | _ =>
   cases e <;> first
    | exact ho.elim
    | exact hq _ _ _ he y _ a' hgr ho hf'
 | loop c ih =>
  intro x a fr Q' Q hg hx hf h hq
  obtain ⟨m,h⟩:=h
  exact wpIn_loop_rounds m (wI_ok ih m x a fr Q' Q hg hx hf h hq)
 | exit id=>intro x a fr Q' Q hg hx hf h hq; exact wpIn_exit (hq _ _ _ h x (.exit _) a (.refl hx) rfl hf)
 | ret=>intro x a fr Q' Q hg hx hf h hq; exact wpIn_ret (hq _ _ _ h x .ret a (.refl hx) trivial hf)
 | scope c ih =>
  intro x a fr Q' Q hg hx hf h hq
  refine xQ (ih x a fr _ _ hg hx hf h fun e fr' s' he y E a' hgr ho hf'=>?_)
  cases E with
  | goto l=>cases e <;> exact ho.elim
  | _=>exact hq _ _ _ he y _ a' hgr ho hf'
 | _=>intro x a fr Q' Q hg hx hf h hq; exact h.elim
end
end
end Go.Proofs.YtchlfjhbijmdiaaGreatDoor.Ai

namespace Go.Proofs.YtchlfjhbijmdiaaGreatDoor.Ai
noncomputable section
open Go.RowKit (Below)
set_option maxRecDepth 100000
section
variable {P:Program} {cfg:Cfg} {cf:CF} {sl:Bool} {sp:Sp}

/-- How a function ends, with its deferred calls. -/
def FinW (cfg:Cfg) (cf:CF) (k:Nat) (fn:Func) (K:V→S→Prop) (KP:List AP→S→Prop) (e:AX) (fr:Fr) (s:S):Prop :=
 ∃u s2 u2,tz e=some u∧leave cfg cf k fr.dfs s u=some (s2,u2)∧match u2 with
  | .ret=>∃vs,resV cfg s2 fr.tmps fn.results.toList=some vs∧K (tupV vs) s2
  | .pan ch=>KP ch s2

theorem callW_ok (hc:cfg.Ok P) (hcf:wv P cfg cf) (hsp:SpOk P cfg sp) {k:Nat} {f:FuncId} {fn:Func} {c:Code} (hf:P.funcs[f]?=some fn) (hb:fn.body=some c) {x:Cx} {args:List V} {cargs:List Value} (hg:GOk cfg x) (hx:Rel x) (ha:RepL x args cargs)
  {K:V→S→Prop} {KP:List AP→S→Prop} (h:W cfg cf sl sp c ⟨initT args fn.ntmps,[]⟩ x.s (FinW cfg cf k fn K KP)):Calls P f cargs.toArray x.w fun E w'=>∃y:Cx,y.w=w'∧EndW x K KP y E:=by
 have hfr:FRep x ⟨initT args fn.ntmps,[]⟩ { tmps:=cargs.toArray++Array.replicate (fn.ntmps - cargs.toArray.size) undef,defers:=[] }:=by
  refine ⟨?_,.nil⟩
  have:=ha.append (RepL.replicate (xA x) (fn.ntmps - args.length))
  unfold initT
  rw [ha.length] at this ⊢
  simpa using this
 refine callsIn_wide.1 (callsIn_of_wp_marks (F:=Fence.wide) (n:=0) hf hb trivial (w_ok hc hcf hsp c x _ _ _ _ hg hx hfr h fun e fr s1 hq y E a' hgr ho hfy=>?_))
 obtain ⟨u,s2,u2,hu,hl,hend⟩:=hq
 have hys:=hgr.s
 subst hys
 have hgy:=hg.mono hgr.le
 have went:∀{z:Cx} {s2:S},Grew y s2 z→Went x x.s.next s2 z∧x.s.next≤s2.next:=fun {z s2} hz=>by
  have:=hgr.trans hz
  exact ⟨⟨this.le,this.rel,this.s,fun i hi=>(this.grow i hi).elim .inl fun h=>.inr (.inr h)⟩,this.next⟩
 have fin:∀m,MRep y u m→LeavesInM Fence.wide 0 P fn a'.tmps (fun E w'=>∃y:Cx,y.w=w'∧EndW x K KP y E) a'.defers m y.w:=by
  intro m hm
  refine tA hc hcf fr.dfs a'.defers y s2 u u2 m hgy hgr.rel hfy.dfs hm hl fun z m' hz hm'=>?_
  have hzs:=hz.s
  subst hzs
  cases u2 with
  | ret =>
   cases m' <;> try exact hm'.elim
   obtain ⟨vs,hres,hK⟩:=hend
   obtain ⟨v,hr,hv⟩:=results_ok hc hz.rel (hfy.tmps.mono hz.le) hres
   obtain ⟨w1,w2⟩:=went hz
   exact ⟨v,hr,z,rfl,_,_,w1,w2,hv,hK⟩
  | pan ch =>
   cases m' <;> try exact hm'.elim
   obtain ⟨w1,w2⟩:=went hz
   exact ⟨z,rfl,_,_,w1,w2,hm',hend⟩
 cases e with
 | normal =>
  cases E <;> try exact ho.elim
  simp only [tz,Option.some.injEq] at hu
  subst hu
  exact fin .returning trivial
 | ret =>
  cases E <;> try exact ho.elim
  simp only [tz,Option.some.injEq] at hu
  subst hu
  exact fin .returning trivial
 | pan ch =>
  cases E <;> try exact ho.elim
  simp only [tz,Option.some.injEq] at hu
  subst hu
  exact fin (.panicking _) ho
 | exit j =>
  simp [tz] at hu

/-- What a function's own run gives, when it is run alone. -/
theorem pureW_ok (hc:cfg.Ok P) (hcf:wv P cfg cf) (hsp:SpOk P cfg sp) {k:Nat} {f:FuncId} {fn:Func} {c:Code} (hf:P.funcs[f]?=some fn) (hb:fn.body=some c) {args:List V} {v:V} (hfree:V.freeL args=true)
  (h:W cfg cf sl sp c ⟨initT args fn.ntmps,[]⟩ S.empty (FinW cfg cf k fn (fun w s=>see tV s w=some v∧v.free=true) fun _ _=>False)):zx P cfg f args v:=by
 intro x cargs hg hx ha
 have hroom:∀b,x.no b→b<x.w.heap.size:=fun b hb=>hb.elim (hx.room b) hx.own_lt
 have hle:∀b,(x.alone x.no).no b→x.no b:=fun b hb=>alone_no x _ b hb
 refine (callW_ok (x:=x.alone x.no) hc hcf hsp hf hb (alone_gok hc hg fun _ h=>h) (alone_rel hroom) (ha.free (x:=x) (x':=x.alone x.no) rfl hle hfree) h).mono ?_
 rintro E w' ⟨y,rfl,he⟩
 cases E with
 | returned cv =>
  obtain ⟨w,s',hw,_,hr,hsee,hfr⟩:=he
  refine ⟨{ x with w:=y.w },cv,rfl,tO hw.le,uw hx hw.le,rfl,rfl,rfl,?_⟩
  have hs:=hw.s
  subst hs
  refine (see_ok (x:=y) (x':={ x with w:=y.w }) hw.rel rfl (fun b hb=>?_) tV).1 _ _ _ hr hsee hfr
  have hB:y.B b:=by rw [hw.le.B]; exact hb
  refine ⟨.inl hB,?_⟩
  rintro ⟨i,o,hi,rfl⟩
  exact hw.rel.apart i o hi hB
 | panicked d=>obtain ⟨ch,s',_,_,_,h⟩:=he; exact h.elim
 | outgrown=>exact he.elim
end
end
end Go.Proofs.YtchlfjhbijmdiaaGreatDoor.Ai

