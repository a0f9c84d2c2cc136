/- Part of a reckoning of a Go program over abstract values, proved sound against the model. -/
import Derived.Test.YtchlfjhbijmdiaaGreatDoorAiC9
import Derived.Recover
set_option linter.unusedSimpArgs false
set_option linter.unusedVariables false
namespace Go.Proofs.YtchlfjhbijmdiaaGreatDoor.Ai

section
variable {P:Program} {cfg:Cfg} {cf:CF} {x:Cx}

/-! results -/
def resF (tmps:Array Value):ResultVar→Sem Value
 | .tmp t=>pure (tmps.getD t undef)
 | .cell a t=>do loadVar t (← asAddr (tmps.getD a undef))

theorem getD_rep {tmps:List V} {T:Array Value} (h:RepL x tmps T.toList) {t:Nat} {v:V} (hv:tmps[t]?=some v):Rep x v (T.getD t undef):=by
 obtain ⟨c,hc,hr⟩:=h.get t v hv
 rw [Array.getElem?_toList] at hc
 simpa [hc] using hr

theorem resV_ok (hc:cfg.Ok P) (hx:Rel x) {tmps:List V} {T:Array Value} (ht:RepL x tmps T.toList):∀{rs:List ResultVar} {vs:List V},resV cfg x.s tmps rs=some vs →
  ∃cs,(rs.mapM (resF T)).run P x.w=.ok cs x.w∧RepL x vs cs
 | [],vs,h=>by
  simp only [resV,Option.some.injEq] at h; subst h
  exact ⟨[],by simp,.nil⟩
 | .tmp t::l,vs,h=>by
  simp only [resV] at h
  split at h
  ·rename_i v r h1 h2
   injection h with h; subst h
   obtain ⟨cs,h3,h4⟩:=resV_ok hc hx ht h2
   exact ⟨T.getD t undef::cs,by simp only [List.mapM_cons,resF,Sem.run_bind,Sem.run_pure,Result.andThen_ok,h3],.cons (getD_rep ht h1) h4⟩
  ·cases h
 | .cell a t::l,vs,h=>by
  simp only [resV] at h
  split at h
  ·rename_i p i r h1 hi h2
   split at h
   ·rename_i v hv
    injection h with h; subst h
    obtain ⟨cs,h3,h4⟩:=resV_ok hc hx ht h2
    obtain ⟨c,h5,h6⟩:=aLoad_var (P:=P) hx (hc.ty _ _ hi) (getD_rep ht h1) hv
    refine ⟨c::cs,?_,.cons h6 h4⟩
    simp only [List.mapM_cons,resF]
    rw [Sem.run_bind,h5]
    simp only [Result.andThen_ok,Sem.run_bind,h3,Sem.run_pure]
   ·cases h
  ·cases h

theorem results_ok (hc:cfg.Ok P) (hx:Rel x) {tmps:List V} {T:Array Value} (ht:RepL x tmps T.toList) {fn:Func} {vs:List V} (h:resV cfg x.s tmps fn.results.toList=some vs) :
  ∃c,(results fn T).run P x.w=.ok c x.w∧Rep x (tupV vs) c:=by
 obtain ⟨cs,h1,h2⟩:=resV_ok hc hx ht h
 have hm:(fn.results.mapM (resF T)).run P x.w=.ok cs.toArray x.w:=by
  rw [Array.mapM_eq_mapM_toList]
  have:(List.toArray <$> (fn.results.toList.mapM (resF T)))=(do let l ← fn.results.toList.mapM (resF T); pure l.toArray):=map_eq_pure_bind _ _
  rw [this,Sem.run_bind,h1]
  simp
 have hdef:results fn T=(do let vs ← fn.results.mapM (resF T); pure (if h:vs.size=1 then vs[0] else .tuple vs)):=by
  unfold results
  congr 1
 refine ⟨if h:cs.toArray.size=1 then cs.toArray[0] else .tuple cs.toArray,?_,?_⟩
 ·rw [hdef,Sem.run_bind,hm]
  simp
 ·cases h2 with
  | nil=>exact .tup (C:=#[]) .nil
  | cons hv hl =>
   cases hl with
   | nil=>exact hv
   | cons hv' hl'=>exact .tup (C:=_) (.cons hv (.cons hv' hl'))

/-! bodies -/
theorem body_ok (hc:cfg.Ok P) (hcf:wv P cfg cf) {fuel:Nat} {f:FuncId} {args:List V} {cargs:List Value} {fn:Func} {e:AX} {fr:Fr} {s':S} (hg:GOk cfg x) (hx:Rel x) (ha:RepL x args cargs)
  (h:body cfg cf fuel f args x.s=some (fn,e,fr,s')) :
  P.funcs[f]?=some fn∧∃c,fn.body=some c∧∀Q n,Then x Q e fr s'→c.wpIn Fence.wide n P Q { tmps:=cargs.toArray++Array.replicate (fn.ntmps - cargs.toArray.size) undef,defers:=[] } x.w:=by
 unfold body at h
 split at h
 ·cases h
 rename_i fn' hfn
 split at h
 ·cases h
 rename_i c hb
 split at h
 case h_2=>cases h
 rename_i e1 fr1 s1 hex
 simp only [Option.some.injEq,Prod.mk.injEq] at h
 obtain ⟨rfl,rfl,rfl,rfl⟩:=h
 refine ⟨hc.fn f fn' hfn,c,hb,fun Q n hp=>?_⟩
 refine exec_ok (ro:=none) (lr:=none) hc hcf c (hc.draws f fn' c hfn hb) x _ _ _ _ _ Q hg hx ⟨?_,.nil⟩ trivial hex hp
 have:=ha.append (RepL.replicate (xA x) (fn'.ntmps - args.length))
 rw [ha.length] at this
 simpa [ha.length] using this

theorem run_invoke_fn (hc:cfg.Ok P) {g:FuncId} {fn:Func} (hfn:cfg.fn g=some fn) {c:Code} (hb:fn.body=some c) (cap args:Array Value) (w:World) :
  (invoke (.fn (.func g) cap) args).run P w=.ok (.enter g (args++cap)) w:=by
 have:=xv hc hfn hb (args++cap) w
 simpa [invoke] using this

theorem body_fn {fuel:Nat} {f:FuncId} {args:List V} {fn:Func} {e:AX} {fr:Fr} {s s':S} (h:body cfg cf fuel f args s=some (fn,e,fr,s')):cfg.fn f=some fn:=by
 unfold body at h
 split at h
 ·cases h
 rename_i fn' hfn
 split at h
 ·cases h
 split at h
 case h_2=>cases h
 simp only [Option.some.injEq,Prod.mk.injEq] at h
 obtain ⟨rfl,_⟩:=h
 exact hfn

/-! recovering -/
def MRep (x:Cx):AM→FrameMode→Prop
 | .ret,.returning=>True
 | .pan ch,.panicking d=>PRep x ch d
 | _,_=>False

theorem MRep.mono {y:Cx} (h:x.le y) {u:AM} {m:FrameMode} (hm:MRep x u m):MRep y u m:=by
 cases u <;> cases m <;> first | exact trivial | exact PRep.mono h hm | exact hm.elim

theorem MRep.ne {u:AM} {m:FrameMode} (hm:MRep x u m):m≠.run:=by
 intro e; subst e
 cases u <;> exact hm.elim

theorem PRep.cons_inv {p:AP} {ch:List AP} {d:List PanicEntry} (h:PRep x (p::ch) d):∃q d',d=q::d'∧Rep x p.v q.v∧q.recovered=p.rcv∧q.goexit=false∧PRep x ch d':=by
 obtain ⟨h1,h2⟩:=h
 cases d with
 | nil=>simp at h1
 | cons q d' =>
  obtain ⟨q',hq,h3,h4,h5⟩:=h2 0 p rfl
  simp only [List.getElem?_cons_zero,Option.some.injEq] at hq
  subst hq
  exact ⟨q,d',rfl,h3,h4,h5,by simpa using h1,fun j p' hj=>h2 (j+1) p' (by simpa using hj)⟩

theorem PRep.cons {p:AP} {q:PanicEntry} {ch:List AP} {d:List PanicEntry} (h1:Rep x p.v q.v) (h2:q.recovered=p.rcv) (h3:q.goexit=false) (h:PRep x ch d):PRep x (p::ch) (q::d):=by
 refine ⟨by simp [h.1],fun j p' hj=>?_⟩
 cases j with
 | zero =>
  simp only [List.getElem?_cons_zero,Option.some.injEq] at hj
  subst hj
  exact ⟨q,rfl,h1,h2,h3⟩
 | succ j=>exact h.2 j p' (by simpa using hj)

theorem PRep.append {ch ch':List AP} {d d':List PanicEntry} (h:PRep x ch d) (h':PRep x ch' d'):PRep x (ch++ch') (d++d'):=by
 induction ch generalizing d with
 | nil =>
  have:d=[]:=by have:=h.1; simpa using this.symm
  subst this; exact h'
 | cons p ch ih =>
  obtain ⟨q,d1,rfl,h1,h2,h3,h4⟩:=h.cons_inv
  exact (ih h4).cons h1 h2 h3

theorem PRep.none_exit {ch:List AP} {d:List PanicEntry} (h:PRep x ch d):d.dropWhile (fun q=>!q.goexit)=[]:=by
 induction ch generalizing d with
 | nil =>
  have:d=[]:=by have:=h.1; simpa using this.symm
  subst this; rfl
 | cons p ch ih =>
  obtain ⟨q,d1,rfl,h1,h2,h3,h4⟩:=h.cons_inv
  rw [List.dropWhile_cons_of_pos (by simp [h3]),ih h4]

theorem MRep.settle {u:AM} {m:FrameMode} (hm:MRep x u m):MRep x (aSettle u) (Go.settle m):=by
 cases u with
 | ret=>cases m <;> first | exact trivial | exact hm.elim
 | pan ch =>
  cases m with
  | panicking d =>
   cases ch with
   | nil =>
    have:d=[]:=by have:=hm.1; simpa using this.symm
    subst this; exact hm
   | cons p ch =>
    obtain ⟨q,d1,rfl,h1,h2,h3,h4⟩:=PRep.cons_inv hm
    obtain ⟨v,r,g⟩:=q
    simp only at h2 h3
    subst h2 h3
    have h5:=h4.none_exit
    obtain ⟨pv,pr⟩:=p
    cases pr with
    | true =>
     simp only [aSettle,Go.settle,h5,if_true]
     exact trivial
    | false=>exact hm
  | _=>exact hm.elim

theorem MRep.raised {u:AM} {m:FrameMode} (hm:MRep x u m) {ch:List AP} {d:List PanicEntry} (h:PRep x ch d):MRep x (aRaised u ch) (Go.raised m d):=by
 cases u with
 | ret=>cases m <;> first | exact h | exact hm.elim
 | pan ch'=>cases m <;> first | exact h.append hm | exact hm.elim

theorem recover_ok {u:AM} {m:FrameMode} (hm:MRep x u m) (c₀:Frame) (cs₀:List Frame) :
  (∃v m',recoverD ({ c₀ with mode:=m }::cs₀)=some (v,{ c₀ with mode:=m' }::cs₀)∧Rep x (uy u).1 v∧MRep x (uy u).2 m') ∨
  (recoverD ({ c₀ with mode:=m }::cs₀)=none∧Rep x (uy u).1 .nilIface∧MRep x (uy u).2 m):=by
 cases u with
 | ret=>cases m <;> first | exact .inr ⟨rfl,.nili,trivial⟩ | exact hm.elim
 | pan ch =>
  cases m with
  | panicking d =>
   cases ch with
   | nil =>
    have:d=[]:=by have:=hm.1; simpa using this.symm
    subst this; exact .inr ⟨rfl,.nili,hm⟩
   | cons p ch =>
    obtain ⟨q,d1,rfl,h1,h2,h3,h4⟩:=PRep.cons_inv hm
    obtain ⟨v,r,g⟩:=q
    simp only at h1 h2 h3
    subst h2 h3
    obtain ⟨pv,pr⟩:=p
    cases pr with
    | true=>exact .inr ⟨rfl,.nili,hm⟩
    | false=>exact .inl ⟨v,_,rfl,h1,PRep.cons (p:=⟨pv,true⟩) h1 rfl rfl h4⟩
  | _=>exact hm.elim

/-- What must hold after a piece of code of a deferred call. -/
def ThenS (x:Cx) (c₀:Frame) (cs₀:List Frame) (Q:Exit→Act→List Frame→World→Prop) (e:AX) (fr':Fr) (s':S) (u':AM):Prop :=
 ∀y E a' m,Grew x s' y→Out y e E→FRep y fr' a'→MRep y u' m→Q E a' ({ c₀ with mode:=m }::cs₀) y.w

theorem ThenS.after {y:Cx} {s:S} {c₀:Frame} {cs₀:List Frame} {Q:Exit→Act→List Frame→World→Prop} {e:AX} {fr':Fr} {s':S} {u':AM} (h:ThenS x c₀ cs₀ Q e fr' s' u') (g:Grew x s y):ThenS y c₀ cs₀ Q e fr' s' u' :=
 fun z E a' m k=>h z E a' m (g.trans k)

theorem run_rec {o:Oper} (h:isRec o=true) (a:Act) (w:World):(execOp a.eval o).run P w=.ok .recover w:=by
 unfold isRec at h
 split at h
 ·rename_i c hop
  split at h
  ·rename_i hcal
   obtain ⟨op⟩:=o
   simp only at hop
   subst hop
   obtain ⟨callee,args⟩:=c
   simp only at hcal h
   subst hcal
   simp only [Array.isEmpty_iff] at h
   subst h
   rfl
  ·cases h
 ·cases h

section
variable {sl:Bool} {ops:Array Oper} {c₀:Frame} {cs₀:List Frame} {Q:Exit→Act→List Frame→World→Prop}

theorem upon_not_rec {o:Oper} {a:Act} {next:Act→World→Prop} {Q':Exit→Act→World→Prop} {w:World} (h:o.wp P a w next Q'):∀w',(execOp a.eval o).run P w≠.ok .recover w':=by
 intro w' e
 unfold Oper.wp at h
 rw [e] at h
 exact h.elim

theorem wC (hc:cfg.Ok P) (hcf:wv P cfg cf):∀(l:List Oper) (k:Nat),ops.toList.drop k=l→∀(x:Cx) (a:Act) (fr:Fr) (e:AX) (fr':Fr) (s':S) (u u':AM) (m:FrameMode),GOk cfg x→Rel x→FRep x fr a→MRep x u m →
  uL cfg cf sl ops l fr x.s u=some (e,fr',s',u')→ThenS x c₀ cs₀ Q e fr' s' u'→wpOpsS P ops Q (List.range' k l.length) a ({ c₀ with mode:=m }::cs₀) x.w
 | [],k,hk,x,a,fr,e,fr',s',u,u',m,hg,hx,hf,hm,h,hp=>by
  simp only [uL,Option.some.injEq,Prod.mk.injEq] at h
  obtain ⟨rfl,rfl,rfl,rfl⟩:=h
  exact hp x .normal a m (.refl hx) trivial hf hm
 | o::rest,k,hk,x,a,fr,e,fr',s',u,u',m,hg,hx,hf,hm,h,hp=>by
  have ho:ops[k]?=some o:=by
   rw [← Array.getElem?_toList]
   have:(ops.toList.drop k)[0]?=some o:=by rw [hk]; rfl
   simpa [List.getElem?_drop] using this
  have hk':ops.toList.drop (k+1)=rest:=by
   rw [← List.drop_drop,hk]; rfl
  have hn:¬x.K x.s.next:=fun h=>Nat.lt_irrefl _ (hx.lt _ h)
  simp only [List.length_cons,List.range'_succ,wpOpsS,ho,tl hf.tmps]
  simp only [uL] at h
  split at h
  ·rename_i hw
   rw [if_pos hw]
   split at h
   ·rename_i hrec
    rw [run_rec hrec]
    simp only
    rcases recover_ok hm c₀ cs₀ with ⟨v,m',h1,h2,h3⟩ | ⟨h1,h2,h3⟩
    ·rw [h1]
     exact wC hc hcf rest (k+1) hk' x _ _ _ _ _ _ _ _ hg hx (hf.put h2 o.dst) h3 h hp
    ·rw [h1]
     exact wC hc hcf rest (k+1) hk' x _ _ _ _ _ _ _ _ hg hx (hf.put h2 o.dst) h3 h hp
   ·split at h
    case isFalse=>cases h
    rename_i hny
    have noy:∀c fo id,o.op=.call c→c.callee=.value fo→ev cfg fr.tmps fo≠some (.yield id):=fun c fo id h1 h2 h3=>by
     simp [noYield,h1,h2,h3] at hny
    have key:o.wp P a x.w (fun a' w'=>wpOpsS P ops Q (List.range' (k+1) rest.length) a' ({ c₀ with mode:=m }::cs₀) w') (fun e a' w'=>Q e a' ({ c₀ with mode:=m }::cs₀) w'):=by
     split at h
     ·rename_i v s1 hd
      cases hb:Nat.ble x.s.next s1.next with
      | false=>rw [hb] at h; cases h
      | true =>
       rw [hb] at h
       refine doOp_ok hc hcf hg hx hn hf.tmps noy hd ?_
       intro y c hwent hv
       have hgr:=hwent.grew (Nat.le_of_ble_eq_true hb)
       have hys:=hgr.s
       subst hys
       exact wC hc hcf rest (k+1) hk' y _ _ _ _ _ _ _ _ (hg.mono hgr.le) hgr.rel ((hf.mono hgr.le).put hv o.dst) (hm.mono hgr.le) h (hp.after hgr)
     ·rename_i ch s1 hd
      cases hb:Nat.ble x.s.next s1.next with
      | false=>rw [hb] at h; cases h
      | true =>
       rw [hb] at h
       simp only [cond_true,Option.some.injEq,Prod.mk.injEq] at h
       obtain ⟨rfl,rfl,rfl,rfl⟩:=h
       refine doOp_ok hc hcf hg hx hn hf.tmps noy hd ?_
       intro y d hwent hpr
       have hgr:=hwent.grew (Nat.le_of_ble_eq_true hb)
       exact hp y (.panic d) a m hgr hpr (hf.mono hgr.le) (hm.mono hgr.le)
     ·cases h
    have hne:=upon_not_rec key
    unfold Oper.wp at key
    split
    ·rename_i w' hr
     exact absurd hr (hne w')
    ·exact key
  ·rename_i hw
   rw [if_neg hw]
   exact wC hc hcf rest (k+1) hk' x _ _ _ _ _ _ _ _ hg hx (hf.put (xA x) o.dst) hm h hp

def inBlockS (id:Nat) (Q:Exit→Act→List Frame→World→Prop):Exit→Act→List Frame→World→Prop
 | .exit id',a,cs,w=>if id'=id then Q .normal a cs w else Q (.exit id') a cs w
 | e,a,cs,w=>Q e a cs w

theorem wpS_block {id:Nat} {c:Code} {a:Act} {cs:List Frame} {w:World} (h:c.wpS P (inBlockS id Q) a cs w):(Code.block id c).wpS P Q a cs w:=by
 intro b k hb hr
 obtain ⟨e,a₁,cs₁,w₁,hq,harr⟩:=h b (.inBlock id::k) hb hr
 cases e with
 | normal=>exact ⟨.normal,a₁,cs₁,w₁,hq,.head step_block (Steps.trans harr (.one step_inBlock))⟩
 | exit id' =>
  by_cases hid:id'=id
  ·simp only [inBlockS,hid,if_true] at hq
   exact ⟨.normal,a₁,cs₁,w₁,hq,.head step_block (harr k (by simp [exitTo,hid]))⟩
  ·simp only [inBlockS,hid,if_false] at hq
   refine ⟨.exit id',a₁,cs₁,w₁,hq,fun k' hk=>.head step_block (harr k' ?_)⟩
   have:(id == id')=false:=by simp; exact fun h=>hid h.symm
   simp [exitTo,this,hk]
 | goto l=>exact ⟨_,a₁,cs₁,w₁,hq,fun k' hk=>.head step_block (harr k' (by simp [gotoIn,hk]))⟩
 | ret=>exact ⟨_,a₁,cs₁,w₁,hq,.of_steps (.one step_block) harr⟩
 | panic ch=>exact ⟨_,a₁,cs₁,w₁,hq,.of_steps (.one step_block) harr⟩
 | outgrown=>exact ⟨_,a₁,cs₁,w₁,hq,.of_steps (b:=b) (k:=k) (cs:=cs₁) (e:=.outgrown) (.one step_block) harr⟩

theorem execS_plain (hc:cfg.Ok P) (hcf:wv P cfg cf) {fuel:Nat} {c:Code} (hd:yb cfg c=true) {x:Cx} {a:Act} {fr:Fr} {e:AX} {fr':Fr} {s':S} {u u':AM} {m:FrameMode} (hg:GOk cfg x) (hx:Rel x) (hf:FRep x fr a) (hm:MRep x u m)
  (h:(match exec cfg cf fuel sl none c fr x.s with
   | some (e,fr',s')=>some (e,fr',s',u)
   | none=>none)=some (e,fr',s',u')) (hp:ThenS x c₀ cs₀ Q e fr' s' u'):c.wpS P Q a ({ c₀ with mode:=m }::cs₀) x.w:=by
 split at h
 ·rename_i e1 fr1 s1 hex
  simp only [Option.some.injEq,Prod.mk.injEq] at h
  obtain ⟨rfl,rfl,rfl,rfl⟩:=h
  exact wpS_of_wp (wpIn_wide.1 (exec_ok (ro:=none) (lr:=none) (n:=0) hc hcf c hd x a fr e1 fr1 s1 _ hg hx hf trivial hex fun y E a' hgr ho hf'=>hp y E a' m hgr ho hf' (hm.mono hgr.le)))
 ·cases h

theorem execS_ok (hc:cfg.Ok P) (hcf:wv P cfg cf) {fuel:Nat}:∀(c:Code),yb cfg c=true→∀(x:Cx) (a:Act) (fr:Fr) (e:AX) (fr':Fr) (s':S) (u u':AM) (m:FrameMode) (Q:Exit→Act→List Frame→World→Prop),GOk cfg x→Rel x→FRep x fr a→MRep x u m →
  execS cfg cf fuel sl c fr x.s u=some (e,fr',s',u')→ThenS x c₀ cs₀ Q e fr' s' u'→c.wpS P Q a ({ c₀ with mode:=m }::cs₀) x.w:=by
 intro c
 induction c with
 | region id ops draw =>
  intro hd x a fr e fr' s' u u' m Q hg hx hf hm h hp
  cases draw with
  | true =>
   simp only [execS] at h
   exact execS_plain (fuel:=fuel) (sl:=sl) hc hcf hd hg hx hf hm h hp
  | false =>
   simp only [execS] at h
   refine wpS_region ?_
   have:=wC hc hcf (Q:=Q) ops.toList 0 (by simp) x a fr e fr' s' u u' m hg hx hf hm h hp
   rw [List.range_eq_range']
   simpa using this
 | seq c d ihc ihd =>
  intro hd x a fr e fr' s' u u' m Q hg hx hf hm h hp
  simp only [yb,Bool.and_eq_true] at hd
  simp only [execS] at h
  refine wpS_seq ?_
  split at h
  ·rename_i fr1 s1 u1 hb
   refine ihc hd.1 x a fr _ _ _ _ _ m _ hg hx hf hm hb fun y E a' m' hgr ho hf' hm'=>?_
   cases E <;> try exact ho.elim
   have hs:=hgr.s
   subst hs
   exact ihd hd.2 y a' fr1 e fr' s' _ _ m' Q (hg.mono hgr.le) hgr.rel hf' hm' h (hp.after hgr)
  ·rename_i hne
   refine ihc hd.1 x a fr e fr' s' _ _ m _ hg hx hf hm h fun y E a' m' hgr ho hf' hm'=>?_
   cases E with
   | normal =>
    cases e <;> try exact ho.elim
    exact absurd h (hne _ _ _)
   | _=>exact hp y _ a' m' hgr ho hf' hm'
 | cond p c d ihc ihd =>
  intro hd x a fr e fr' s' u u' m Q hg hx hf hm h hp
  simp only [yb,Bool.and_eq_true] at hd
  simp only [execS] at h
  split at h
  ·rename_i hv
   have hr:=xo (P:=P) hg hf.tmps hv
   generalize hcv:a.eval p=cv at hr
   cases hr
   exact wpS_cond hcv (ihc hd.1 x a fr e fr' s' u u' m Q hg hx hf hm h hp)
  ·rename_i hv
   have hr:=xo (P:=P) hg hf.tmps hv
   generalize hcv:a.eval p=cv at hr
   cases hr
   exact wpS_cond hcv (ihd hd.2 x a fr e fr' s' u u' m Q hg hx hf hm h hp)
  ·cases h
 | block id c ih =>
  intro hd x a fr e fr' s' u u' m Q hg hx hf hm h hp
  simp only [yb] at hd
  simp only [execS] at h
  refine wpS_block ?_
  split at h
  ·rename_i j fr1 s1 u1 hb
   refine ih hd x a fr _ _ _ _ _ m _ hg hx hf hm hb fun y E a' m' hgr ho hf' hm'=>?_
   cases E <;> try exact ho.elim
   simp only [Out] at ho
   subst ho
   simp only [inBlockS]
   split at h
   ·rename_i hj
    rw [if_pos hj]
    simp only [Option.some.injEq,Prod.mk.injEq] at h
    obtain ⟨rfl,rfl,rfl,rfl⟩:=h
    exact hp y .normal a' m' hgr trivial hf' hm'
   ·rename_i hj
    rw [if_neg hj]
    simp only [Option.some.injEq,Prod.mk.injEq] at h
    obtain ⟨rfl,rfl,rfl,rfl⟩:=h
    exact hp y (.exit _) a' m' hgr rfl hf' hm'
  ·rename_i hne
   refine ih hd x a fr e fr' s' _ _ m _ hg hx hf hm h fun y E a' m' hgr ho hf' hm'=>?_
   cases E with
   | exit id' =>
    cases e <;> try exact ho.elim
    exact absurd h (hne _ _ _ _)
   | _=>exact hp y _ a' m' hgr ho hf' hm'
 | _ =>
  intro hd x a fr e fr' s' u u' m Q hg hx hf hm h hp
  simp only [execS] at h
  exact execS_plain (fuel:=fuel) (sl:=sl) hc hcf hd hg hx hf hm h hp
end

theorem bodyS_fn {fuel:Nat} {f:FuncId} {args:List V} {fn:Func} {e:AX} {fr:Fr} {s s':S} {u u':AM} (h:bodyS cfg cf fuel f args s u=some (fn,e,fr,s',u')):cfg.fn f=some fn:=by
 unfold bodyS at h
 split at h
 ·cases h
 rename_i fn' hfn
 split at h
 ·cases h
 split at h
 case h_2=>cases h
 simp only [Option.some.injEq,Prod.mk.injEq] at h
 obtain ⟨rfl,_⟩:=h
 exact hfn

theorem bodyS_ok (hc:cfg.Ok P) (hcf:wv P cfg cf) {fuel:Nat} {f:FuncId} {args:List V} {cargs:List Value} {fn:Func} {e:AX} {fr:Fr} {s':S} {u u':AM} {m:FrameMode} (hg:GOk cfg x) (hx:Rel x) (hm:MRep x u m) (ha:RepL x args cargs)
  (h:bodyS cfg cf fuel f args x.s u=some (fn,e,fr,s',u')) :
  P.funcs[f]?=some fn∧∃c,fn.body=some c∧∀c₀ cs₀ Q,ThenS x c₀ cs₀ Q e fr s' u'→c.wpS P Q { tmps:=cargs.toArray++Array.replicate (fn.ntmps - cargs.toArray.size) undef,defers:=[] } ({ c₀ with mode:=m }::cs₀) x.w:=by
 unfold bodyS at h
 split at h
 ·cases h
 rename_i fn' hfn
 split at h
 ·cases h
 rename_i c hb
 split at h
 case h_2=>cases h
 rename_i e1 fr1 s1 u1 hex
 simp only [Option.some.injEq,Prod.mk.injEq] at h
 obtain ⟨rfl,rfl,rfl,rfl,rfl⟩:=h
 refine ⟨hc.fn f fn' hfn,c,hb,fun c₀ cs₀ Q hp=>?_⟩
 refine execS_ok hc hcf c (hc.draws f fn' c hfn hb) x _ _ _ _ _ _ _ _ Q hg hx ⟨?_,.nil⟩ hm hex hp
 have:=ha.append (RepL.replicate (xA x) (fn'.ntmps - args.length))
 rw [ha.length] at this
 simpa [ha.length] using this

theorem callsDIn_of_wpS {f:FuncId} {fn:Func} {c:Code} {args:Array Value} {u:FrameMode} {w:World} {R:Ending→FrameMode→World→Prop} {n:Nat}
  (hf:P.funcs[f]?=some fn) (hb:fn.body=some c)
  (h:∀(c₀:Frame) (cs:List Frame),c₀.mode=u →
   c.wpS P (bodyPostS P fn c₀ cs R) { tmps:=args++Array.replicate (fn.ntmps - args.size) undef,defers:=[] } (c₀::cs) w) :
  CallsDIn Fence.wide n P f args u w R:=by
 refine ⟨trivial,fun c₀ cs hu _=>?_⟩
 let b:Frame:={ (default:Frame) with fn:=f,kind:=.deferred }
 have henter:Frame.enter P f args .deferred =
   b.at { tmps:=args++Array.replicate (fn.ntmps - args.size) undef,defers:=[] } [.code c]:=by
  simp [Frame.enter,Frame.at,hf,hb,b]
 obtain ⟨e,a',cs',w',hq,harr⟩:=h c₀ cs hu b [] rfl rfl
 rw [← henter] at harr
 cases e with
 | normal =>
  obtain ⟨hd,u',rfl,v,hr,hR⟩:=hq
  exact ⟨.returned v,u',w',_,hR,comesIn_wide.2 (Steps.trans harr (.one step_end)),rfl,rfl,rfl,hd,fn,hf,hr⟩
 | ret =>
  obtain ⟨hd,u',rfl,v,hr,hR⟩:=hq
  obtain ⟨todo,hs⟩:=harr
  exact ⟨.returned v,u',w',_,hR,comesIn_wide.2 hs,rfl,rfl,rfl,hd,fn,hf,hr⟩
 | panic chain =>
  obtain ⟨hd,u',rfl,hR⟩:=hq
  obtain ⟨todo,hs⟩:=harr
  exact ⟨.panicked chain,u',w',_,hR,comesIn_wide.2 hs,rfl,rfl,rfl,hd,fn,hf⟩
 | exit id=>exact hq.elim
 | goto l=>exact hq.elim
 | outgrown =>
  obtain ⟨u',hR⟩:=hq
  exact ⟨.outgrown,u',w',b,hR,comesIn_wide.2 (harr.resolve_left (by simp [b])),rfl,rfl,trivial⟩

/-- The deferred calls. -/
theorem tA (hc:cfg.Ok P) (hcf:wv P cfg cf) {fuel:Nat} {fn:Func} {tmps:Array Value} {R:Ending→World→Prop}:∀(ds:List DF) (D:List Deferred) (x:Cx) (s':S) (u u':AM) (m:FrameMode),
  GOk cfg x→Rel x→DRepL x ds D→MRep x u m→leave cfg cf fuel ds x.s u=some (s',u')→(∀y m',Grew x s' y→MRep y u' m'→LeavesIn Fence.wide 0 P fn tmps R [] m' y.w)→LeavesInM Fence.wide 0 P fn tmps R D m x.w
 | [],D,x,s',u,u',m,hg,hx,hD,hm,h,hp=>by
  cases hD
  simp only [leave,Option.some.injEq,Prod.mk.injEq] at h
  obtain ⟨rfl,rfl⟩:=h
  exact hp x m (.refl hx) hm
 | .mark id::ds,D,x,s',u,u',m,hg,hx,hD,hm,h,hp=>by
  cases hD with
  | cons hd hD =>
   rename_i d' D
   obtain ⟨hk,rfl⟩:=hd
   simp only [leave] at h
   split at h
   case h_2=>cases h
   rename_i hget
   obtain ⟨h0,hb⟩:=(hx.live id _ hget).2
   simp only [if_true] at hb
   have hcs:yZ x.w (x.ρ id).1=none:=by simp [yZ,hb]
   have hlt:=(hx.live id _ hget).2.lt
   have hw:=xd x.w (x.ρ id).1 (.deferred none) hcs
   have hle:=vJ (o':=.dblk false) hget hw
   have hrel:Rel (x.putc id (.dblk false) { x.w with heap:=x.w.heap.setIfInBounds (x.ρ id).1 (.deferred none) }):=wR hx hget hw ⟨h0,by simp [Cx.putc,hlt]⟩
   have hgr:Grew x (x.s.put id (.dblk false)) (x.putc id (.dblk false) { x.w with heap:=x.w.heap.setIfInBounds (x.ρ id).1 (.deferred none) }):=⟨hle,hrel,rfl,fun i hi=>.inl hi,Nat.le_refl _⟩
   refine ⟨hm.ne,.inl ⟨(x.ρ id).1,{ x.w with heap:=x.w.heap.setIfInBounds (x.ρ id).1 (.deferred none) },rfl,?_,?_⟩⟩
   ·simp [Instr.takeDeferred,yr hb,xP hb]
   ·exact tA hc hcf ds D _ s' u u' m (hg.mono hle) hrel (hD.mono hle) (hm.mono hle) h fun z m' hz hm'=>hp z m' (hgr.trans hz) hm'
 | .fn df dcap dargs0::ds,D,x,s',u,u',m,hg,hx,hD,hm,h,hp=>by
  cases hD with
  | cons hd hD =>
   rename_i d' D
   obtain ⟨cap,dargs1,h1,h2,h3,h4⟩:=hd
   obtain ⟨tgt,dargs⟩:=d'
   simp only at h1 h2
   subst h1 h2
   simp only [leave] at h
   split at h
   case h_2=>cases h
   rename_i g
   split at h
   case h_2=>cases h
   rename_i fn' e fr s1 u1 hbody
   have hfn:=bodyS_fn hbody
   have hargs:RepL x (dargs0++dcap) (dargs.toList++cap.toList):=h4.append h3
   obtain ⟨hP,c,hb,hwp⟩:=bodyS_ok hc hcf hg hx hm hargs hbody
   have harr:(dargs.toList++cap.toList).toArray=dargs++cap:=by simp
   rw [harr] at hwp
   refine ⟨hm.ne,.inr ⟨fun h=>(by cases h),.func g,cap,g,dargs++cap,rfl,run_invoke_fn hc hfn hb cap dargs x.w,fun _ _=>trivial,?_⟩⟩
   refine callsDIn_of_wpS hP hb fun c₀ cs₀ hmode=>?_
   have hc0:({ c₀ with mode:=m }:Frame)=c₀:=by subst hmode; rfl
   have:=hwp c₀ cs₀ (bodyPostS P fn' c₀ cs₀ fun
     | .returned _,u',w'=>LeavesInM Fence.wide 0 P fn tmps R D (Go.settle u') w'
     | .panicked chain,u',w'=>LeavesInM Fence.wide 0 P fn tmps R D (Go.raised u' chain) w'
     | .outgrown,_,w'=>R .outgrown w') (fun y E a' m' hgr ho hf hm'=>by
    have hys:=hgr.s
    subst hys
    have dfs0:fr.dfs=[]→a'.defers=[]:=fun hdfs=>by
     have:=hf.dfs
     rw [hdfs] at this
     generalize a'.defers=D' at this
     cases this; rfl
    have done:fr.dfs=[]→(match resV cfg y.s fr.tmps fn'.results.toList with
      | some _=>leave cfg cf fuel ds y.s (aSettle u1)
      | none=>none)=some (s',u')→a'.defers=[]∧∃u',({ c₀ with mode:=m' }:Frame)::cs₀={ c₀ with mode:=u' }::cs₀∧∃v,(results fn' a'.tmps).run P y.w=.ok v y.w∧LeavesInM Fence.wide 0 P fn tmps R D (Go.settle u') y.w:=by
     intro hdfs h
     split at h
     ·rename_i vs hres
      obtain ⟨v,hr,hv⟩:=results_ok hc hgr.rel hf.tmps hres
      exact ⟨dfs0 hdfs,m',rfl,v,hr,tA hc hcf ds D y s' _ _ _ (hg.mono hgr.le) hgr.rel (hD.mono hgr.le) hm'.settle h fun z m2 hz=>hp z m2 (hgr.trans hz)⟩
     ·cases h
    split at h
    ·rename_i hdfs
     cases E <;> try exact ho.elim
     exact done hdfs h
    ·rename_i hdfs
     cases E <;> try exact ho.elim
     exact done hdfs h
    ·rename_i ch hdfs
     cases E <;> try exact ho.elim
     exact ⟨dfs0 hdfs,m',rfl,tA hc hcf ds D y s' _ _ _ (hg.mono hgr.le) hgr.rel (hD.mono hgr.le) (hm'.raised ho) h fun z m2 hz=>hp z m2 (hgr.trans hz)⟩
    ·cases h)
   rw [hc0] at this
   exact this

theorem callRun_ok (hc:cfg.Ok P) (hcf:wv P cfg cf) (n:Nat):CallOk P cfg (callRun cfg cf n):=by
 intro x f fn args cargs e s' hfn hg hx ha h
 simp only [callRun] at h
 split at h
 ·cases h
 rename_i fn1 e1 fr s1 hbody
 have hfn1:=body_fn hbody
 have:fn=fn1:=Option.some.inj (hfn.symm.trans hfn1)
 subst this
 obtain ⟨hP,c,hb,hwp⟩:=body_ok hc hcf hg hx ha hbody
 split at h
 ·cases h
 rename_i u hu
 split at h
 ·cases h
 rename_i s2 u2 hl
 refine callsIn_wide.1 (callsIn_of_wp_marks (F:=Fence.wide) (n:=0) hP hb trivial (hwp _ 0 fun y E a' hgr ho hf=>?_))
 have hys:=hgr.s
 subst hys
 have hgy:=hg.mono hgr.le
 have went:∀{z:Cx} {s2:S},Grew y s2 z→Went x x.s.next s2 z:=fun {z s2} hz=>by
  have:=hgr.trans hz
  exact ⟨this.le,this.rel,this.s,fun i hi=>(this.grow i hi).elim .inl fun h=>.inr (.inr h)⟩
 have fin:∀m,MRep y u m→LeavesInM Fence.wide 0 P fn a'.tmps (fun E w'=>∃y:Cx,y.w=w'∧Went x x.s.next s' y∧EndOk y e E) a'.defers m y.w:=by
  intro m hm
  refine tA hc hcf fr.dfs a'.defers y s2 u u2 m hgy hgr.rel hf.dfs hm hl fun z m' hz hm'=>?_
  have hzs:=hz.s
  subst hzs
  cases u2 with
  | ret =>
   cases m' <;> try exact hm'.elim
   simp only at h
   split at h
   ·rename_i vs hres
    simp only [Option.some.injEq,Prod.mk.injEq] at h
    obtain ⟨rfl,rfl⟩:=h
    obtain ⟨v,hr,hv⟩:=results_ok hc hz.rel (hf.tmps.mono hz.le) hres
    exact ⟨v,hr,z,rfl,went hz,hv⟩
   ·cases h
  | pan ch =>
   cases m' <;> try exact hm'.elim
   simp only [Option.some.injEq,Prod.mk.injEq] at h
   obtain ⟨rfl,rfl⟩:=h
   exact ⟨z,rfl,went hz,hm'⟩
 cases e1 with
 | normal =>
  cases E <;> try exact ho.elim
  simp only [tz,Option.some.injEq] at hu
  subst hu
  exact fin .returning trivial
 | ret =>
  cases E <;> try exact ho.elim
  simp only [tz,Option.some.injEq] at hu
  subst hu
  exact fin .returning trivial
 | pan ch =>
  cases E <;> try exact ho.elim
  simp only [tz,Option.some.injEq] at hu
  subst hu
  exact fin (.panicking _) ho
 | exit id=>cases hu

theorem zip_rep:∀(ps:List Tmp) {args:List V} {cargs:List Value} {tm:List V} {T:Array Value},RepL x tm T.toList→RepL x args cargs →
  RepL x ((ps.zip args).foldl (fun t p=>t.set p.1 p.2) tm) ((ps.zip cargs).foldl (fun (tmps:Array Value) (p:Tmp×Value)=>tmps.setIfInBounds p.1 p.2) T).toList
 | [],_,_,_,_,h,_=>by simpa using h
 | p::ps,_,_,_,_,h,.nil=>by simpa using h
 | p::ps,_,_,_,T,h,.cons (v:=v) (c:=c) hv hl=>by
  simp only [List.zip_cons_cons,List.foldl_cons]
  exact zip_rep ps (by rw [Array.toList_setIfInBounds]; exact h.set hv p) hl

theorem roundRun_ok (hc:cfg.Ok P) (hcf:wv P cfg cf) (fuel:Nat):RoundOk P cfg (roundRun cfg cf fuel):=by
 intro x id args cargs e s' hg hx hk ha h
 unfold roundRun at h
 split at h
 case h_2=>cases h
 rename_i st pd tm ps asg bd hget
 split at h
 case isFalse=>cases h
 rename_i hcond
 obtain ⟨hlen,hd1,hd2⟩:=hcond
 obtain ⟨_,r,hr,e1,e2,e3,e4,e5,e6,e0⟩:=wG hx hget
 have hal:=ha.length
 refine ⟨r,hr,by simp only [List.size_toArray]; rw [e3]; omega,fun n=>?_⟩
 split at h
 case h_2=>cases h
 rename_i fr1 s1 hex1
 split at h
 case h_2=>cases h
 rename_i pd1 tm1 ps1 asg1 bd1 hget1
 split at h
 case h_2=>cases h
 rename_i e2' frx s2 hex2
 have hf0:FRep x ⟨(ps.toList.zip args).foldl (fun t p=>t.set p.1 p.2) tm,[]⟩ { tmps:=(r.params.zip cargs.toArray).foldl (fun tmps (t,a)=>tmps.setIfInBounds t a) r.tmps,defers:=[] }:=by
  refine ⟨?_,.nil⟩
  have:=zip_rep (x:=x) ps.toList e6 ha
  rw [← e3] at this ⊢
  rw [← Array.foldl_toList,Array.toList_zip]
  exact this
 rw [e4,e5]
 refine roundIn_of_wpIn (F:=Fence.wide) trivial (exec_ok (ro:=some id) (lr:=some (x.ρ id).1) hc hcf asg hd1 x _ _ _ _ _ _ hg hx hf0 ⟨hk,rfl⟩ hex1 fun y E a' hgr ho hf=>?_)
 cases E <;> try exact ho.elim
 have hys:=hgr.s
 subst hys
 obtain ⟨_,r1,hr1,a1,a2,a3,a4,a5,a6,a0⟩:=wG hgr.rel hget1
 have hrho:y.ρ id=x.ρ id:=(hgr.le.K id hk).2
 obtain ⟨z,z1,z2,z3,z4,z5,z6⟩:=turn_loop hgr.rel hget1 hr1 (r':={ r1 with state:=.busy }) (st':=.busy) (pd':=pd1) rfl a2 rfl rfl rfl rfl
 refine ⟨z.w,?_,?_⟩
 ·rw [z1,← hrho]
  simp [Instr.beginRound,Instr.getLoop,yr hr1,xP hr1,a1]
 ·rw [← z4] at hex2
  refine exec_ok (ro:=some id) (lr:=some (x.ρ id).1) hc hcf bd hd2 z _ _ _ _ _ _ ((hg.mono hgr.le).mono z2) z3 (hf.mono z2) ⟨(z2.K id (hgr.le.K id hk).1).1,by rw [z6,hrho]⟩ hex2 fun y2 E2 a2' hgr2 ho2 hf2=>?_
  have hys2:=hgr2.s
  subst hys2
  split at h
  case h_2=>cases h
  rename_i st2 pd2 tm2 ps2 asg2 bd2 hget2
  obtain ⟨_,r2,hr2,b1,b2,b3,b4,b5,b6,b0⟩:=wG hgr2.rel hget2
  have hkz:z.K id:=(z2.K id (hgr.le.K id hk).1).1
  have hrho2:(y2.ρ id).1=(x.ρ id).1:=by rw [(hgr2.le.K id hkz).2,z6,hrho]
  have fin:∀(st':LoopState) (jump:Option Code) (b:Bool),s'=y2.s.put id (.loop st' jump tm2 ps2 asg2 bd2)→e=.ret (.bool b)→st'=(if jump.isNone then .ready else .done)→b=jump.isNone →
    ∃v w',(Instr.endRound (x.ρ id).1 jump).run P y2.w=.ok v w'∧∃y:Cx,y.w=w'∧Went x x.s.next s' y∧EndOk y e (.returned v):=by
   intro st' jump b hs he hst hb
   obtain ⟨q,q1,q2,q3,q4,q5,q6⟩:=turn_loop hgr2.rel hget2 hr2 (r':={ r2 with state:=st',pending:=jump }) (st':=st') (pd':=jump) rfl rfl rfl rfl rfl rfl
   refine ⟨.bool b,q.w,?_,q,rfl,⟨((hgr.le.trans z2).trans hgr2.le).trans q2,q3,by rw [q4,hs],fun i hi=>?_⟩,by rw [he]; exact .bool b⟩
   ·rw [q1,← hrho2]
    subst hst hb
    simp [Instr.endRound,Instr.getLoop,yr hr2,xP hr2]
   ·rw [q5] at hi
    rcases hgr2.grow i hi with h | h
    ·rw [z5] at h
     exact (hgr.grow i h).elim .inl fun h=>.inr (.inr h)
    ·right; right
     have h1:z.s.next=y.s.next:=by rw [z4]; rfl
     have h2:=hgr.next
     omega
  split at h
  ·cases E2 <;> try exact ho2.elim
   simp only [Option.some.injEq,Prod.mk.injEq] at h
   exact fin .ready none true h.2.symm h.1.symm rfl rfl
  ·cases E2 <;> try exact ho2.elim
   simp only [Option.some.injEq,Prod.mk.injEq] at h
   exact fin .done (some .ret) false h.2.symm h.1.symm rfl rfl
  ·rename_i j
   cases E2 <;> try exact ho2.elim
   simp only [Out] at ho2
   subst ho2
   simp only [Option.some.injEq,Prod.mk.injEq] at h
   exact fin .done (some (.exit j)) false h.2.symm h.1.symm rfl rfl
  ·cases h

theorem run_ok (hc:cfg.Ok P):∀n,wv P cfg (run cfg n)
 | 0=>⟨fun x f fn args cargs e s' _ _ _ _ h=>by simp [run] at h,fun x id args cargs e s' _ _ _ _ h=>by simp [run] at h⟩
 | n+1=>⟨callRun_ok hc (run_ok hc n) n,roundRun_ok hc (run_ok hc n) n⟩

/-- Every call that the reckoning runs is a call of the program. -/
theorem call_ok (hc:cfg.Ok P) (n:Nat):CallOk P cfg (call cfg n):=(run_ok hc n).1
end
end Go.Proofs.YtchlfjhbijmdiaaGreatDoor.Ai

