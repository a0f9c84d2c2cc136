/- Part of a reckoning of a Go program over abstract values, proved sound against the model. -/
import Derived.Test.YtchlfjhbijmdiaaGreatDoorAiC7F
set_option linter.unusedSimpArgs false
set_option linter.unusedVariables false
namespace Go.Proofs.YtchlfjhbijmdiaaGreatDoor.Ai
noncomputable section

theorem tE {p q:Nat→Bool}:∀(l:List Nat),(∀e∈l,p e=true→q e=true)→(l.filter p).length≤(l.filter q).length
 | [],_=>Nat.le_refl _
 | e::l,h=>by
  have ih:=tE l fun e he=>h e (by simp [he])
  have he:=h e (by simp)
  simp only [List.filter_cons]
  split
  ·rename_i hp
   rw [if_pos (he hp)]
   simp only [List.length_cons]; omega
  ·split
   ·simp only [List.length_cons]; omega
   ·exact ih

theorem filter_lt {p q:Nat→Bool} {j:Nat} (hq:q j=true) (hp:p j=false):∀(l:List Nat),(∀e∈l,p e=true→q e=true)→j∈l→(l.filter p).length<(l.filter q).length
 | [],_,hj=>by simp at hj
 | e::l,h,hj=>by
  have hle:=tE (p:=p) (q:=q) l fun e he=>h e (by simp [he])
  rcases List.mem_cons.1 hj with rfl | hj
  ·rw [List.filter_cons_of_neg (by simp [hp]),List.filter_cons_of_pos hq,List.length_cons]; omega
  ·have ih:=filter_lt hq hp l (fun e he=>h e (by simp [he])) hj
   have he:=h e (by simp)
   simp only [List.filter_cons]
   split
   ·rename_i hp
    rw [if_pos (he hp)]
    simp only [List.length_cons]; omega
   ·split
    ·simp only [List.length_cons]; omega
    ·exact ih

theorem pends_at {cfg:Cfg} {cf:CF} {sl:Bool} {b:List Nat} {effs:List Nat} {starts:List S}:∀(l:List Oper) (rs:List Rec) (i:Nat),wT cfg cf sl b effs starts l rs i=true →
  ∀(t:Nat) (o:Oper) (r:Rec),l[t]?=some o→rs[t]?=some r→r.k=1→pendOk cfg cf sl b effs starts o (i+t) r=true
 | [],rs,i,h,t,o,r,ho,hr,hk=>by simp at ho
 | o'::l,[],i,h,t,o,r,ho,hr,hk=>by simp at hr
 | o'::l,r'::rs,i,h,t,o,r,ho,hr,hk=>by
  simp only [wT,Bool.and_eq_true] at h
  cases t with
  | zero =>
   simp at ho hr
   subst ho hr
   simpa [hk] using h.1
  | succ t =>
   have:=pends_at l rs (i+1) h.2 t o r (by simpa using ho) (by simpa using hr) hk
   rwa [show i+1+t=i+(t+1) by omega] at this

section
variable {P:Program} {cfg:Cfg} {cf:CF} {sl:Bool} {ops:Array Oper} {base:Nat} {Q:Exit→Act→World→Prop}
variable {x0:Cx} {fr:Fr} {rs:List Rec} {s0:S}

/-- What is made, listed, and met by no change. -/
def pL (ops:Array Oper) (rs:List Rec) (L:Nat→Bool) (k:Nat):Bool:=L k && !absB (bef ops) ((zE rs 0).filter L) k

structure Inv (cfg:Cfg) (ops:Array Oper) (base:Nat) (x0:Cx) (fr:Fr) (rs:List Rec) (s0:S) (L:Nat→Bool) (x:Cx) (a:Act):Prop where
 closed:Closed ops L
 rel:Rel x
 gok:GOk cfg x
 le:x0.le x
 frep:FRep x ⟨tmF L ops.toList rs 0 fr.tmps,fr.dfs⟩ a
 s:x.s=yW (pL ops rs L) base rs 0 (yA L rs 0 s0)
 K:∀i,x.K i→x0.K i∨(∃k,L k=true∧i=base+k)∨base+ops.size≤i
 next:base+ops.size≤(yA L rs 0 s0).next
 fresh:∀(k:Nat) (r:Rec),rs[k]?=some r→r.ob≠none→pL ops rs L k=true→(yA L rs 0 s0).get (base+k)=none
 last:(s0::zU rs)[((zE rs 0).filter L).length]?=some (yA L rs 0 s0)

theorem draw_step (hc:cfg.Ok P) (hcf:wv P cfg cf) (hord:Ordered cfg ops) {tmE:List V} {sE:S} (hrun:xw cfg cf sl ops (bef ops) base ops.toList 0 [] fr.tmps s0=some (rs,tmE,sE))
  (hpend:wT cfg cf sl (bef ops) (zE rs 0) (s0::zU rs) ops.toList rs 0=true) (h0:∀i,x0.K i→i<base)
  {L:Nat→Bool} {x:Cx} {a:Act} (hI:Inv cfg ops base x0 fr rs s0 L x a) {j:Nat} {o:Oper} (hj:ops[j]?=some o) (hLj:L j=false) (hready:∀k∈yV o,L k=true)
  {K:Act→World→Prop} (hK:∀y a',Inv cfg ops base x0 fr rs s0 (ins L j) y a'→K a' y.w) {lr:Option Nat} {n:Nat}:wpOpIn (FW lr) n P ops Q j K a x.w:=by
 obtain ⟨new,hnew,hlen,_,_,hat⟩:=draw_at (cfg:=cfg) ops.toList 0 _ _ _ _ _ _ hrun
 rw [List.nil_append] at hnew
 subst hnew
 have hlen':rs.length=ops.size:=by simpa using hlen
 have hjn:j<ops.size:=(Array.getElem?_eq_some_iff.1 hj).1
 obtain ⟨r,hr⟩:∃r,rs[j]?=some r:=⟨_,List.getElem?_eq_getElem (by omega)⟩
 have hjl:ops.toList[j]?=some o:=by rw [Array.getElem?_toList]; exact hj
 obtain ⟨hst,htm,hcc⟩:=hat j o r hjl hr
 simp only [Nat.zero_add,List.nil_append] at hst htm hcc
 have hsome:∀{k:Nat} {r':Rec},rs[k]?=some r'→∃ok,ops[k]?=some ok∧(r'.k=3→zC cfg ok=3):=fun {k r'} hk=>by
  have hkn:k<ops.size:=by have:=(List.getElem?_eq_some_iff.1 hk).1; omega
  refine ⟨ops[k],Array.getElem?_eq_getElem hkn,fun h3=>?_⟩
  obtain ⟨h1,_⟩:=hat k ops[k] r' (by rw [Array.getElem?_toList]; exact Array.getElem?_eq_getElem hkn) hk
  obtain ⟨_,_,h⟩:=step_inv h1
  rcases h with h | h | h | h <;> omega
 have before:∀{k:Nat},xp (bef ops) k j=true→L k=true∧k<j:=fun h=>⟨ord_ready hord hI.closed hj hready h,ord_lt hord h⟩
 have later:∀{k:Nat},xp (bef ops) j k=true→L k=false∧j<k:=fun {k} h=>by
  refine ⟨?_,ord_lt hord h⟩
  cases hLk:L k with
  | false=>rfl
  | true =>
   have:=ord_closed hord hI.closed h hLk
   rw [hLj] at this; cases this
 have agree:∀{k:Nat},xp (bef ops) k j=true∨xp (bef ops) j k=true→L k=decide (k<j):=fun {k} h=>by
  rcases h with h | h
  ·obtain ⟨h1,h2⟩:=before h
   simp [h1,h2]
  ·obtain ⟨h1,h2⟩:=later h
   have:¬k<j:=by omega
   simp [h1,this]
 have hself:L j=decide (j<j):=by simp [hLj]
 have hlook:∀d∈looks ops o,(tmF L ops.toList rs 0 fr.tmps)[d]?=r.tm[d]?:=fun d hd=>by
  rw [htm]
  refine tmF_same d ops.toList rs 0 _ _ (fun k o' ho hdk=>?_) rfl
  rw [Nat.zero_add]
  rw [Array.getElem?_toList] at ho
  by_cases e:k=j
  ·subst e; exact hself
  ·exact agree ((hord.dst k j o' o d ho hj e hdk).2 hd)
 obtain ⟨hop,hwant⟩:=looks_congr (cfg:=cfg) (cf:=cf) (sl:=sl) hlook
 have hclosed:Closed ops (ins L j):=fun k o' ho hk b hb=>by
  by_cases e:k=j
  ·subst e
   rw [hj] at ho; injection ho with ho; subst ho
   simp [ins,hready b hb]
  ·have:(k == j)=false:=by simpa using e
   simp only [ins,this,Bool.false_or] at hk
   simp [ins,hI.closed k o' ho hk b hb]
 have htmE:∀v,v=r.v→tmF (ins L j) ops.toList rs 0 fr.tmps=putT o.dst (tmF L ops.toList rs 0 fr.tmps) v:=fun v hv=>by
  subst hv
  refine tmF_ins L j o r ops.toList rs 0 j fr.tmps (by omega) hjl hr hLj fun k o' ho hne t ht=>?_
  rw [Array.getElem?_toList] at ho
  exact (hord.dst j k o o' t hj ho (by omega) ht).1
 have hnx:¬x.K (base+j):=fun h=>by
  rcases hI.K _ h with h | ⟨k,hk,he⟩ | h
  ·have:=h0 _ h; omega
  ·have:k=j:=by omega
   subst this; rw [hLj] at hk; cases hk
  ·omega
 have hxnext:x.s.next=(yA L rs 0 s0).next:=by rw [hI.s]; exact addF_next (n:=base+ops.size) rs 0 _ (by omega) hI.next
 have hpj:pL ops rs L j=false:=by simp [pL,hLj]
 have hcoreExt:Ext (yA L rs 0 s0) x.s:=by
  rw [hI.s]
  exact addF_ext rs 0 _ (.refl _) fun k r' hr' hob hp=>by rw [Nat.zero_add] at hp ⊢; exact hI.fresh k r' hr' hob hp
 -- the next context
 have fin:∀(y:Cx) (c:Value) (s2:S),Went x (base+j) s2 y→Rep y r.v c→s2=yW (pL ops rs (ins L j)) base rs 0 (yA (ins L j) rs 0 s0)→base+ops.size≤(yA (ins L j) rs 0 s0).next →
   (∀(k:Nat) (r':Rec),rs[k]?=some r'→r'.ob≠none→pL ops rs (ins L j) k=true→(yA (ins L j) rs 0 s0).get (base+k)=none) →
   (s0::zU rs)[((zE rs 0).filter (ins L j)).length]?=some (yA (ins L j) rs 0 s0)→K (a.put o.dst c) y.w:=fun y c s2 hw hv hs hn hfr hlast=>by
  refine hK y _ ⟨hclosed,hw.rel,hI.gok.mono hw.le,hI.le.trans hw.le,?_,hw.s.trans hs,fun i hi=>?_,hn,hfr,hlast⟩
  ·have:=(hI.frep.mono hw.le).put hv o.dst
   rw [htmE r.v rfl]
   cases hd:o.dst with
   | none=>rw [hd] at this; exact this
   | some d=>rw [hd] at this; exact this
  ·rcases hw.grow i hi with h | h | h
   ·rcases hI.K i h with h | ⟨k,hk,he⟩ | h
    ·exact .inl h
    ·exact .inr (.inl ⟨k,by simp [ins,hk],he⟩)
    ·exact .inr (.inr h)
   ·exact .inr (.inl ⟨j,by simp [ins],h⟩)
   ·refine .inr (.inr (Nat.le_trans ?_ h))
    rw [hxnext]; exact hI.next
 -- where the core stays
 have coreStay:r.k≠3→yA (ins L j) rs 0 s0=yA L rs 0 s0∧(zE rs 0).filter (ins L j)=(zE rs 0).filter L∧(s0::zU rs)[((zE rs 0).filter (ins L j)).length]?=some (yA (ins L j) rs 0 s0):=fun h3=>by
  have e1:yA (ins L j) rs 0 s0=yA L rs 0 s0:=vn rs 0 s0 fun k r' hk hkk=>by
   rw [Nat.zero_add]
   have:k≠j:=by rintro rfl; rw [hr] at hk; injection hk with hk; subst hk; exact h3 hkk
   have:(k == j)=false:=by simpa using this
   simp [ins,this]
  have e2:(zE rs 0).filter (ins L j)=(zE rs 0).filter L:=List.filter_congr fun e he=>by
   obtain ⟨t,r',h1,h2,h4⟩:=(wu rs 0 e).1 he
   rw [Nat.zero_add] at h1
   subst h1
   have:e≠j:=by rintro rfl; rw [hr] at h2; injection h2 with h2; subst h2; exact h3 h4
   have:(e == j)=false:=by simpa using this
   simp [ins,this]
  exact ⟨e1,e2,by rw [e1,e2]; exact hI.last⟩
 have pStay:r.k≠3→∀k,k≠j→pL ops rs (ins L j) k=pL ops rs L k:=fun h3 k hk=>by
  have:(k == j)=false:=by simpa using hk
  unfold pL
  rw [(coreStay h3).2.1]
  simp [ins,this]
 have stay:r.k≠3→r.ob=none→x.s=yW (pL ops rs (ins L j)) base rs 0 (yA (ins L j) rs 0 s0) ∧
   (∀(k:Nat) (r':Rec),rs[k]?=some r'→r'.ob≠none→pL ops rs (ins L j) k=true→(yA (ins L j) rs 0 s0).get (base+k)=none):=fun h3 hob=>by
  have hne:∀{k:Nat} {r':Rec},rs[k]?=some r'→r'.ob≠none→k≠j:=fun {k r'} hk ho=>by
   rintro rfl; rw [hr] at hk; injection hk with hk; subst hk; exact ho hob
  rw [(coreStay h3).1]
  refine ⟨?_,fun k r' hk ho hp=>?_⟩
  ·rw [hI.s]
   refine xx rs 0 _ fun k r' hk ho=>?_
   rw [Nat.zero_add]
   exact (pStay h3 k (hne hk ho)).symm
  ·rw [pStay h3 k (hne hk ho)] at hp
   exact hI.fresh k r' hk ho hp
 obtain ⟨_,_,hstep⟩:=step_inv hst
 have nodef:∀{nw:Nat} {tm:List V} {s s':S} {v:V},yS cfg cf sl nw o tm s=some (.val v s')→lr=none∨∀c,o.op≠.defer c:=fun {nw tm s s' v} hd=>by
  right
  intro c hop
  rw [xZ] at hd
  unfold doOp0 at hd
  rw [hop] at hd
  simp only at hd
  split at hd
  ·split at hd
   ·cases hd
   ·cases hd
  ·cases hd
 unfold wpOpIn
 simp only [hj,tl hI.frep.tmps,hwant]
 rcases hstep with ⟨hw,o3,k3,hd,hn,hob⟩ | ⟨hw,o2,k2,hcs,ob,s',hob,hget,hd⟩ | ⟨hw,hk,hk2,hcs,hob,s',hd⟩ | ⟨hw,hk,hv,hcs,hob⟩
 ·-- a change of the store
  rw [if_pos hw]
  have ag:∀(k:Nat) (r':Rec),rs[k]?=some r'→r'.k=3→L k=decide (k<j):=fun k r' hrk hkk=>by
   by_cases e:k=j
   ·subst e; exact hself
   ·obtain ⟨ok,hok,hkind⟩:=hsome hrk
    exact agree ((hord.eff j k o ok hj hok (Ne.symm e) o3 (hkind hkk)).symm)
  have hcore:r.c=yA L rs 0 s0:=by
   rw [hcc]
   exact vn rs 0 s0 fun k r' hrk hkk=>by rw [Nat.zero_add]; exact (ag k r' hrk hkk).symm
  have heffs:zE (rs.take j) 0=(zE rs 0).filter L:=by
   rw [effs_take]
   refine List.filter_congr fun e he=>?_
   obtain ⟨t,r',h1,h2,h4⟩:=(wu rs 0 e).1 he
   rw [Nat.zero_add] at h1 ⊢
   subst h1
   exact (ag e r' h2 h4).symm
  have hin:yW (fun k=>!absB (bef ops) (zE (rs.take j) 0) k && xp (bef ops) k j) base (rs.take j) 0 r.c=yW (fun k=>pL ops rs L k && xp (bef ops) k j) base rs 0 (yA L rs 0 s0):=by
   rw [addF_take,hcore,heffs]
   refine xx rs 0 _ fun k r' hrk _=>?_
   rw [Nat.zero_add,Nat.zero_add]
   cases h:xp (bef ops) k j with
   | false=>simp
   | true =>
    obtain ⟨h1,h2⟩:=before h
    simp [pL,h1,h2]
  rw [hin] at hd
  have hsplit:x.s=yW (fun k=>pL ops rs L k && !xp (bef ops) k j) base rs 0 (yW (fun k=>pL ops rs L k && xp (bef ops) k j) base rs 0 (yA L rs 0 s0)):=by
   rw [hI.s]
   exact addF_split (c:=fun k=>xp (bef ops) k j) rs 0 _
  have hnext1:(yW (fun k=>pL ops rs L k && xp (bef ops) k j) base rs 0 (yA L rs 0 s0)).next=(yA L rs 0 s0).next:=addF_next (n:=base+ops.size) rs 0 _ (by omega) hI.next
  obtain ⟨x1,hr1,hs1,hsh,hback⟩:=frameF (n:=base+ops.size) rs 0 _ x hI.rel hsplit (by omega) (by rw [hnext1]; exact hI.next) (fun k r' hrk hob' hp=>by
   rw [Nat.zero_add] at hp ⊢
   simp only [Bool.and_eq_true,Bool.not_eq_true'] at hp
   rw [addF_get rs 0 _ fun k' hk' hp'=>by
    rw [Nat.zero_add] at hp' ⊢
    simp only [Bool.and_eq_true] at hp'
    intro e
    have:k=k':=by omega
    subst this
    rw [hp.2] at hp'; cases hp'.2]
   exact hI.fresh k r' hrk hob' hp.1)
  have hcoreI:yA (ins L j) rs 0 s0=r.c':=coreF_eff k3 rs 0 j s0 (by omega) hr hLj fun k r' hrk hlt hkk=>by
   rw [Nat.zero_add] at hlt ⊢
   rw [ag k r' hrk hkk]
   have:¬k<j:=by omega
   simp [this]
  have hjeff:j∈zE rs 0:=(wu rs 0 j).2 ⟨j,r,by omega,hr,k3⟩
  have hpI:∀k,k≠j→pL ops rs (ins L j) k=(pL ops rs L k && !xp (bef ops) k j):=fun k hk=>by
   have:(k == j)=false:=by simpa using hk
   have hins:ins L j k=L k:=by simp [ins,this]
   unfold pL
   rw [absB_ins hjeff,hins]
   generalize L k=p1,absB (bef ops) ((zE rs 0).filter L) k=p2,xp (bef ops) k j=p3
   revert p1 p2 p3
   decide
  have hne:∀{k:Nat} {r':Rec},rs[k]?=some r'→r'.ob≠none→k≠j:=fun {k r'} hk ho=>by
   rintro rfl; rw [hr] at hk; injection hk with hk; subst hk; exact ho hob
  have hd':yS cfg cf sl (base+j) o (tmF L ops.toList rs 0 fr.tmps) x1.s=some (.val r.v r.c'):=by
   rw [hop,hs1]; exact hd
  have hwp:o.wpIn (FW lr) n P a x1.w K Q:=vX hc hcf (hI.gok.shift hsh) hr1 (by rw [hsh.K]; exact hnx) (hI.frep.shift hsh).tmps (nodef hd') hd' fun y1 c hwent hv=>by
   obtain ⟨y,h1,h2,h3⟩:=hback _ _ _ hwent hn
   have:=fin y c _ h1 (hv.shift h2) (by
    rw [hcoreI]
    refine xx rs 0 _ fun k r' hrk hob'=>?_
    rw [Nat.zero_add]
    exact (hpI k (hne hrk hob')).symm) (by rw [hcoreI]; exact hn) (fun k r' hrk hob' hp=>by
    rw [hcoreI]
    have:=h3 k r' hrk hob' (by rw [Nat.zero_add,← hpI k (hne hrk hob')]; exact hp)
    rwa [Nat.zero_add] at this) (by
    rw [hcoreI,effs_ins rs 0 j (by omega) hr hLj,if_pos k3,List.getElem?_cons_succ]
    have e:((zE rs 0).filter L).length=((zE rs 0).filter fun e=>decide (e<0+j)).length:=by rw [← effs_take,heffs]
    rw [e]
    exact starts_at k3 rs 0 j hr)
   rw [h2.w] at this
   exact this
  rw [hsh.w] at hwp
  exact hwp
 ·-- something new
  rw [if_pos hw]
  have h3:r.k≠3:=by omega
  obtain ⟨v,ob',e,hany⟩:=doOp_new o2 _ _ hd
  injection e with e1 e2
  subst e1
  have:ob'=ob:=by
   rw [e2,S.get_add,if_pos rfl] at hget
   exact Option.some.inj hget
  subst this
  have hpnew:∀k,pL ops rs (ins L j) k=ins (pL ops rs L) j k:=fun k=>by
   by_cases e:k=j
   ·subst e
    have:absB (bef ops) ((zE rs 0).filter L) k=false:=by
     rw [tg,List.any_eq_false]
     intro e' he' h
     simp only [Bool.and_eq_true] at h
     have:=(later h.2).1
     rw [h.1] at this; cases this
    unfold pL
    rw [(coreStay h3).2.1,this]
    simp [ins]
   ·rw [pStay h3 k e]
    have:(k == j)=false:=by simpa using e
    simp [ins,this]
  refine vX hc hcf hI.gok hI.rel hnx hI.frep.tmps (nodef ((hop _ _).trans (hany x.s))) ((hop _ _).trans (hany x.s)) fun y c hwent hv=>fin y c _ hwent hv ?_ ?_ ?_ (coreStay h3).2.2
  ·rw [(coreStay h3).1,xx (q:=ins (pL ops rs L) j) rs 0 _ fun k _ _ _=>by rw [Nat.zero_add]; exact hpnew k,addF_new hob rs 0 j _ (by omega) hr hpj,hI.s]
  ·rw [(coreStay h3).1]; exact hI.next
  ·intro k r' hrk hob' hp
   rw [(coreStay h3).1]
   by_cases e:k=j
   ·subst e
    have hnone:=get_none hI.rel hnx
    cases hg:(yA L rs 0 s0).get (base+k) with
    | none=>rfl
    | some q=>rw [hcoreExt _ _ hg] at hnone; cases hnone
   ·rw [pStay h3 k e] at hp
    exact hI.fresh k r' hrk hob' hp
 ·rw [if_pos hw]
  have h3:r.k≠3:=by omega
  obtain ⟨hs1,hs2⟩:=stay h3 hob
  have post:yS cfg cf sl (base+j) o r.tm x.s=some (.val r.v x.s)→o.wpIn (FW lr) n P a x.w K Q:=fun h1 =>
   vX hc hcf hI.gok hI.rel hnx hI.frep.tmps (nodef ((hop _ _).trans h1)) ((hop _ _).trans h1) fun y c hwent hv=>fin y c x.s hwent hv hs1 (by rw [(coreStay h3).1]; exact hI.next) hs2 (coreStay h3).2.2
  by_cases k1:r.k=1
  ·-- a read
   have o1:zC cfg o=1:=by rw [← hk]; exact k1
   have hp:=pends_at ops.toList rs 0 hpend j o r hjl hr k1
   rw [Nat.zero_add] at hp
   simp only [pendOk,List.all_eq_true,List.mem_range] at hp
   have hm:=hp ((zE rs 0).filter L).length (by
    have:=tE (p:=L) (q:=fun e=>!xp (bef ops) j e) (zE rs 0) fun e he hL=>by
     cases h:xp (bef ops) j e with
     | false=>rfl
     | true=>have:=(later h).1; rw [hL] at this; cases this
    omega)
   have hlo:=tE (p:=fun e=>xp (bef ops) e j) (q:=L) (zE rs 0) fun e he h=>(before h).1
   have hnlt:¬((zE rs 0).filter L).length<((zE rs 0).filter fun e=>xp (bef ops) e j).length:=by omega
   simp only [hnlt,decide_false,Bool.false_or,hI.last] at hm
   cases hdo:yS cfg cf sl 0 o r.tm (yA L rs 0 s0) with
   | none=>rw [hdo] at hm; simp at hm
   | some rr =>
    rw [hdo] at hm
    cases rr with
    | val v s3 =>
     simp only [decide_eq_true_eq] at hm
     subst hm
     obtain ⟨v',e,hany⟩:=doOp_read o1 _ _ hdo
     injection e with e1 e2
     subst e1
     exact post (hany _ _ hcoreExt)
    | dfr d s3=>simp at hm
    | pan ch s3=>simp at hm
  ·have o0:zC cfg o=0:=by omega
   obtain ⟨v',e,hany⟩:=doOp_pure o0 _ _ hd
   injection e with e1 e2
   subst e1
   exact post (hany _ _)
 ·rw [if_neg (by simp [hw])]
  have h3:r.k≠3:=by omega
  obtain ⟨h1,h2⟩:=stay h3 hob
  exact ⟨fun _ _=>trivial,fin x undef x.s (.same hI.rel _) (by rw [hv]; exact xA x) h1 (by rw [(coreStay h3).1]; exact hI.next) h2 (coreStay h3).2.2⟩
end
end
end Go.Proofs.YtchlfjhbijmdiaaGreatDoor.Ai

namespace Go.Proofs.YtchlfjhbijmdiaaGreatDoor.Ai
noncomputable section

section
variable {P:Program} {cfg:Cfg} {cf:CF} {sl:Bool} {ops:Array Oper} {base:Nat} {Q:Exit→Act→World→Prop}
variable {x0:Cx} {fr:Fr} {rs:List Rec} {s0:S}

theorem addF_mono {p:Nat→Bool} {base:Nat}:∀(rs:List Rec) (i:Nat) (s:S),s.next≤(yW p base rs i s).next
 | [],i,s=>Nat.le_refl _
 | r::rs,i,s=>by
  simp only [yW]
  refine Nat.le_trans ?_ (addF_mono rs (i+1) _)
  cases r.ob with
  | none=>exact Nat.le_refl _
  | some ob =>
   cases p i with
   | false=>exact Nat.le_refl _
   | true=>show s.next≤(s.add (base+i) ob).next; rw [S.next_add]; omega

def yu (listed:Array Bool):Nat→Bool:=fun i=>listed.getD i false

theorem listed_ins {listed:Array Bool} {j:Nat} (hj:j<listed.size):yu (listed.setIfInBounds j true)=ins (yu listed) j:=by
 funext i
 unfold yu ins
 by_cases e:i=j
 ·subst e; simp [hj]
 ·have h1:(i == j)=false:=by simpa using e
  have h2:j≠i:=fun k=>e k.symm
  simp [h1,Array.getElem?_setIfInBounds_ne h2]

theorem ready_iff {listed:Array Bool} (hs:listed.size=ops.size) {j:Nat}:j∈Region.ready .any ops listed↔yu listed j=false∧∃o,ops[j]?=some o∧∀k∈yV o,yu listed k=true:=by
 rw [mem_ready]
 constructor
 ·rintro ⟨h1,o,ho,h2⟩
  have hj:j<ops.size:=(Array.getElem?_eq_some_iff.1 ho).1
  refine ⟨?_,o,ho,fun k hk=>?_⟩
  ·have:j<listed.size:=by omega
   simpa [yu,this] using h1
  ·simp only [yV,List.mem_map,List.mem_filter] at hk
   obtain ⟨e,⟨he,hb⟩,rfl⟩:=hk
   exact h2 e (by simpa using he) hb
 ·rintro ⟨h1,o,ho,h2⟩
  have hj:j<ops.size:=(Array.getElem?_eq_some_iff.1 ho).1
  refine ⟨?_,o,ho,fun e he hb=>?_⟩
  ·have:j<listed.size:=by omega
   simpa [yu,this] using h1
  ·exact h2 e.on (by
    simp only [yV,List.mem_map,List.mem_filter]
    exact ⟨e,⟨by simpa using he,hb⟩,rfl⟩)

theorem draw_all (hord:Ordered cfg ops) {listed:Array Bool} (hs:listed.size=ops.size) (hr:Region.ready .any ops listed=[]):∀i,i<ops.size→yu listed i=true:=by
 intro i
 induction i using Nat.strongRecOn with
 | _ i ih =>
  intro hi
  cases h:yu listed i with
  | true=>rfl
  | false =>
   exfalso
   have ho:ops[i]?=some ops[i]:=Array.getElem?_eq_getElem hi
   have:i∈Region.ready .any ops listed:=(ready_iff hs).2 ⟨h,_,ho,fun k hk=>by
    have:=hord.lt i _ ho k hk
    exact ih k this (by omega)⟩
   rw [hr] at this
   cases this

theorem draw_loop (hc:cfg.Ok P) (hcf:wv P cfg cf) {lr:Option Nat} {n:Nat} (hord:Ordered cfg ops) {tmE:List V} {sE:S} (hrun:xw cfg cf sl ops (bef ops) base ops.toList 0 [] fr.tmps s0=some (rs,tmE,sE))
  (hpend:wT cfg cf sl (bef ops) (zE rs 0) (s0::zU rs) ops.toList rs 0=true) (h0:∀i,x0.K i→i<base)
  (hQ:∀y a',x0.le y→Rel y→y.s=yW (fun k=>!absB (bef ops) (zE rs 0) k) base rs 0 sE→FRep y ⟨tmE,fr.dfs⟩ a'→(∀i,y.K i→x0.K i∨base≤i)→Q .normal a' y.w) :
  ∀(fuel:Nat) (listed:Array Bool) (x:Cx) (a:Act),listed.size=ops.size→((List.range ops.size).filter fun i=>!yu listed i).length≤fuel→Inv cfg ops base x0 fr rs s0 (yu listed) x a→wpAnyIn (FW lr) n P .any ops Q fuel listed a x.w:=by
 have done:∀(listed:Array Bool) (x:Cx) (a:Act),listed.size=ops.size→Inv cfg ops base x0 fr rs s0 (yu listed) x a→(∀i,i<ops.size→yu listed i=true)→Q .normal a x.w:=by
  intro listed x a hs hI hall
  obtain ⟨new,hnew,hlen,h1,h2,_⟩:=draw_at (cfg:=cfg) ops.toList 0 _ _ _ _ _ _ hrun
  rw [List.nil_append] at hnew
  subst hnew
  have hlen':rs.length=ops.size:=by simpa using hlen
  have hlt:∀{k:Nat} {r:Rec},rs[k]?=some r→yu listed k=true:=fun {k r} hk=>hall k (by have:=(List.getElem?_eq_some_iff.1 hk).1; omega)
  have he:(zE rs 0).filter (yu listed)=zE rs 0:=List.filter_eq_self.2 fun e he=>by
   obtain ⟨t,r,e1,e2,_⟩:=(wu rs 0 e).1 he
   rw [Nat.zero_add] at e1
   subst e1
   exact hlt e2
  refine hQ x a hI.le hI.rel ?_ ?_ fun i hi=>?_
  ·rw [hI.s,h2,vn (L':=fun _=>true) rs 0 s0 fun k r hk _=>by rw [Nat.zero_add]; exact hlt hk]
   refine xx rs 0 _ fun k r hk _=>?_
   rw [Nat.zero_add]
   unfold pL
   rw [he,hlt hk,Bool.true_and]
  ·have:=hI.frep
   rw [h1]
   rw [tmF_congr (L':=fun _=>true) ops.toList rs 0 fr.tmps fun k hk=>by rw [Nat.zero_add]; exact hall k (by omega)] at this
   exact this
  ·rcases hI.K i hi with h | ⟨k,_,h⟩ | h
   ·exact .inl h
   ·exact .inr (by omega)
   ·exact .inr (by omega)
 intro fuel
 induction fuel with
 | zero =>
  intro listed x a hs hf hI
  have hall:∀i,i<ops.size→yu listed i=true:=fun i hi=>by
   have h1:((List.range ops.size).filter fun i=>!yu listed i)=[]:=List.eq_nil_of_length_eq_zero (by omega)
   have:=List.filter_eq_nil_iff.1 h1 i (by simpa using hi)
   simpa using this
  refine ⟨?_,done listed x a hs hI hall⟩
  apply List.eq_nil_iff_forall_not_mem.2
  intro j hj
  obtain ⟨h1,o,ho,_⟩:=(ready_iff hs).1 hj
  rw [hall j (Array.getElem?_eq_some_iff.1 ho).1] at h1
  cases h1
 | succ fuel ih =>
  intro listed x a hs hf hI
  refine ⟨fun hr=>done listed x a hs hI (draw_all hord hs hr),fun j hj=>?_⟩
  obtain ⟨h1,o,ho,h2⟩:=(ready_iff hs).1 hj
  have hjn:j<ops.size:=(Array.getElem?_eq_some_iff.1 ho).1
  refine draw_step hc hcf hord hrun hpend h0 hI ho h1 h2 fun y a' hI'=>?_
  have he:=listed_ins (listed:=listed) (j:=j) (by omega)
  refine ih (listed.setIfInBounds j true) y a' (by simp [hs]) ?_ (by rw [he]; exact hI')
  rw [he]
  have:=filter_lt (p:=fun i=>!ins (yu listed) j i) (q:=fun i=>!yu listed i) (j:=j) (by simp [h1]) (by simp [ins]) (List.range ops.size) (fun e _ h=>by
   simp only [ins,Bool.not_or,Bool.and_eq_true] at h; exact h.2) (by simpa using hjn)
  omega

theorem uC (hc:cfg.Ok P) (hcf:wv P cfg cf) {lr:Option Nat} {n:Nat} (hdr:yg cfg ops=true) {id:Nat} {x:Cx} {a:Act} (hg:GOk cfg x) (hx:Rel x) (hf:FRep x fr a) {ro:Option Nat} (_:RoOk x ro lr) {fr':Fr} {s':S}
  (h:vG cfg cf sl ops fr x.s=some (fr',s')) (hp:Then x Q .normal fr' s'):(Code.region id ops true).wpIn (FW lr) n P Q a x.w:=by
 unfold vG at h
 split at h
 case h_2=>cases h
 rename_i rs tm s1 hrun
 split at h
 case isFalse=>cases h
 rename_i hcond
 simp only [Bool.and_eq_true] at hcond
 obtain ⟨hnn,hpend⟩:=hcond
 injection h with h; injection h with h1 h2; subst h1 h2
 refine wpIn_region_any hc.mixed ?_
 let x1:Cx:={ x with w:={ x.w with drawn:=x.w.drawn+1 } }
 let x2:Cx:={ x1 with s:=⟨x.s.next+ops.size,x.s.tr⟩ }
 have hle1:x.le x1:=le_drew rfl rfl rfl rfl
 have hr1:Rel x1:=hx.drew rfl rfl rfl rfl
 have hless:∀i o,x2.s.get i=some o→x1.s.get i=some o:=fun i o h=>h
 have hle2:x.le x2:=⟨hle1.B,hle1.K,hle1.size,hle1.keep,hle1.csz,hle1.own,hle1.os,hle1.tape,hle1.output⟩
 have hr2:Rel x2:={
  lt:=fun i hi=>by have:=hr1.lt i hi; show i<x.s.next+ops.size; have:i<x.s.next:=this; omega
  live:=fun i o hi=>by
   obtain ⟨h1,h2⟩:=hr1.live i o hi
   refine ⟨h1,tU.mono (x:=x1) (y:=x2) ?_ rfl h2⟩
   exact ⟨rfl,fun i h=>⟨h,rfl⟩,Nat.le_refl _,fun _ _ _=>rfl,fun _ _ h=>h,fun _ _ h=>h,rfl,rfl,rfl⟩
  inj:=hr1.inj
  room:=hr1.room
  apart:=hr1.apart }
 have hlf:yu (Array.replicate ops.size false)=fun _=>false:=by
  funext i
  unfold yu
  by_cases hi:i<ops.size <;> simp [hi]
 obtain ⟨new,hnew,hlen,_,hcore,_⟩:=draw_at (cfg:=cfg) ops.toList 0 _ _ _ _ _ _ hrun
 rw [List.nil_append] at hnew
 subst hnew
 have hlen':rs.length=ops.size:=by simpa using hlen
 refine draw_loop (x0:=x2) hc hcf (ordered_of hdr) hrun hpend hx.lt (fun y a' hle hrel hs hfr hK=>?_) ops.size (Array.replicate ops.size false) x2 a (by simp) ?_ ?_
 ·exact hp y .normal a' ⟨hle2.trans hle,hrel,hs,hK,Nat.le_trans (Nat.le_of_ble_eq_true hnn) (addF_mono rs 0 _)⟩ trivial hfr
 ·have:=List.length_filter_le (fun i=>!yu (Array.replicate ops.size false) i) (List.range ops.size)
  simpa using this
 ·rw [hlf]
  have ht:tmF (fun _=>false) ops.toList rs 0 fr.tmps=fr.tmps:=by
   have:=tmF_lt 0 ops.toList rs 0 fr.tmps (Nat.le_refl _)
   simpa using this
  have hp0:∀k,pL ops rs (fun _=>false) k=false:=fun k=>by simp [pL]
  have hc0:yA (fun _=>false) rs 0 x2.s=x2.s:=ut rs 0 _ fun _ _ _ _=>rfl
  refine ⟨fun _ _ _ h=>absurd h (by simp),hr2,hg.mono hle2,.refl x2,?_,?_,fun i hi=>.inl hi,?_,fun k r _ _ h=>?_,?_⟩
  ·rw [ht]; exact hf.mono hle2
  ·show x2.s=yW _ _ rs 0 (yA _ rs 0 x2.s)
   rw [hc0]
   exact (addF_none rs 0 _ fun k _ _ _=>hp0 _).symm
  ·show _≤(yA _ rs 0 x2.s).next
   rw [hc0]
   exact Nat.le_refl _
  ·rw [hp0] at h; cases h
  ·show (x2.s::zU rs)[_]?=some (yA _ rs 0 x2.s)
   rw [hc0]
   have:(zE rs 0).filter (fun _=>false)=[]:=by simp
   rw [this]; rfl
end

/-! code -/
section
variable {P:Program} {cfg:Cfg} {cf:CF} {sl:Bool} {Q:Exit→Act→World→Prop} {ro lr:Option Nat} {n:Nat}

theorem iter_ok {fuel:Nat} {c:Code} (ihc:∀(x:Cx) (a:Act) (fr:Fr) (e:AX) (fr':Fr) (s':S) (Q:Exit→Act→World→Prop),GOk cfg x→Rel x→FRep x fr a→RoOk x ro lr→exec cfg cf fuel sl ro c fr x.s=some (e,fr',s')→Then x Q e fr' s'→c.wpIn (FW lr) n P Q a x.w) :
  ∀(m:Nat) (x:Cx) (a:Act) (fr:Fr) (e:AX) (fr':Fr) (s':S),GOk cfg x→Rel x→FRep x fr a→RoOk x ro lr→iter (exec cfg cf fuel sl ro c) m fr x.s=some (e,fr',s')→Then x Q e fr' s'→Code.roundsIn (FW lr) n P c Q m a x.w:=by
 intro m
 induction m with
 | zero=>intro x a fr e fr' s' _ _ _ _ h; simp [iter] at h
 | succ m ih =>
  intro x a fr e fr' s' hg hx hf hro h hp
  rw [roundsIn_succ]
  simp only [iter] at h
  split at h
  ·rename_i fr1 s1 hb
   refine ihc x a fr _ _ _ _ hg hx hf hro hb fun y E a' hgr ho hf'=>?_
   cases E <;> try exact ho.elim
   have hs:=hgr.s
   subst hs
   exact ih y a' fr1 e fr' s' (hg.mono hgr.le) hgr.rel hf' (hro.mono hgr.le) h (hp.after hgr)
  ·rename_i hne
   refine ihc x a fr e fr' s' _ hg hx hf hro h fun y E a' hgr ho hf'=>?_
   cases E with
   | normal =>
    cases e <;> try exact ho.elim
    exact absurd h (hne _ _)
   | _=>exact hp y _ a' hgr ho hf'

theorem xQ {F:Fence} {a:Act} {w:World} {c:Code} (h:c.wpIn F n P (Exit.noGoto Q) a w):(Code.scope c).wpIn F n P Q a w:=by
 intro b k cs hro hb hr
 have h0:(lone (b.atR a (.code (.scope c)::k)) cs w).fenced P F:=fenced_calm hb hr rfl
 have s1:step P (lone (b.atR a (.code (.scope c)::k)) cs w)=.next (lone (b.atR a (.code c::.inScope c::k)) cs w):=step_lone_go (by simp [stepG,stepG.exec,Frame.atR])
 have s2:∀a w,step P (lone (b.atR a (.inScope c::k)) cs w)=.next (lone (b.atR a k) cs w):=fun a w=>step_lone_go (by simp [stepG,stepG.exec,Frame.atR])
 obtain ⟨e,a₁,w₁,hq,harr⟩:=h b (.inScope c::k) cs hro hb hr
 cases e with
 | normal=>exact ⟨.normal,a₁,w₁,hq,.head h0 s1 (StepsIn.trans harr (.one (fenced_calm hb hr rfl) (s2 _ _)))⟩
 | exit id =>
  have hx:exitTo id (.inScope c::k)=exitTo id k:=by simp [exitTo]
  exact ⟨.exit id,a₁,w₁,hq,fun k' hk=>.head h0 s1 (harr.1 k' (by rw [hx]; exact hk)),fun hr' hk=>let ⟨k₁,h1,h2⟩:=harr.2 hr' (by rw [hx]; exact hk); ⟨k₁,h1,.head h0 s1 h2⟩⟩
 | goto l=>exact hq.elim
 | ret=>exact ⟨_,a₁,w₁,hq,.of_steps (.one h0 s1) harr⟩
 | panic ch=>exact ⟨_,a₁,w₁,hq,.of_steps (.one h0 s1) harr⟩
 | outgrown=>exact ⟨_,a₁,w₁,hq,.of_steps (.one h0 s1) harr⟩

theorem wG {x:Cx} (hx:Rel x) {id:Nat} {st:LoopState} {pd:Option Code} {tm:List V} {ps:Array Tmp} {asg bd:Code} (h:x.s.get id=some (.loop st pd tm ps asg bd)) :
  x.K id∧∃r:Loop,x.w.heap[(x.ρ id).1]?=some (.loop r)∧r.state=st∧r.pending=pd∧r.params=ps∧r.assign=asg∧r.body=bd∧RepL x tm r.tmps.toList∧(x.ρ id).2=0:=by
 obtain ⟨hk,h0,r,h1,h2,h3,h4,h5,h6,h7⟩:=hx.live id _ h
 exact ⟨hk,r,h1,h2,h3,h4,h5,h6,h7,h0⟩

/-- The record of a loop that is turned. -/
theorem turn_loop {x:Cx} (hx:Rel x) {id:Nat} {st:LoopState} {pd:Option Code} {tm:List V} {ps:Array Tmp} {asg bd:Code} (h:x.s.get id=some (.loop st pd tm ps asg bd)) {r:Loop} (hr:x.w.heap[(x.ρ id).1]?=some (.loop r))
  {r':Loop} {st':LoopState} {pd':Option Code} (e1:r'.state=st') (e2:r'.pending=pd') (e3:r'.params=r.params) (e4:r'.assign=r.assign) (e5:r'.body=r.body) (e6:r'.tmps=r.tmps) :
  ∃y:Cx,y.w={ x.w with heap:=x.w.heap.setIfInBounds (x.ρ id).1 (.loop r') }∧x.le y∧Rel y∧y.s=x.s.put id (.loop st' pd' tm ps asg bd)∧y.K=x.K∧y.ρ=x.ρ:=by
 obtain ⟨hk,r0,h1,h2,h3,h4,h5,h6,h7,h0⟩:=wG hx h
 obtain rfl:r0=r:=by rw [hr] at h1; injection h1 with h1; injection h1 with h1; exact h1.symm
 have hcs:yZ x.w (x.ρ id).1=none:=by simp [yZ,hr]
 have hlt:=(hx.live id _ h).2.lt
 have hw:=xd x.w (x.ρ id).1 (.loop r') hcs
 have hle:=vJ (o':=.loop st' pd' tm ps asg bd) h hw
 refine ⟨_,rfl,hle,wR hx h hw ⟨h0,r',(by show (x.w.heap.setIfInBounds (x.ρ id).1 (.loop r'))[(x.ρ id).1]?=_; simp [hlt]),e1,e2,by rw [e3]; exact h4,by rw [e4]; exact h5,by rw [e5]; exact h6,by rw [e6]; exact h7.mono hle⟩,rfl,rfl,rfl⟩

theorem enter_ok {x:Cx} (hx:Rel x) (hro:RoOk x ro lr) {s1:S} {mark:List DF} (h:enterL x.s ro=some (s1,mark)) {a:Act} {fr:Fr} (hf:FRep x fr a) (fn:FuncId) (ps:Array Tmp) (asg bd:Code) :
  ∃(x2:Cx) (l:Nat) (mark':List Deferred),(Instr.enterLoop fn a.tmps ps asg bd lr).run P x.w=.ok (l,mark') x2.w∧x.le x2∧Rel x2∧x2.s=s1.add s1.next (.loop .ready none fr.tmps ps asg bd)∧x2.K s1.next∧x2.ρ s1.next=(l,0)∧DRepL x2 mark mark' ∧
   (∀i,x2.K i→x.K i∨x.s.next≤i)∧x.s.next≤x2.s.next:=by
 have hfresh:∀{y:Cx},Rel y→¬y.K y.s.next:=fun hy h=>Nat.lt_irrefl _ (hy.lt _ h)
 have key:∀(x1:Cx) (dd:Nat),x.le x1→Rel x1→∃x2:Cx,x2.w=x1.w.alloc (.loop { state:=.ready,pending:=none,fn,tmps:=a.tmps,params:=ps,assign:=asg,body:=bd,defers:=dd })∧x1.le x2∧Rel x2 ∧
   x2.s=x1.s.add x1.s.next (.loop .ready none fr.tmps ps asg bd)∧x2.K x1.s.next∧x2.ρ x1.s.next=(x1.w.heap.size,0)∧(∀i,x2.K i→i=x1.s.next∨x1.K i):=by
  intro x1 dd hle1 hx1
  have hle:=ux (o:=.loop .ready none fr.tmps ps asg bd) (c:=.loop { state:=.ready,pending:=none,fn,tmps:=a.tmps,params:=ps,assign:=asg,body:=bd,defers:=dd }) hx1 (hfresh hx1)
  exact ⟨_,rfl,hle,ud hx1 (hfresh hx1) ⟨rfl,_,yl _ _,rfl,rfl,rfl,rfl,rfl,(hf.tmps.mono hle1).mono hle⟩,rfl,.inl rfl,by simp [Cx.alloc,upd],fun i h=>h⟩
 cases ro with
 | none =>
  cases lr with
  | some _=>exact hro.elim
  | none =>
   simp only [enterL,Option.some.injEq,Prod.mk.injEq] at h
   obtain ⟨rfl,rfl⟩:=h
   have hle1:=ux (o:=.dblk true) (c:=.deferred (some [])) hx (hfresh hx)
   have hx1:=ud (o:=.dblk true) (c:=.deferred (some [])) hx (hfresh hx) ⟨rfl,yl _ _⟩
   obtain ⟨x2,h1,h2,h3,h4,h5,h6,h7⟩:=key _ x.w.heap.size hle1 hx1
   refine ⟨x2,x.w.heap.size+1,[{ target:=.collected x.w.heap.size,args:=#[] }],?_,hle1.trans h2,h3,h4,h5,?_,.cons ⟨(h2.K _ (.inl rfl)).1,?_⟩ .nil,fun i hi=>?_,?_⟩
   ·rw [h1]; simp [Instr.enterLoop,newObj,Sem.run,Cx.alloc]
   ·exact h6.trans (by simp [Cx.alloc])
   ·rw [(h2.K _ (.inl rfl)).2]; simp [Cx.alloc,upd]
   ·rcases h7 i hi with h | h | h
    ·right; rw [h]; simp [Cx.alloc] <;> omega
    ·right; rw [h]; exact Nat.le_refl _
    ·exact .inl h
   ·rw [h4]; simp [Cx.alloc] <;> omega
 | some l0 =>
  cases lr with
  | none=>exact hro.elim
  | some ll =>
   simp only [enterL] at h
   split at h
   case h_2=>cases h
   rename_i st pd tm ps' asg' bd' hl
   simp only [Option.some.injEq,Prod.mk.injEq] at h
   obtain ⟨rfl,rfl⟩:=h
   obtain ⟨_,r,hr,_⟩:=wG hx hl
   rw [hro.2] at hr
   obtain ⟨x2,h1,h2,h3,h4,h5,h6,h7⟩:=key x r.defers (.refl x) hx
   refine ⟨x2,x.w.heap.size,[],?_,h2,h3,h4,h5,h6,.nil,fun i hi=>?_,?_⟩
   ·rw [h1]; simp [Instr.enterLoop,Instr.getLoop,getObj,newObj,Sem.run,hr]
   ·rcases h7 i hi with h | h
    ·right; omega
    ·exact .inl h
   ·rw [h4]; simp <;> omega

theorem rangeL_ok (hc:cfg.Ok P) (hcf:wv P cfg cf) {g:Operand} {ps:Array Tmp} {asg bd:Code} {x:Cx} {a:Act} {fr:Fr} {e:AX} {fr':Fr} {s':S} (hg:GOk cfg x) (hx:Rel x) (hf:FRep x fr a) (hro:RoOk x ro lr)
  (h:rangeL cfg cf ro g ps asg bd fr x.s=some (e,fr',s')) (hp:Then x Q e fr' s'):(Code.rangeFunc g ps asg bd).wpIn (FW lr) n P Q a x.w:=by
 unfold rangeL at h
 split at h
 case h_2=>cases h
 rename_i f first cap hev
 split at h
 case h_2=>cases h
 rename_i fnr hfn
 split at h
 case isFalse=>cases h
 rename_i hbs
 split at h
 case h_2=>cases h
 rename_i s1 mark hent
 obtain ⟨body,hbody⟩:=Option.isSome_iff_exists.1 hbs
 have hgv:=xo (P:=P) hg hf.tmps hev
 generalize hgf:a.eval g=gf at hgv
 cases hgv with
 | func _ hA hB =>
  rename_i A B
  refine wpIn_rangeFunc fun fn _=>?_
  obtain ⟨x2,l,mark',g1,g2,g3,g4,g5,g6,g7,g8,g9⟩:=enter_ok (P:=P) hx hro hent hf fn ps asg bd
  have hargs:RepL x2 (first++[V.yield s1.next]++cap) (A.toList++[Value.func (.yield l) #[] #[]]++B.toList):=by
   refine ((hA.mono g2).append (.cons ?_ .nil)).append (hB.mono g2)
   have:=Rep.yield (x:=x2) s1.next g5
   rwa [g6] at this
  have harr:(A++#[Value.func (.yield l) #[] #[]]++B)=(A.toList++[Value.func (.yield l) #[] #[]]++B.toList).toArray:=by simp
  refine ⟨l,mark',x2.w,{ target:=.fn (.func f) B,args:=A++#[.func (.yield l) #[] #[]] },x2.w,f,A++#[.func (.yield l) #[] #[]]++B,x2.w,g1,?_,fun _ _=>trivial,?_,fun h=>(by cases h),?_⟩
  ·have hev2:a.eval (.const (.func (.yield l) #[] #[]))=.func (.yield l) #[] #[]:=rfl
   simp [resolve,rangeCall,hgf,hev2,Deferred.ofValue]
  ·rw [harr]
   have:=xv hc hfn hbody (A.toList++[Value.func (.yield l) #[] #[]]++B.toList).toArray x2.w
   rw [← harr] at this ⊢
   simpa [invoke] using this
  ·have hfA:∀{y:Cx},x2.le y→FRep y { fr with dfs:=mark++fr.dfs } { a with defers:=mark'++a.defers }:=fun hle=>⟨(hf.tmps.mono g2).mono hle,((g7.append (hf.dfs.mono g2))).mono hle⟩
   rw [harr]
   refine calls_in ?_
   split at h
   ·rename_i v s3 hcall
    cases hb:Nat.ble x.s.next s3.next with
    | false=>rw [hb] at h; cases h
    | true =>
     rw [hb] at h
     simp only [cond_true] at h
     rw [← g4] at hcall
     refine (hcf.1 x2 f fnr _ _ _ _ hfn (hg.mono g2) g3 hargs hcall).mono ?_
     rintro E w' ⟨y,rfl,hw,he⟩
     cases E with
     | panicked ch=>exact he.elim
     | outgrown=>exact he.elim
     | returned c =>
      have hys:=hw.s
      subst hys
      unfold leaveL at h
      split at h
      case h_2=>cases h
      rename_i st pd tm ps' asg' bd' hl
      obtain ⟨hk,r,hr,e1,e2,e3,e4,e5,e6,e0⟩:=wG hw.rel hl
      have hrho:(y.ρ s1.next).1=l:=by rw [(hw.le.K _ g5).2,g6]
      have hgrow:∀{z:Cx},y.K=z.K→y.le z→Rel z→x.s.next≤z.s.next→Grew x z.s z:=fun {z} hK hle hz hn=>⟨(g2.trans hw.le).trans hle,hz,rfl,fun i hi=>by
       rw [← hK] at hi
       rcases hw.grow i hi with h | h | h
       ·exact g8 i h
       ·right; rw [h]; exact g9
       ·right; exact Nat.le_trans g9 h,hn⟩
      have hend:st≠.busy→(Instr.endLoop l).run P y.w=.ok pd { y.w with heap:=y.w.heap.setIfInBounds (y.ρ s1.next).1 (.loop { r with state:=.exhausted }) }:=fun hst=>by
       have hb:r.state≠LoopState.busy:=by rw [e1]; exact hst
       rw [← hrho]
       simp [Instr.endLoop,Instr.getLoop,yr hr,hb,xP hr,e2]
      obtain ⟨z,z1,z2,z3,z4,z5,z6⟩:=turn_loop hw.rel hl hr (r':={ r with state:=.exhausted }) (st':=.exhausted) (pd':=pd) rfl e2 rfl rfl rfl rfl
      have hgz:Grew x z.s z:=hgrow z5.symm z2 z3 (by rw [z4]; exact Nat.le_of_ble_eq_true hb)
      rw [z4] at hgz
      have hfz:=hfA (hw.le.trans z2)
      have fin:(match (generalizing:=false) pd with
        | none=>some (AX.normal,({ fr with dfs:=mark++fr.dfs }:Fr),y.s.put s1.next (.loop .exhausted pd tm ps' asg' bd'))
        | some .ret=>some (.ret,{ fr with dfs:=mark++fr.dfs },y.s.put s1.next (.loop .exhausted pd tm ps' asg' bd'))
        | some (.exit j)=>some (.exit j,{ fr with dfs:=mark++fr.dfs },y.s.put s1.next (.loop .exhausted pd tm ps' asg' bd'))
        | _=>none)=some (e,fr',s')→st≠.busy→rangePost (FW lr) n P l Q { a with defers:=mark'++a.defers } (.returned c) y.w:=by
       intro h hst
       refine ⟨pd,_,hend hst,?_⟩
       rw [← z1]
       split at h
       ·simp only [Option.some.injEq,Prod.mk.injEq] at h
        obtain ⟨rfl,rfl,rfl⟩:=h
        exact hp z .normal _ hgz trivial hfz
       ·simp only [Option.some.injEq,Prod.mk.injEq] at h
        obtain ⟨rfl,rfl,rfl⟩:=h
        exact wpIn_ret (hp z .ret _ hgz trivial hfz)
       ·simp only [Option.some.injEq,Prod.mk.injEq] at h
        obtain ⟨rfl,rfl,rfl⟩:=h
        exact wpIn_exit (hp z (.exit _) _ hgz rfl hfz)
       ·cases h
      split at h
      ·cases h
      ·rename_i hst
       exact fin h hst
   ·rename_i ch s3 hcall
    cases hb:Nat.ble x.s.next s3.next with
    | false=>rw [hb] at h; cases h
    | true =>
     rw [hb] at h
     simp only [cond_true,Option.some.injEq,Prod.mk.injEq] at h
     obtain ⟨rfl,rfl,rfl⟩:=h
     rw [← g4] at hcall
     refine (hcf.1 x2 f fnr _ _ _ _ hfn (hg.mono g2) g3 hargs hcall).mono ?_
     rintro E w' ⟨y,rfl,hw,he⟩
     cases E with
     | returned c=>exact he.elim
     | outgrown=>exact he.elim
     | panicked chain =>
      refine hp y (.panic chain) _ ⟨g2.trans hw.le,hw.rel,hw.s,fun i hi=>?_,Nat.le_of_ble_eq_true hb⟩ he (hfA hw.le)
      rcases hw.grow i hi with h | h | h
      ·exact g8 i h
      ·right; rw [h]; exact g9
      ·right; exact Nat.le_trans g9 h
   ·cases h

theorem exec_ok (hc:cfg.Ok P) (hcf:wv P cfg cf) {fuel:Nat}:∀(c:Code),yb cfg c=true→∀(x:Cx) (a:Act) (fr:Fr) (e:AX) (fr':Fr) (s':S) (Q:Exit→Act→World→Prop),GOk cfg x→Rel x→FRep x fr a→RoOk x ro lr →
  exec cfg cf fuel sl ro c fr x.s=some (e,fr',s')→Then x Q e fr' s'→c.wpIn (FW lr) n P Q a x.w:=by
 intro c
 induction c with
 | skip =>
  intro hd x a fr e fr' s' Q hg hx hf hro h hp
  simp only [exec,Option.some.injEq,Prod.mk.injEq] at h
  obtain ⟨rfl,rfl,rfl⟩:=h
  exact wpIn_skip (hp x .normal a (.refl hx) trivial hf)
 | label l =>
  intro hd x a fr e fr' s' Q hg hx hf hro h hp
  simp only [exec,Option.some.injEq,Prod.mk.injEq] at h
  obtain ⟨rfl,rfl,rfl⟩:=h
  exact wpIn_label (hp x .normal a (.refl hx) trivial hf)
 | region id ops draw =>
  intro hd x a fr e fr' s' Q hg hx hf hro h hp
  cases draw with
  | true =>
   simp only [exec] at h
   split at h
   ·rename_i fr1 s1 hr
    simp only [Option.some.injEq,Prod.mk.injEq] at h
    obtain ⟨rfl,rfl,rfl⟩:=h
    exact uC hc hcf hd hg hx hf hro hr hp
   ·cases h
  | false =>
   simp only [exec] at h
   refine wpIn_region ?_
   have:=tq hc hcf (n:=n) (Q:=Q) ops.toList 0 (by simp) x a fr e fr' s' hg hx hf hro h hp
   rw [List.range_eq_range']
   simpa using this
 | seq c d ihc ihd =>
  intro hd x a fr e fr' s' Q hg hx hf hro h hp
  simp only [yb,Bool.and_eq_true] at hd
  simp only [exec] at h
  refine wpIn_seq ?_
  split at h
  ·rename_i fr1 s1 hb
   refine ihc hd.1 x a fr _ _ _ _ hg hx hf hro hb fun y E a' hgr ho hf'=>?_
   cases E <;> try exact ho.elim
   have hs:=hgr.s
   subst hs
   exact ihd hd.2 y a' fr1 e fr' s' Q (hg.mono hgr.le) hgr.rel hf' (hro.mono hgr.le) h (hp.after hgr)
  ·rename_i hne
   refine ihc hd.1 x a fr e fr' s' _ hg hx hf hro h fun y E a' hgr ho hf'=>?_
   cases E with
   | normal =>
    cases e <;> try exact ho.elim
    exact absurd h (hne _ _)
   | _=>exact hp y _ a' hgr ho hf'
 | cond p c d ihc ihd =>
  intro hd x a fr e fr' s' Q hg hx hf hro h hp
  simp only [yb,Bool.and_eq_true] at hd
  simp only [exec] at h
  split at h
  ·rename_i hv
   have hr:=xo (P:=P) hg hf.tmps hv
   generalize hcv:a.eval p=cv at hr
   cases hr
   exact wpIn_cond_true hcv (ihc hd.1 x a fr e fr' s' Q hg hx hf hro h hp)
  ·rename_i hv
   have hr:=xo (P:=P) hg hf.tmps hv
   generalize hcv:a.eval p=cv at hr
   cases hr
   exact wpIn_cond_false hcv (ihd hd.2 x a fr e fr' s' Q hg hx hf hro h hp)
  ·cases h
 | block id c ih =>
  intro hd x a fr e fr' s' Q hg hx hf hro h hp
  simp only [yb] at hd
  simp only [exec] at h
  refine wpIn_block ?_
  split at h
  ·rename_i j fr1 s1 hb
   refine ih hd x a fr _ _ _ _ hg hx hf hro hb fun y E a' hgr ho hf'=>?_
   cases E <;> try exact ho.elim
   simp only [Out] at ho
   subst ho
   simp only [Exit.inBlock]
   split at h
   ·rename_i hj
    rw [if_pos hj]
    simp only [Option.some.injEq,Prod.mk.injEq] at h
    obtain ⟨rfl,rfl,rfl⟩:=h
    exact hp y .normal a' hgr trivial hf'
   ·rename_i hj
    rw [if_neg hj]
    simp only [Option.some.injEq,Prod.mk.injEq] at h
    obtain ⟨rfl,rfl,rfl⟩:=h
    exact hp y (.exit _) a' hgr rfl hf'
  ·rename_i hne
   refine ih hd x a fr e fr' s' _ hg hx hf hro h fun y E a' hgr ho hf'=>?_
   cases E with
   | exit id' =>
    cases e <;> try exact ho.elim
    exact absurd h (hne _ _ _)
   | _=>exact hp y _ a' hgr ho hf'
 | loop c ih =>
  intro hd x a fr e fr' s' Q hg hx hf hro h hp
  simp only [yb] at hd
  simp only [exec] at h
  exact wpIn_loop_rounds fuel (iter_ok (fun x a fr e fr' s' Q hg hx hf hro=>ih hd x a fr e fr' s' Q hg hx hf hro) fuel x a fr e fr' s' hg hx hf hro h hp)
 | exit id =>
  intro hd x a fr e fr' s' Q hg hx hf hro h hp
  simp only [exec,Option.some.injEq,Prod.mk.injEq] at h
  obtain ⟨rfl,rfl,rfl⟩:=h
  exact wpIn_exit (hp x (.exit _) a (.refl hx) rfl hf)
 | ret =>
  intro hd x a fr e fr' s' Q hg hx hf hro h hp
  simp only [exec,Option.some.injEq,Prod.mk.injEq] at h
  obtain ⟨rfl,rfl,rfl⟩:=h
  exact wpIn_ret (hp x .ret a (.refl hx) trivial hf)
 | scope c ih =>
  intro hd x a fr e fr' s' Q hg hx hf hro h hp
  simp only [yb] at hd
  simp only [exec] at h
  refine xQ (ih hd x a fr e fr' s' _ hg hx hf hro h fun y E a' hgr ho hf'=>?_)
  cases E with
  | goto l=>cases e <;> exact ho.elim
  | _=>exact hp y _ a' hgr ho hf'
 | rangeFunc g ps asg bd _ _ =>
  intro hd x a fr e fr' s' Q hg hx hf hro h hp
  simp only [exec] at h
  exact rangeL_ok hc hcf hg hx hf hro h hp
 | _ =>
  intro hd x a fr e fr' s' Q hg hx hf hro h hp
  simp [exec] at h
end
end
end Go.Proofs.YtchlfjhbijmdiaaGreatDoor.Ai

