/- Part of a reckoning of a Go program over abstract values, proved sound against the model. -/
import Derived.Test.YtchlfjhbijmdiaaGreatDoorAiC4
set_option linter.unusedSimpArgs false
set_option linter.unusedVariables false
namespace Go.Proofs.YtchlfjhbijmdiaaGreatDoor.Ai

section
variable {cfg:Cfg} {cf:CF} {sl:Bool} {tm tm':List V}

theorem ev_congr {p:Operand} (h:∀t,p=.tmp t→tm[t]?=tm'[t]?):ev cfg tm p=ev cfg tm' p:=by
 cases p with
 | tmp t =>
  show nth tm t=nth tm' t
  rw [vL,vL]
  exact h t rfl
 | _=>rfl

theorem vV:∀{l:List Operand},(∀p∈l,ev cfg tm p=ev cfg tm' p)→evL cfg tm l=evL cfg tm' l
 | [],_=>rfl
 | p::l,h=>by
  simp only [evL]
  rw [h p (by simp),vV fun q hq=>h q (by simp [hq])]

theorem vi:∀{l:List (Nat×Operand)},(∀p∈l.map (·.2),ev cfg tm p=ev cfg tm' p)→yP cfg tm l=yP cfg tm' l
 | [],_=>rfl
 | (i,p)::l,h=>by
  simp only [yP]
  rw [h p (by simp),vi fun q hq=>h q (by simp at hq ⊢; exact .inr hq)]

theorem evO_congr {o:Option Operand} (h:∀p,o=some p→ev cfg tm p=ev cfg tm' p):evO cfg tm o=evO cfg tm' o:=by
 cases o with
 | none=>rfl
 | some p=>simp only [evO]; rw [h p rfl]

theorem doCall_congr {c:Call} (h:∀p∈c.operands,ev cfg tm p=ev cfg tm' p) (nw:Nat) (s:S):yY cfg cf sl nw c tm s=yY cfg cf sl nw c tm' s:=by
 have hargs:evL cfg tm c.args.toList=evL cfg tm' c.args.toList:=vV fun p hp=>h p (by simp [Call.operands]; exact .inr (by simpa using hp))
 unfold yY
 rw [hargs]
 cases hc:c.callee with
 | builtin b=>rfl
 | invoke r m =>
  have:=h r (by simp [Call.operands,hc])
  simp only [this]
 | value f =>
  have:=h f (by simp [Call.operands,hc])
  simp only [this]

theorem doOp_congr {o:Oper} (h:∀p∈o.op.operands,ev cfg tm p=ev cfg tm' p) (nw:Nat) (s:S):yS cfg cf sl nw o tm s=yS cfg cf sl nw o tm' s:=by
 rw [xZ,xZ]
 unfold doOp0
 cases hop:o.op <;> simp only [hop,Op.operands] at h ⊢
 case build t ps=>rw [vi fun p hp=>h p (by simpa using hp)]
 case buildSlice t n ps=>rw [vi fun p hp=>h p (by simpa using hp)]
 case makeFunc fn a b=>rw [vV fun p hp=>h p (by simp at hp ⊢; exact .inl hp),vV (l:=b.toList) fun p hp=>h p (by simp at hp ⊢; exact .inr hp)]
 case slice t x lo hi mx=>rw [h x (by simp),evO_congr (o:=lo) fun p hp=>h p (by simp [hp]),evO_congr (o:=hi) fun p hp=>h p (by simp [hp]),evO_congr (o:=mx) fun p hp=>h p (by simp [hp])]
 case makeMap t r =>
  cases r with
  | none=>rfl
  | some p=>simp only; rw [h p (by simp)]
 case call c=>exact doCall_congr h nw s
 case defer c =>
  have hargs:evL cfg tm c.args.toList=evL cfg tm' c.args.toList:=vV fun p hp=>h p (by simp [Call.operands]; exact .inr (by simpa using hp))
  rw [hargs]
  cases hc:c.callee with
  | value f =>
   have:=h f (by simp [Call.operands,hc])
   cases evL cfg tm' c.args.toList with
   | none=>rfl
   | some args=>simp only [this]
  | _=>rfl
 case pick c a b =>
  rw [h c (by simp)]
  have ha:=h a (by simp)
  have hb:=h b (by simp)
  split
  ·rename_i t _
   cases t
   ·simp only [Bool.false_eq_true,if_false,hb]
   ·simp only [if_true,ha]
  ·rfl
 all_goals (simp_all; done)

theorem wantedV_congr {ops:Array Oper} {o:Oper} (h:∀g w d,o.guard=some (g,w)→(ops[g]?).bind (·.dst)=some d→tm[d]?=tm'[d]?):yk ops o tm=yk ops o tm':=by
 unfold yk
 cases hg:o.guard with
 | none=>rfl
 | some p =>
  obtain ⟨g,w⟩:=p
  simp only [wd]
  cases hd:(ops[g]?).bind (·.dst) with
  | none=>rfl
  | some d=>simp only [Option.bind_some,vL]; rw [h g w d hg hd]

theorem looks_congr {ops:Array Oper} {o:Oper} (h:∀d∈looks ops o,tm[d]?=tm'[d]?):(∀nw s,yS cfg cf sl nw o tm s=yS cfg cf sl nw o tm' s)∧yk ops o tm=yk ops o tm':=by
 refine ⟨fun nw s=>doOp_congr (fun p hp=>ev_congr fun t ht=>h t ?_) nw s,wantedV_congr fun g w d hg hd=>h d ?_⟩
 ·subst ht
  exact List.mem_append_left _ (List.mem_filterMap.2 ⟨.tmp t,by simpa using hp,rfl⟩)
 ·refine List.mem_append_right _ ?_
  simp only [hg]
  rw [hd]; simp

/-! kinds -/
theorem aConvert_pure {nw:Nat} {s:S} {t u:TypeId} {x:V} {i:ATy} (hi:cfg.ty t=some i) (h:(∀e,i.und≠.slice e)∧(∀e,i.und≠.pointer e)∧i.und≠.unsafePointer)
  (h2:i.und=.string→∃j,cfg.ty u=some j∧∀e,j.und≠.slice e) {r:V×S} (hr:yo cfg nw s t u x=some r) (nw':Nat) (s':S):r.2=s∧yo cfg nw' s' t u x=some (r.1,s'):=by
 unfold yo at hr ⊢
 simp only [hi,Option.bind_eq_bind,Option.bind_some] at hr ⊢
 cases hu:cfg.ty u with
 | none=>rw [hu] at hr; simp at hr
 | some j =>
  rw [hu] at hr
  simp only [Option.bind_some] at hr ⊢
  split at hr
  ·injection hr with hr; subst hr; simp_all
  ·injection hr with hr; subst hr; simp_all
  all_goals (simp_all; done)

theorem doOp_pure {o:Oper} (hk:zC cfg o=0) (nw:Nat) (s:S) {r:R} (h:yS cfg cf sl nw o tm s=some r):∃v,r=.val v s∧∀nw' s',yS cfg cf sl nw' o tm s'=some (.val v s'):=by
 cases hop:o.op <;> simp only [zC,hop,reduceCtorEq,Nat.reduceEqDiff] at hk <;> try contradiction
 all_goals simp only [xZ,doOp0,hop] at h ⊢
 case move=>simp only [Option.map_eq_some_iff] at h; obtain ⟨v,hv,rfl⟩:=h; exact ⟨v,rfl,fun _ _=>by simp [hv]⟩
 case assign=>simp only [Option.map_eq_some_iff] at h; obtain ⟨v,hv,rfl⟩:=h; exact ⟨v,rfl,fun _ _=>by simp [hv]⟩
 case pick =>
  split at h
  ·simp only [Option.map_eq_some_iff] at h; obtain ⟨v,hv,rfl⟩:=h; exact ⟨v,rfl,fun _ _=>by simp [hv]⟩
  ·cases h
 case build =>
  simp only [Option.bind_eq_bind,Option.bind_eq_some_iff,Option.map_eq_some_iff] at h
  obtain ⟨a,ha,v,hv,rfl⟩:=h
  exact ⟨v,rfl,fun _ _=>by simp [ha,hv]⟩
 case nilCheck =>
  split at h
  ·injection h with h; exact ⟨_,h.symm,fun _ _=>rfl⟩
  ·injection h with h; exact ⟨_,h.symm,fun _ _=>rfl⟩
  ·injection h with h; exact ⟨_,h.symm,fun _ _=>rfl⟩
  ·injection h with h; exact ⟨_,h.symm,fun _ _=>rfl⟩
  ·cases h
 case binOp =>
  simp only [Option.bind_eq_bind,Option.bind_eq_some_iff,Option.map_eq_some_iff] at h
  obtain ⟨a,ha,b,hb,v,hv,rfl⟩:=h
  exact ⟨v,rfl,fun _ _=>by simp [ha,hb,hv]⟩
 case unOp =>
  simp only [Option.bind_eq_bind,Option.bind_eq_some_iff,Option.map_eq_some_iff] at h
  obtain ⟨a,ha,v,hv,rfl⟩:=h
  exact ⟨v,rfl,fun _ _=>by simp [ha,hv]⟩
 case makeInterface =>
  simp only [Option.bind_eq_bind,Option.bind_eq_some_iff] at h
  obtain ⟨b,hb,a,ha,h⟩:=h
  split at h
  ·cases h
  ·injection h with h
   refine ⟨_,h.symm,fun _ _=>?_⟩
   simp only [hb,ha,Option.bind_eq_bind,Option.bind_some]
 case makeFunc =>
  simp only [Option.bind_eq_bind,Option.bind_eq_some_iff] at h
  obtain ⟨b,hb,a,ha,h⟩:=h
  injection h with h
  exact ⟨_,h.symm,fun _ _=>by simp [ha,hb]⟩
 case slice =>
  simp only [Option.bind_eq_bind,Option.bind_eq_some_iff,Option.map_eq_some_iff] at h
  obtain ⟨a,ha,b,hb,c,hc,d,hd,e,he,v,hv,rfl⟩:=h
  exact ⟨v,rfl,fun _ _=>by simp [ha,hb,hc,hd,he,hv]⟩
 case fieldAddr =>
  simp only [Option.bind_eq_bind,Option.bind_eq_some_iff,Option.map_eq_some_iff] at h
  obtain ⟨a,ha,v,hv,rfl⟩:=h
  exact ⟨v,rfl,fun _ _=>by simp [ha,hv]⟩
 case field =>
  simp only [Option.bind_eq_bind,Option.bind_eq_some_iff,Option.map_eq_some_iff] at h
  obtain ⟨a,ha,v,hv,rfl⟩:=h
  exact ⟨v,rfl,fun _ _=>by simp [ha,hv]⟩
 case indexAddr =>
  simp only [Option.bind_eq_bind,Option.bind_eq_some_iff,Option.map_eq_some_iff] at h
  obtain ⟨a,ha,b,hb,v,hv,rfl⟩:=h
  exact ⟨v,rfl,fun _ _=>by simp [ha,hb,hv]⟩
 case index =>
  simp only [Option.bind_eq_bind,Option.bind_eq_some_iff,Option.map_eq_some_iff] at h
  obtain ⟨a,ha,b,hb,v,hv,rfl⟩:=h
  exact ⟨v,rfl,fun _ _=>by simp [ha,hb,hv]⟩
 case convert t u p =>
  simp only [Option.bind_eq_bind,Option.bind_eq_some_iff,Option.map_eq_some_iff] at h
  obtain ⟨a,ha,r',hv,rfl⟩:=h
  cases hi:cfg.ty t with
  | none=>rw [hi] at hk; simp at hk
  | some i =>
   rw [hi] at hk
   simp only at hk
   have hpl:(∀e,i.und≠.slice e)∧(∀e,i.und≠.pointer e)∧i.und≠.unsafePointer:=by
    refine ⟨fun e he=>?_,fun e he=>?_,fun he=>?_⟩ <;> (rw [he] at hk; simp at hk)
   have hst:i.und=.string→∃j,cfg.ty u=some j∧∀e,j.und≠.slice e:=by
    intro he
    rw [he] at hk
    simp only at hk
    cases hu:cfg.ty u with
    | none=>rw [hu] at hk; simp at hk
    | some j =>
     rw [hu] at hk
     refine ⟨j,rfl,fun e he'=>?_⟩
     simp [he'] at hk
   have key:=fun nw' s'=>aConvert_pure hi hpl hst hv nw' s'
   refine ⟨r'.1,by rw [(key 0 s).1],fun nw' s'=>?_⟩
   simp [ha,(key nw' s').2]
 case typeAssert =>
  simp only [Option.bind_eq_bind,Option.bind_eq_some_iff] at h ⊢
  obtain ⟨b,hb,h⟩:=h
  simp only [hb]
  split at h
  ·cases h
  ·split at h
   ·injection h with h; subst h
    refine ⟨_,rfl,fun _ _=>⟨b,rfl,?_⟩⟩
    split <;> simp_all
   ·split at h
    ·injection h with h; subst h
     refine ⟨_,rfl,fun _ _=>⟨b,rfl,?_⟩⟩
     split <;> simp_all
    ·cases h
  ·split at h
   ·injection h with h; subst h
    refine ⟨_,rfl,fun _ _=>⟨b,rfl,?_⟩⟩
    split <;> simp_all
   ·cases h
  ·cases h
 case extract =>
  split at h
  ·simp only [Option.map_eq_some_iff] at h; obtain ⟨v,hv,rfl⟩:=h; exact ⟨v,rfl,fun _ _=>by simp [hv]⟩
  ·cases h
 case call c =>
  unfold yY at h ⊢
  split at h
  ·cases h
  rename_i args hargs
  cases hc:c.callee with
  | invoke r m=>rw [hc] at hk; simp at hk
  | builtin b =>
   rw [hc] at hk
   simp only [hc] at h ⊢
   cases b <;> simp at hk
   ·cases args with
    | nil=>simp [ye] at h
    | cons x l =>
     simp only [ye,Option.map_eq_some_iff] at h
     obtain ⟨v,hv,rfl⟩:=h
     exact ⟨v,rfl,fun _ _=>by simp [ye,hv]⟩
   ·cases args with
    | nil=>simp [ye] at h
    | cons x l =>
     simp only [ye,Option.map_eq_some_iff] at h
     obtain ⟨v,hv,rfl⟩:=h
     exact ⟨v,rfl,fun _ _=>by simp [ye,hv]⟩
  | value f =>
   rw [hc] at hk
   simp only [hc] at h ⊢
   cases f with
   | func g =>
    simp only at hk
    simp only [ev,List.nil_append,List.append_nil] at h ⊢
    cases hfn:cfg.fn g with
    | none=>rw [hfn] at h; simp at h
    | some fn =>
     rw [hfn] at h hk
     simp only at h ⊢ hk
     have h1:fn.body.isNone=true→∃v,r=.val v s∧∀(nw':Nat) (s':S),(if fn.body.isNone=true then (extOp cfg g args).map (R.val · s') else xq cfg cf nw' g args s')=some (.val v s'):=by
      intro hb
      rw [if_pos hb] at h
      simp only [Option.map_eq_some_iff] at h
      obtain ⟨v,hv,rfl⟩:=h
      exact ⟨v,rfl,fun _ _=>by rw [if_pos hb,hv]; rfl⟩
     by_cases hb:fn.body.isNone=true
     ·exact h1 hb
     ·rw [if_neg hb] at h
      simp only [if_neg hb] at hk ⊢
      split at hk
      ·rename_i hp
       have hca:∀nw s,xq cfg cf nw g args s=zF cfg cf g args s:=fun _ _=>by simp only [xq,hp]
       simp only [hca] at h ⊢
       unfold zF at h ⊢
       cases ht:cfg.tab g args with
       | some v =>
        rw [ht] at h
        injection h with h
        exact ⟨v,h.symm,fun _ _=>rfl⟩
       | none =>
        rw [ht] at h
        simp only [hp,Option.map_eq_some_iff] at h ⊢
        obtain ⟨v,hv,rfl⟩:=h
        exact ⟨v,rfl,fun _ _=>⟨v,hv,rfl⟩⟩
      all_goals simp at hk
   | _=>simp at hk
end
end Go.Proofs.YtchlfjhbijmdiaaGreatDoor.Ai

namespace Go.Proofs.YtchlfjhbijmdiaaGreatDoor.Ai

theorem elemsOf_ext {s s':S} (he:Ext s s') {sz:Nat} {v:V} {r:List V×Nat} (h:zh s sz v=some r):zh s' sz v=some r:=by
 cases v <;> simp only [zh] at h ⊢ <;> try exact h
 rename_i id off len sz' ag cp
 split at h
 ·rename_i e
  rw [if_pos e]
  cases hg:s.get id with
  | none=>rw [hg] at h; simp at h
  | some o =>
   rw [hg] at h
   rw [he id o hg]
   exact h
 ·cases h

theorem aLoad_ext {s s':S} (he:Ext s s') {n:Nat} {ag:Bool} {p v:V} (h:zt s n ag p=some v):zt s' n ag p=some v:=by
 cases p <;> simp only [zt] at h ⊢ <;> try exact h
 rename_i id off
 cases hg:s.get id with
 | none=>rw [hg] at h; simp at h
 | some o =>
  rw [hg] at h
  rw [he id o hg]
  exact h

theorem mapEnts_ext {s s':S} (he:Ext s s') {m:V} {r:List (V×V×Nat)} (h:zi s m=some r):zi s' m=some r:=by
 cases m <;> simp only [zi] at h ⊢ <;> try exact h
 rename_i id
 cases hg:s.get id with
 | none=>rw [hg] at h; simp at h
 | some o =>
  rw [hg] at h
  rw [he id o hg]
  exact h

theorem aLen_ext {s s':S} (he:Ext s s') {u:TypeDesc} {x v:V} (h:zy s u x=some v):zy s' u x=some v:=by
 unfold zy at h ⊢
 split at h <;> try exact h
 rename_i id
 cases hg:s.get id with
 | none=>rw [hg] at h; simp at h
 | some o =>
  rw [hg] at h
  rw [he id o hg]
  exact h

theorem aLookup_ext {cfg:Cfg} {s s':S} (he:Ext s s') {t:TypeId} {m k v:V} {ok:Bool} (h:yI cfg s t m k ok=some v):yI cfg s' t m k ok=some v:=by
 unfold yI at h ⊢
 simp only [Option.bind_eq_bind,Option.bind_eq_some_iff] at h ⊢
 obtain ⟨a,ha,h⟩:=h
 refine ⟨a,ha,?_⟩
 split at h
 ·rename_i kt e hd
  simp only [Option.bind_eq_some_iff] at h ⊢
  obtain ⟨z,hz,h⟩:=h
  refine ⟨z,hz,?_⟩
  split at h
  ·cases h
  ·rename_i hp
   rw [if_neg hp]
   simp only [Option.bind_eq_some_iff] at h ⊢
   obtain ⟨es,hes,h⟩:=h
   exact ⟨es,mapEnts_ext he hes,h⟩
 ·cases h

theorem see_ext:∀(k:Nat),(∀(s s':S) (v v':V),Ext s s'→see k s v=some v'→see k s' v=some v') ∧
  (∀(s s':S) (l l':List V),Ext s s'→vy k s l=some l'→vy k s' l=some l'):=by
 intro k
 induction k with
 | zero=>exact ⟨fun s s' v v' _ h=>by simp [see] at h,fun s s' l l' _ h=>by simp [vy] at h⟩
 | succ k ih =>
  obtain ⟨ih1,ih2⟩:=ih
  refine ⟨fun s s' v v' he h=>?_,fun s s' l l' he h=>?_⟩
  ·cases v <;> simp only [see] at h ⊢ <;> try exact h
   case arr id off len sz ag cp =>
    cases hg:s.get id with
    | none=>rw [hg] at h; simp at h
    | some o =>
     rw [hg] at h
     rw [he id o hg]
     cases o with
     | cells cs frz ty ex =>
      simp only at h ⊢
      split at h
      ·rename_i hc
       rw [if_pos hc]
       split at h
       ·rename_i cs' hl
        rw [ih2 _ _ _ _ he hl]
        exact h
       ·cases h
      ·cases h
     | _=>simp at h
   case ptr id off =>
    cases hg:s.get id with
    | none=>rw [hg] at h; simp at h
    | some o =>
     rw [hg] at h
     rw [he id o hg]
     cases o with
     | cells cs frz ty ex =>
      simp only at h ⊢
      split at h
      ·rename_i cs' hl
       rw [ih2 _ _ _ _ he hl]
       exact h
      ·cases h
     | _=>simp at h
   case func f x y =>
    split at h
    ·rename_i a' b' h1 h2
     rw [ih2 _ _ _ _ he h1,ih2 _ _ _ _ he h2]
     exact h
    ·cases h
   case agg cs =>
    split at h
    ·rename_i cs' hl
     rw [ih2 _ _ _ _ he hl]; exact h
    ·cases h
   case tup cs =>
    split at h
    ·rename_i cs' hl
     rw [ih2 _ _ _ _ he hl]; exact h
    ·cases h
   case iface t v =>
    split at h
    ·rename_i cs' hl
     rw [ih1 _ _ _ _ he hl]; exact h
    ·cases h
  ·cases l with
   | nil=>exact h
   | cons v l =>
    simp only [vy] at h ⊢
    split at h
    ·rename_i v1 hv
     rw [ih1 _ _ _ _ he hv]
     simp only
     split at h
     ·rename_i l1 hl
      rw [ih2 _ _ _ _ he hl]; exact h
     ·cases h
    ·cases h

theorem lentCall_ext {cfg:Cfg} {cf:CallF} {s s':S} (he:Ext s s') {f:FuncId} {args:List V} {v:V} (h:wU cfg cf f args s=some v):wU cfg cf f args s'=some v:=by
 unfold wU at h ⊢
 cases hl:vy tV s args with
 | none=>rw [hl] at h; simp at h
 | some l' =>
  rw [hl] at h
  rw [(see_ext tV).2 _ _ _ _ he hl]
  exact h

section
variable {cfg:Cfg} {cf:CF} {sl:Bool} {tm:List V}

theorem aConvert_read {nw:Nat} {s s':S} (he:Ext s s') {t u:TypeId} {x:V} {i:ATy} (hi:cfg.ty t=some i) (h:(∃e,i.und=.slice e)∨(∃e,i.und=.pointer e)∨i.und=.unsafePointer)
  {r:V×S} (hr:yo cfg nw s t u x=some r) (nw':Nat):r.2=s∧yo cfg nw' s' t u x=some (r.1,s'):=by
 unfold yo at hr ⊢
 simp only [hi,Option.bind_eq_bind,Option.bind_some] at hr ⊢
 cases hu:cfg.ty u with
 | none=>rw [hu] at hr; simp at hr
 | some j =>
  rw [hu] at hr
  simp only [Option.bind_some] at hr ⊢
  split at hr
  ·simp_all
  ·simp_all
  ·rename_i e e1 e2
   simp only [Option.bind_eq_some_iff] at hr ⊢
   obtain ⟨k,hk,hr⟩:=hr
   split at hr
   ·rename_i ek
    split at hr
    ·injection hr with hr; subst hr
     refine ⟨rfl,k,hk,?_⟩
     simp [ek]
    ·rename_i hnn
     simp only [Option.bind_eq_some_iff] at hr
     obtain ⟨⟨cs,n⟩,hel,l,hl,hr⟩:=hr
     split at hr
     ·cases hr
     ·rename_i hns
      injection hr with hr; subst hr
      refine ⟨rfl,k,hk,?_⟩
      simp only [ek]
      simp only [elemsOf_ext he hel,Option.bind_some,hl]
   ·cases hr
  ·simp_all
  ·rename_i e1 e2
   injection hr with hr; subst hr
   simp [e1,e2]
  ·rename_i e id off e1 e2
   simp only [Option.bind_eq_some_iff] at hr ⊢
   obtain ⟨k,hk,hr⟩:=hr
   cases hg:s.get id with
   | none=>rw [hg] at hr; simp at hr
   | some o =>
    rw [hg] at hr
    cases o with
    | map es c=>simp at hr
    | iter m a b c=>simp at hr
    | siter a b=>simp at hr
    | dblk a=>simp at hr
    | loop a b c d e f=>simp at hr
    | cells cs frz ty ex =>
     simp only at hr
     split at hr
     ·rename_i hc
      injection hr with hr; subst hr
      exact ⟨rfl,k,hk,by rw [he id _ hg]; simp [hc]⟩
     ·cases hr
  ·rename_i e1 e2
   injection hr with hr; subst hr
   simp [e1,e2]
  ·rename_i e id off e1 e2
   simp only [Option.bind_eq_some_iff] at hr ⊢
   obtain ⟨k,hk,hr⟩:=hr
   cases hg:s.get id with
   | none=>rw [hg] at hr; simp at hr
   | some o =>
    rw [hg] at hr
    cases o with
    | map es c=>simp at hr
    | iter m a b c=>simp at hr
    | siter a b=>simp at hr
    | dblk a=>simp at hr
    | loop a b c d e f=>simp at hr
    | cells cs frz ty ex =>
     simp only at hr
     split at hr
     ·rename_i hc
      injection hr with hr; subst hr
      exact ⟨rfl,k,hk,by rw [he id _ hg]; simp [hc]⟩
     ·cases hr
  ·cases hr

theorem doOp_read {o:Oper} (hk:zC cfg o=1) (nw:Nat) (s:S) {r:R} (h:yS cfg cf sl nw o tm s=some r):∃v,r=.val v s∧∀nw' s',Ext s s'→yS cfg cf sl nw' o tm s'=some (.val v s'):=by
 cases hop:o.op <;> simp only [zC,hop,reduceCtorEq,Nat.reduceEqDiff] at hk <;> try contradiction
 all_goals simp only [xZ,doOp0,hop] at h ⊢
 case load =>
  simp only [Option.bind_eq_bind,Option.bind_eq_some_iff,Option.map_eq_some_iff] at h
  obtain ⟨a,ha,b,hb,v,hv,rfl⟩:=h
  exact ⟨v,rfl,fun _ _ he=>by simp [ha,hb,aLoad_ext he hv]⟩
 case lookup =>
  simp only [Option.bind_eq_bind,Option.bind_eq_some_iff,Option.map_eq_some_iff] at h
  obtain ⟨a,ha,b,hb,v,hv,rfl⟩:=h
  exact ⟨v,rfl,fun _ _ he=>by simp [ha,hb,aLookup_ext he hv]⟩
 case convert t u p =>
  simp only [Option.bind_eq_bind,Option.bind_eq_some_iff,Option.map_eq_some_iff] at h
  obtain ⟨a,ha,r',hv,rfl⟩:=h
  cases hi:cfg.ty t with
  | none=>rw [hi] at hk; simp at hk
  | some i =>
   rw [hi] at hk
   simp only at hk
   have hpl:(∃e,i.und=.slice e)∨(∃e,i.und=.pointer e)∨i.und=.unsafePointer:=by
    cases hd:i.und <;> rw [hd] at hk <;> simp at hk ⊢
    cases hu:cfg.ty u with
    | none=>rw [hu] at hk; simp at hk
    | some j =>
     rw [hu] at hk
     simp only at hk
     split at hk <;> simp at hk
   have key:=fun nw' s' he=>aConvert_read (s':=s') he hi hpl hv nw'
   refine ⟨r'.1,by rw [(key 0 s (.refl s)).1],fun nw' s' he=>?_⟩
   simp [ha,(key nw' s' he).2]
 case call c =>
  unfold yY at h ⊢
  split at h
  ·cases h
  rename_i args hargs
  cases hc:c.callee with
  | invoke r m=>rw [hc] at hk; simp at hk
  | builtin b =>
   rw [hc] at hk
   simp only [hc] at h ⊢
   cases b <;> simp at hk
   unfold ye at h ⊢
   split at h <;> try (simp at *; done)
   rename_i t l x _ _
   simp only [Option.bind_eq_bind,Option.bind_eq_some_iff,Option.map_eq_some_iff] at h
   obtain ⟨a,ha,v,hv,rfl⟩:=h
   exact ⟨v,rfl,fun _ _ he=>by simp [*,aLen_ext he hv]⟩
  | value f =>
   rw [hc] at hk
   simp only [hc] at h ⊢
   cases f with
   | func g =>
    simp only at hk
    simp only [ev,List.nil_append,List.append_nil] at h ⊢
    cases hfn:cfg.fn g with
    | none=>rw [hfn] at h; simp at h
    | some fn =>
     rw [hfn] at h hk
     simp only at h ⊢ hk
     have hp:cfg.pure g=2:=by
      split at hk <;> first | assumption | (simp at hk; done) | (split at hk <;> simp at hk)
     by_cases hb:fn.body.isNone=true
     ·rw [if_pos hb] at h
      simp only [extOp,hp] at h
      simp at h
     ·rw [if_neg hb] at h
      simp only [if_neg hb]
      have hca:∀nw s,xq cfg cf nw g args s=zF cfg cf g args s:=fun _ _=>by simp only [xq,hp]
      simp only [hca] at h ⊢
      unfold zF at h ⊢
      cases ht:cfg.tab g args with
      | some v =>
       rw [ht] at h
       injection h with h
       exact ⟨v,h.symm,fun _ _ _=>rfl⟩
      | none =>
       rw [ht] at h
       simp only [hp,Option.map_eq_some_iff] at h ⊢
       obtain ⟨v,hv,rfl⟩:=h
       exact ⟨v,rfl,fun _ _ he=>⟨v,lentCall_ext he hv,rfl⟩⟩
   | _=>simp at hk

theorem doOp_new {o:Oper} (hk:zC cfg o=2) (nw:Nat) (s:S) {r:R} (h:yS cfg cf sl nw o tm s=some r):∃v ob,r=.val v (s.add nw ob)∧∀s',yS cfg cf sl nw o tm s'=some (.val v (s'.add nw ob)):=by
 cases hop:o.op <;> simp only [zC,hop,reduceCtorEq,Nat.reduceEqDiff] at hk <;> try contradiction
 all_goals simp only [xZ,doOp0,hop] at h ⊢
 case alloc =>
  simp only [Option.bind_eq_bind,Option.bind_eq_some_iff] at h
  obtain ⟨a,ha,h⟩:=h
  injection h with h; subst h
  exact ⟨_,_,rfl,fun _=>by simp [ha]⟩
 case box =>
  simp only [Option.bind_eq_bind,Option.bind_eq_some_iff] at h
  obtain ⟨a,ha,h⟩:=h
  split at h
  ·rename_i hone
   injection h with h; subst h
   exact ⟨_,_,rfl,fun _=>by simp [ha]; simpa using hone⟩
  ·cases h
 case buildSlice t n ps =>
  simp only [Option.bind_eq_bind,Option.bind_eq_some_iff,Option.map_eq_some_iff] at h
  obtain ⟨qs,hq,⟨v,s1⟩,hv,rfl⟩:=h
  have key:∃ob,s1=s.add nw ob∧∀s',za cfg nw s' t n qs=some (v,s'.add nw ob):=by
   unfold za at hv ⊢
   simp only [Option.bind_eq_bind,Option.bind_eq_some_iff] at hv ⊢
   obtain ⟨a,ha,hv⟩:=hv
   split at hv
   ·rename_i e he
    simp only [Option.bind_eq_some_iff] at hv
    obtain ⟨b,hb,hv⟩:=hv
    split at hv
    ·cases hv
    ·rename_i hsz
     simp only [Option.bind_eq_some_iff] at hv
     obtain ⟨cs,hcs,hv⟩:=hv
     split at hv
     ·rename_i hone
      simp only [Option.some.injEq,Prod.mk.injEq] at hv
      obtain ⟨rfl,rfl⟩:=hv
      refine ⟨_,rfl,fun s'=>⟨a,ha,?_⟩⟩
      simp only [he,hb,Option.bind_some,hsz,if_false,hcs,hone,if_true]
     ·cases hv
   ·cases hv
  obtain ⟨ob,h1,h2⟩:=key
  exact ⟨v,ob,by rw [h1],fun s'=>by simp [hq,h2]⟩
 case makeMap t r' =>
  cases r' with
  | none =>
   simp only at h ⊢
   injection h with h; subst h
   exact ⟨_,_,rfl,fun _=>rfl⟩
  | some p =>
   simp only [Option.bind_eq_bind,Option.bind_eq_some_iff] at h ⊢
   obtain ⟨a,ha,h⟩:=h
   split at h
   ·rename_i hm hv
    injection h with h; subst h
    exact ⟨_,_,rfl,fun _=>⟨a,ha,by simp [hm,hv]⟩⟩
   ·cases h
 case makeSlice t l c =>
  simp only [Option.bind_eq_bind,Option.bind_eq_some_iff,Option.map_eq_some_iff] at h
  obtain ⟨lv,hlv,cv,hcv,⟨v,s1⟩,hv,rfl⟩:=h
  have key:∃ob,s1=s.add nw ob∧∀s',zb cfg nw s' t lv cv=some (v,s'.add nw ob):=by
   unfold zb at hv ⊢
   simp only [Option.bind_eq_bind,Option.bind_eq_some_iff] at hv ⊢
   obtain ⟨a,ha,hv⟩:=hv
   split at hv
   ·rename_i e he
    simp only [Option.bind_eq_some_iff] at hv
    obtain ⟨b,hb,n,hn,c',hc',hv⟩:=hv
    split at hv
    ·rename_i hcond
     simp only [Option.some.injEq,Prod.mk.injEq] at hv
     obtain ⟨rfl,rfl⟩:=hv
     refine ⟨_,rfl,fun s'=>⟨a,ha,?_⟩⟩
     simp [he,hb,hn,hc',hcond]
    ·cases hv
   ·cases hv
  obtain ⟨ob,h1,h2⟩:=key
  exact ⟨v,ob,by rw [h1],fun s'=>by simp [hlv,hcv,h2]⟩
 case convert t u p =>
  simp only [Option.bind_eq_bind,Option.bind_eq_some_iff,Option.map_eq_some_iff] at h
  obtain ⟨a,ha,⟨v,s1⟩,hv,rfl⟩:=h
  cases hi:cfg.ty t with
  | none=>rw [hi] at hk; simp at hk
  | some i =>
   rw [hi] at hk
   simp only at hk
   have hst:i.und=.string∧∃j e,cfg.ty u=some j∧j.und=.slice e:=by
    cases hd:i.und <;> rw [hd] at hk <;> simp at hk ⊢
    cases hu:cfg.ty u with
    | none=>rw [hu] at hk; simp at hk
    | some j =>
     rw [hu] at hk
     simp only at hk
     split at hk
     ·rename_i e he; exact ⟨j,rfl,e,he⟩
     ·simp at hk
   obtain ⟨hstr,j,e,hj,hje⟩:=hst
   have key:∃ob,s1=s.add nw ob∧∀s',yo cfg nw s' t u a=some (v,s'.add nw ob):=by
    unfold yo at hv ⊢
    simp only [hi,hj,Option.bind_eq_bind,Option.bind_some,hstr,hje] at hv ⊢
    cases a <;> simp only [reduceCtorEq,Option.bind_eq_some_iff] at hv ⊢
    obtain ⟨k,hk',hv⟩:=hv
    split at hv
    ·rename_i ek
     split at hv
     ·rename_i hsz
      simp only [Option.some.injEq,Prod.mk.injEq] at hv
      obtain ⟨rfl,rfl⟩:=hv
      exact ⟨_,rfl,fun s'=>⟨k,hk',by simp [ek,hsz]⟩⟩
     ·cases hv
    ·cases hv
   obtain ⟨ob,h1,h2⟩:=key
   exact ⟨v,ob,by rw [h1],fun s'=>by simp [ha,h2]⟩
 case call c =>
  cases hc:c.callee with
  | invoke r m=>rw [hc] at hk; simp at hk
  | builtin b=>rw [hc] at hk; cases b <;> simp at hk
  | value f =>
   rw [hc] at hk
   cases f <;> simp only at hk <;> try (simp at hk; done)
   split at hk <;> try (simp at hk; done)
   all_goals (split at hk <;> first | (simp at hk; done) | (split at hk <;> simp at hk))
end
end Go.Proofs.YtchlfjhbijmdiaaGreatDoor.Ai

