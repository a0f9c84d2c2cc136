/- Part of a reckoning of a Go program over abstract values, proved sound against the model. -/
import Derived.Test.YtchlfjhbijmdiaaGreatDoorAiC2
import Derived.LoopN
import Derived.Scope
set_option linter.unusedSimpArgs false
set_option linter.unusedVariables false
namespace Go.Proofs.YtchlfjhbijmdiaaGreatDoor.Ai
open Go.RowKit (Below)

/-! frames -/
inductive DRepL (x:Cx):List DF→List Deferred→Prop
 | nil:DRepL x [] []
 | cons {d:DF} {d':Deferred} {l:List DF} {m:List Deferred}:DRep x d d'→DRepL x l m→DRepL x (d::l) (d'::m)

structure FRep (x:Cx) (fr:Fr) (a:Act):Prop where
 tmps:RepL x fr.tmps a.tmps.toList
 dfs:DRepL x fr.dfs a.defers

theorem DRep.mono {x y:Cx} (h:x.le y) {d:DF} {d':Deferred} (hd:DRep x d d'):DRep y d d':=by
 cases d with
 | fn f c a =>
  obtain ⟨cap,args,h1,h2,h3,h4⟩:=hd
  exact ⟨cap,args,h1,h2,h3.mono h,h4.mono h⟩
 | mark id=>exact ⟨(h.K id hd.1).1,by rw [(h.K id hd.1).2]; exact hd.2⟩

theorem DRepL.append {x:Cx} {l:List DF} {m:List Deferred} {l':List DF} {m':List Deferred} (h:DRepL x l m) (h':DRepL x l' m'):DRepL x (l++l') (m++m'):=by
 induction h with
 | nil=>exact h'
 | cons hd _ ih=>exact .cons hd ih

theorem DRepL.mono {x y:Cx} (h:x.le y) {l:List DF} {m:List Deferred}:DRepL x l m→DRepL y l m
 | .nil=>.nil
 | .cons hd hl=>.cons (hd.mono h) (hl.mono h)

theorem PRep.mono {x y:Cx} (h:x.le y) {c:List AP} {d:List PanicEntry} (hp:PRep x c d):PRep y c d :=
 ⟨hp.1,fun j p hj=>let ⟨q,h1,h2,h3⟩:=hp.2 j p hj; ⟨q,h1,h2.mono h,h3⟩⟩

theorem FRep.mono {x y:Cx} (h:x.le y) {fr:Fr} {a:Act} (hf:FRep x fr a):FRep y fr a:=⟨hf.tmps.mono h,hf.dfs.mono h⟩

theorem put_tmps (a:Act) (d:Option Tmp) (c:Value):(a.put d c).tmps.toList=match d with | some t=>a.tmps.toList.set t c | none=>a.tmps.toList:=by
 cases d <;> simp [Act.put]

theorem put_defers (a:Act) (d:Option Tmp) (c:Value):(a.put d c).defers=a.defers:=by
 cases d <;> rfl

theorem FRep.put {x:Cx} {fr:Fr} {a:Act} (hf:FRep x fr a) {v:V} {c:Value} (hv:Rep x v c) (d:Option Tmp):FRep x (fr.put d v) (a.put d c):=by
 refine ⟨?_,?_⟩
 ·rw [put_tmps]
  cases d with
  | none=>exact hf.tmps
  | some t =>
   show RepL x (updL fr.tmps v t) _
   rw [uI]
   exact hf.tmps.set hv t
 ·rw [put_defers]
  cases d <;> exact hf.dfs

theorem xA (x:Cx):Rep x yc undef:=.tup (C:=#[]) .nil

/-! guards -/
theorem yielded_ok {x:Cx} {ops:Array Oper} {tmps:List V} {t:Array Value} (h:RepL x tmps t.toList) (j:Nat):yielded ops t j=wd ops tmps j:=by
 unfold yielded wd
 cases hd:(ops[j]?).bind (·.dst) with
 | none=>rfl
 | some d =>
  simp only [Option.bind_some,vL]
  cases hv:tmps[d]? with
  | none =>
   have:t[d]?=none:=by
    have h1:=h.length
    have h2:tmps.length≤d:=List.getElem?_eq_none_iff.1 hv
    exact Array.getElem?_eq_none (by rw [← Array.length_toList]; omega)
   rw [this]
  | some v =>
   obtain ⟨c,hc,hr⟩:=h.get d v hv
   rw [Array.getElem?_toList] at hc
   rw [hc]
   cases hr <;> rfl

theorem tl {x:Cx} {ops:Array Oper} {tmps:List V} {t:Array Value} (h:RepL x tmps t.toList) (o:Oper):Region.wanted o (yielded ops t)=yk ops o tmps:=by
 unfold Region.wanted yk
 cases o.guard with
 | none=>rfl
 | some p=>obtain ⟨j,w⟩:=p; simp only; rw [yielded_ok h]

/-! code -/
structure Grew (x:Cx) (s':S) (y:Cx):Prop where
 le:x.le y
 rel:Rel y
 s:y.s=s'
 grow:∀i,y.K i→x.K i∨x.s.next≤i
 next:x.s.next≤s'.next

theorem Grew.refl {x:Cx} (hx:Rel x):Grew x x.s x:=⟨.refl x,hx,rfl,fun _ h=>.inl h,Nat.le_refl _⟩

theorem Grew.trans {x y z:Cx} {s s':S} (h:Grew x s y) (g:Grew y s' z):Grew x s' z :=
 ⟨h.le.trans g.le,g.rel,g.s,fun i hi=>(g.grow i hi).elim (h.grow i) fun k=>.inr (Nat.le_trans h.next (h.s ▸ k)),Nat.le_trans h.next (h.s ▸ g.next)⟩

theorem Went.grew {x y:Cx} {s':S} (h:Went x x.s.next s' y) (hn:x.s.next≤s'.next):Grew x s' y :=
 ⟨h.le,h.rel,h.s,fun i hi=>(h.grow i hi).elim .inl fun k=>.inr (k.elim (fun k=>Nat.le_of_eq k.symm) id),hn⟩

def Out (x:Cx):AX→Exit→Prop
 | .normal,.normal=>True
 | .exit i,.exit j=>i=j
 | .ret,.ret=>True
 | .pan ch,.panic d=>PRep x ch d
 | _,_=>False

section
variable {P:Program} {cfg:Cfg} {cf:CF} {sl:Bool} {ops:Array Oper} {Q:Exit→Act→World→Prop}

/-- What must hold after a piece of code. -/
def Then (x:Cx) (Q:Exit→Act→World→Prop) (e:AX) (fr':Fr) (s':S):Prop :=
 ∀y E a',Grew x s' y→Out y e E→FRep y fr' a'→Q E a' y.w

theorem Then.after {x y:Cx} {s:S} {e:AX} {fr':Fr} {s':S} (h:Then x Q e fr' s') (g:Grew x s y):Then y Q e fr' s' :=
 fun z E a' k=>h z E a' (g.trans k)

theorem tq (hc:cfg.Ok P) (hcf:wv P cfg cf) {ro lr:Option Nat} {n:Nat}:∀(l:List Oper) (k:Nat),ops.toList.drop k=l→∀(x:Cx) (a:Act) (fr:Fr) (e:AX) (fr':Fr) (s':S),GOk cfg x→Rel x→FRep x fr a→RoOk x ro lr →
  uB cfg cf sl ro ops l fr x.s=some (e,fr',s')→Then x Q e fr' s'→wpOpsIn (FW lr) n P ops Q (List.range' k l.length) a x.w
 | [],k,hk,x,a,fr,e,fr',s',hg,hx,hf,hro,h,hp=>by
  simp only [uB,Option.some.injEq,Prod.mk.injEq] at h
  obtain ⟨rfl,rfl,rfl⟩:=h
  exact hp x .normal a (.refl hx) trivial hf
 | o::rest,k,hk,x,a,fr,e,fr',s',hg,hx,hf,hro,h,hp=>by
  have ho:ops[k]?=some o:=by
   rw [← Array.getElem?_toList]
   have:(ops.toList.drop k)[0]?=some o:=by rw [hk]; rfl
   simpa [List.getElem?_drop] using this
  have hk':ops.toList.drop (k+1)=rest:=by
   rw [← List.drop_drop,hk]; rfl
  have hn:¬x.K x.s.next:=fun h=>Nat.lt_irrefl _ (hx.lt _ h)
  simp only [List.length_cons,List.range'_succ,wpOpsIn,ho,tl hf.tmps]
  simp only [uB] at h
  split at h
  ·rename_i hw
   rw [if_pos hw]
   have nodef:∀{r:R},yS cfg cf sl x.s.next o fr.tmps x.s=some r→(∀d s,r≠.dfr d s)→lr=none∨∀c,o.op≠.defer c:=fun {r} hd hr=>by
    right
    intro c hop
    rw [xZ] at hd
    unfold doOp0 at hd
    rw [hop] at hd
    simp only at hd
    split at hd
    ·split at hd
     ·injection hd with hd; exact hr _ _ hd.symm
     ·cases hd
    ·cases hd
   split at h
   ·rename_i v s1 hd
    cases hb:Nat.ble x.s.next s1.next with
    | false=>rw [hb] at h; cases h
    | true =>
     rw [hb] at h
     refine vX hc hcf hg hx hn hf.tmps (nodef hd (fun _ _ e=>by cases e)) hd ?_
     intro y c hwent hv
     have hgr:=hwent.grew (Nat.le_of_ble_eq_true hb)
     have hys:=hgr.s
     subst hys
     exact tq hc hcf rest (k+1) hk' y _ _ _ _ _ (hg.mono hgr.le) hgr.rel ((hf.mono hgr.le).put hv o.dst) (hro.mono hgr.le) h (hp.after hgr)
   ·rename_i d s1 hd
    cases ro with
    | some _=>cases h
    | none =>
     have hlr:lr=none:=by cases lr with
      | none=>rfl
      | some _=>exact hro.elim
     refine vX hc hcf hg hx hn hf.tmps (.inl hlr) hd ?_
     intro hs d' hd'
     subst hs
     refine tq hc hcf rest (k+1) hk' x _ _ _ _ _ hg hx ?_ hro h hp
     exact FRep.put (fr:={ fr with dfs:=d::fr.dfs }) (a:={ a with defers:=d'::a.defers }) ⟨hf.tmps,.cons hd' hf.dfs⟩ (xA x) o.dst
   ·rename_i ch s1 hd
    cases hb:Nat.ble x.s.next s1.next with
    | false=>rw [hb] at h; cases h
    | true =>
     rw [hb] at h
     simp only [cond_true,Option.some.injEq,Prod.mk.injEq] at h
     obtain ⟨rfl,rfl,rfl⟩:=h
     refine vX hc hcf hg hx hn hf.tmps (nodef hd (fun _ _ e=>by cases e)) hd ?_
     intro y d hwent hpr
     have hgr:=hwent.grew (Nat.le_of_ble_eq_true hb)
     exact hp y (.panic d) a hgr hpr (hf.mono hgr.le)
   ·cases h
  ·rename_i hw
   rw [if_neg hw]
   exact ⟨fun _ _=>trivial,tq hc hcf rest (k+1) hk' x _ _ _ _ _ hg hx (hf.put (xA x) o.dst) hro h hp⟩
end
end Go.Proofs.YtchlfjhbijmdiaaGreatDoor.Ai

namespace Go.Proofs.YtchlfjhbijmdiaaGreatDoor.Ai

/-! order -/
theorem befL_old:∀(l:List Oper) (acc:List Nat) (j:Nat),j<acc.length→(befL l acc)[j]?=acc[j]?
 | [],acc,j,_=>rfl
 | o::l,acc,j,h=>by
  rw [befL,befL_old l _ j (by simp; omega),List.getElem?_append_left h]

theorem bitsOf_eq {acc acc':List Nat}:∀(l:List Nat) (s:Nat),(∀j∈l,acc[j]?=acc'[j]?)→vx acc l s=vx acc' l s
 | [],_,_=>rfl
 | j::l,s,h=>by
  simp only [vx]
  rw [h j (by simp)]
  exact bitsOf_eq l _ fun k hk=>h k (by simp [hk])

theorem befL_at (l:List Oper):∀(acc:List Nat) (t:Nat) (o:Oper),l[t]?=some o→(∀k,k∈yV o→k<acc.length+t) →
  (befL l acc)[acc.length+t]?=some (vx (befL l acc) (yV o) 0):=by
 induction l with
 | nil=>intro acc t o h; simp at h
 | cons o' l ih =>
  intro acc t o h hb
  cases t with
  | zero =>
   simp at h; subst h
   have h1:=befL_old l (acc++[vx acc (yV o') 0]) acc.length (by simp)
   rw [befL,Nat.add_zero,h1]
   simp only [List.getElem?_append_right (Nat.le_refl _),Nat.sub_self,List.getElem?_cons_zero,Option.some.injEq]
   refine bitsOf_eq _ _ fun b hm=>?_
   have hlt:b<acc.length:=hb b hm
   rw [befL_old l _ b (by simp; omega),List.getElem?_append_left hlt]
  | succ t =>
   have:=ih (acc++[vx acc (yV o') 0]) t o (by simpa using h) (fun k hk=>by have:=hb k hk; simp; omega)
   rw [befL]
   have e:acc.length+(t+1)=(acc++[vx acc (yV o') 0]).length+t:=by simp; omega
   rw [e]
   exact this

theorem testBit_bits (acc:List Nat) (i:Nat):∀(l:List Nat) (s:Nat),(vx acc l s).testBit i=(s.testBit i || l.any fun j=>j == i || ((acc[j]?).getD 0).testBit i)
 | [],s=>by simp [vx]
 | j::l,s=>by
  rw [vx,testBit_bits acc i l]
  simp only [Nat.testBit_or,Nat.testBit_two_pow,List.any_cons]
  have:decide (j=i)=(j == i):=rfl
  rw [this]
  cases s.testBit i <;> simp

theorem ordB_at {ops:Array Oper} {j:Nat} {o:Oper} (ho:ops[j]?=some o) (hb:∀k∈yV o,k<j) (i:Nat):xp (bef ops) i j=(yV o).any fun k=>k == i || xp (bef ops) i k:=by
 have h:=befL_at ops.toList [] j o (by rw [Array.getElem?_toList]; exact ho) (by simpa using hb)
 simp only [List.length_nil,Nat.zero_add] at h
 unfold xp bef
 rw [h,Option.getD_some,testBit_bits]
 simp

structure Ordered (cfg:Cfg) (ops:Array Oper):Prop where
 lt:∀(i:Nat) (o:Oper),ops[i]?=some o→∀k∈yV o,k<i
 dst:∀(i j:Nat) (oi oj:Oper) (d:Tmp),ops[i]?=some oi→ops[j]?=some oj→i≠j→oi.dst=some d→oj.dst≠some d∧(d∈looks ops oj→xp (bef ops) i j=true∨xp (bef ops) j i=true)
 eff:∀(i j:Nat) (oi oj:Oper),ops[i]?=some oi→ops[j]?=some oj→i≠j→zC cfg oi=3→zC cfg oj=3→xp (bef ops) i j=true∨xp (bef ops) j i=true

theorem ordered_of {cfg:Cfg} {ops:Array Oper} (h:yg cfg ops=true):Ordered cfg ops:=by
 have mem:∀{i:Nat} {o:Oper},ops[i]?=some o→(o,i)∈ops.toList.zipIdx:=fun {i o} ho=>by
  rw [List.mem_zipIdx_iff_getElem?,Array.getElem?_toList]; exact ho
 simp only [yg,List.all_eq_true] at h
 refine ⟨fun i o ho k hk=>?_,fun i j oi oj d hi hj hne hd=>?_,fun i j oi oj hi hj hne h3 hk=>?_⟩
 ·have:=h _ (mem ho)
  simp only [Bool.and_eq_true,List.all_eq_true] at this
  simpa using this.1 k hk
 ·have:=h _ (mem hi)
  simp only [Bool.and_eq_true,List.all_eq_true] at this
  have:=this.2 _ (mem hj)
  simp only [Bool.or_eq_true,beq_iff_eq,hne,false_or,Bool.and_eq_true,hd,bne_iff_ne,Bool.not_eq_true'] at this
  refine ⟨this.1.1,fun hm=>?_⟩
  rcases this.1.2 with (h1 | h1) | h1
  ·have:(looks ops oj).contains d=true:=by simpa using hm
   rw [this] at h1; cases h1
  ·exact .inl h1
  ·exact .inr h1
 ·have:=h _ (mem hi)
  simp only [Bool.and_eq_true,List.all_eq_true] at this
  have:=this.2 _ (mem hj)
  simp only [Bool.or_eq_true,beq_iff_eq,hne,false_or,Bool.and_eq_true,bne_iff_ne,h3] at this
  rcases this.2 with (h1 | h1) | h1
  ·rcases h1 with h1 | h1
   ·exact absurd rfl h1
   ·exact absurd hk h1
  ·exact .inl h1
  ·exact .inr h1

section
variable {cfg:Cfg} {ops:Array Oper}
theorem ord_some {i j:Nat} (h:xp (bef ops) i j=true):∃o,ops[j]?=some o:=by
 rcases Nat.lt_or_ge j ops.size with hj | hj
 ·exact ⟨_,Array.getElem?_eq_getElem hj⟩
 ·exfalso
  have hlen:∀(l:List Oper) (acc:List Nat),(befL l acc).length=acc.length+l.length:=by
   intro l
   induction l with
   | nil=>intro acc; rfl
   | cons o l ih=>intro acc; rw [befL,ih]; simp; omega
  have:(bef ops)[j]?=none:=by
   apply List.getElem?_eq_none
   unfold bef
   rw [hlen]; simpa using hj
  simp [xp,this] at h

theorem ord_lt (ho:Ordered cfg ops) {i:Nat}:∀{j:Nat},xp (bef ops) i j=true→i<j:=by
 intro j
 induction j using Nat.strongRecOn with
 | _ j ih =>
  intro h
  obtain ⟨o,hj⟩:=ord_some h
  rw [ordB_at hj (ho.lt j o hj)] at h
  simp only [List.any_eq_true,Bool.or_eq_true,beq_iff_eq] at h
  obtain ⟨k,hk,h⟩:=h
  have hkj:=ho.lt j o hj k hk
  rcases h with rfl | h
  ·exact hkj
  ·exact Nat.lt_trans (ih k hkj h) hkj

/-- What is listed is closed under what must come before. -/
def Closed (ops:Array Oper) (L:Nat→Bool):Prop:=∀(j:Nat) (o:Oper),ops[j]?=some o→L j=true→∀k∈yV o,L k=true

theorem ord_closed (ho:Ordered cfg ops) {L:Nat→Bool} (hL:Closed ops L) {i:Nat}:∀{j:Nat},xp (bef ops) i j=true→L j=true→L i=true:=by
 intro j
 induction j using Nat.strongRecOn with
 | _ j ih =>
  intro h hj'
  obtain ⟨o,hj⟩:=ord_some h
  rw [ordB_at hj (ho.lt j o hj)] at h
  simp only [List.any_eq_true,Bool.or_eq_true,beq_iff_eq] at h
  obtain ⟨k,hk,h⟩:=h
  have hLk:=hL j o hj hj' k hk
  rcases h with rfl | h
  ·exact hLk
  ·exact ih k (ho.lt j o hj k hk) h hLk

theorem ord_ready (ho:Ordered cfg ops) {L:Nat→Bool} (hL:Closed ops L) {i j:Nat} {o:Oper} (hj:ops[j]?=some o) (hr:∀k∈yV o,L k=true) (h:xp (bef ops) i j=true):L i=true:=by
 rw [ordB_at hj (ho.lt j o hj)] at h
 simp only [List.any_eq_true,Bool.or_eq_true,beq_iff_eq] at h
 obtain ⟨k,hk,h⟩:=h
 rcases h with rfl | h
 ·exact hr _ hk
 ·exact ord_closed ho hL h (hr k hk)
end

/-! the store's order -/
theorem T.set_eq {α:Type} (f:Nat) (t:T α) (n:Nat) (v:Option α) (h:n≤f):T.set f t n v=if n=0 then .node t.lft v t.rgt else if n % 2=1 then .node (T.set (f - 1) t.lft (n / 2) v) t.val t.rgt else .node t.lft t.val (T.set (f - 1) t.rgt (n / 2 - 1) v):=by
 cases f with
 | zero =>
  have:n=0:=by omega
  subst this; rfl
 | succ f =>
  simp only [T.set,cond_eq_ite,beq_iff_eq,Nat.add_sub_cancel]

theorem T.set_comm {α:Type}:∀(k f g:Nat) (t:T α) (n m:Nat) (u v:Option α),n+m≤k→n≤f→m≤g→n≠m→T.set f (T.set g t m u) n v=T.set g (T.set f t n v) m u:=by
 intro k
 induction k with
 | zero=>intro f g t n m u v h _ _ hne; omega
 | succ k ih =>
  intro f g t n m u v hk hf hg hne
  rw [T.set_eq f _ n v hf,T.set_eq g t m u hg,T.set_eq g _ m u hg,T.set_eq f t n v hf]
  by_cases hn:n=0
  ·have hm:m≠0:=by omega
   rw [if_pos hn,if_pos hn,if_neg hm,if_neg hm]
   by_cases hm2:m % 2=1
   ·rw [if_pos hm2,if_pos hm2]; rfl
   ·rw [if_neg hm2,if_neg hm2]; rfl
  ·rw [if_neg hn,if_neg hn]
   by_cases hm:m=0
   ·rw [if_pos hm,if_pos hm]
    by_cases hn2:n % 2=1
    ·rw [if_pos hn2,if_pos hn2]; rfl
    ·rw [if_neg hn2,if_neg hn2]; rfl
   ·rw [if_neg hm,if_neg hm]
    by_cases hn2:n % 2=1 <;> by_cases hm2:m % 2=1
    ·rw [if_pos hn2,if_pos hn2,if_pos hm2,if_pos hm2]
     exact congrArg (fun l=>T.node l t.val t.rgt) (ih (f - 1) (g - 1) t.lft (n / 2) (m / 2) u v (by omega) (by omega) (by omega) (by omega))
    ·rw [if_pos hn2,if_pos hn2,if_neg hm2,if_neg hm2]; rfl
    ·rw [if_neg hn2,if_neg hn2,if_pos hm2,if_pos hm2]; rfl
    ·rw [if_neg hn2,if_neg hn2,if_neg hm2,if_neg hm2]
     exact congrArg (fun r=>T.node t.lft t.val r) (ih (f - 1) (g - 1) t.rgt (n / 2 - 1) (m / 2 - 1) u v (by omega) (by omega) (by omega) (by omega))

theorem S.add_comm (s:S) (i j:Nat) (o p:O) (h:i≠j):(s.add i o).add j p=(s.add j p).add i o:=by
 unfold S.add
 simp only [S.mk.injEq]
 exact ⟨by omega,T.set_comm _ j i s.tr j i _ _ (Nat.le_refl _) (Nat.le_refl _) (Nat.le_refl _) (Ne.symm h)⟩

/-- More is known. -/
def Ext (s s':S):Prop:=∀i o,s.get i=some o→s'.get i=some o

theorem Ext.refl (s:S):Ext s s:=fun _ _ h=>h
theorem Ext.trans {a b c:S} (h:Ext a b) (g:Ext b c):Ext a c:=fun i o k=>g i o (h i o k)
theorem Ext.del {s s':S} (h:Ext s s') (i:Nat):Ext (s.del i) (s'.del i):=fun j o hj=>by
 rw [S.get_del] at hj ⊢
 split at hj
 ·cases hj
 ·rename_i e; rw [if_neg e]; exact h j o hj
theorem Ext.add {s s':S} (h:Ext s s') {i:Nat} (hn:s'.get i=none) (o:O):Ext s (s'.add i o):=fun j p hj=>by
 rw [S.get_add]
 split
 ·rename_i e; subst e; rw [h _ _ hj] at hn; cases hn
 ·exact h j p hj
end Go.Proofs.YtchlfjhbijmdiaaGreatDoor.Ai

