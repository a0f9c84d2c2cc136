/- Part of a reckoning of a Go program over abstract values, proved sound against the model. -/
import Derived.Test.YtchlfjhbijmdiaaGreatDoorAiA4
set_option linter.unusedSimpArgs false
set_option linter.unusedVariables false
namespace Go.Proofs.YtchlfjhbijmdiaaGreatDoor.Ai
set_option maxRecDepth 100000

/-! runs by simp: temporaries as chains of changes -/
theorem nth_updL (l:List V) (v:V) (n m:Nat):nth (updL l v n) m=if m=n then (if n<l.length then some v else none) else nth l m:=by
 rw [vL,uI,vL,List.getElem?_set]
 by_cases h:n=m
 ·subst h; simp
 ·rw [if_neg h,if_neg (Ne.symm h)]
@[simp] theorem length_updL (l:List V) (v:V) (n:Nat):(updL l v n).length=l.length:=by rw [uI,List.length_set]
theorem nth_ne (l:List V) (v:V) (n m:Nat) (h:m≠n):nth (updL l v n) m=nth l m:=by rw [nth_updL,if_neg h]

def initT (args:List V) (n:Nat):List V:=args++List.replicate (n - args.length) yc
theorem wV (args:List V) (n:Nat) (h:args.length≤n):(initT args n).length=n:=by simp [initT]; omega
/-! which temporaries code may change -/
def wrOps (ops:List Oper) (i:Nat):Bool:=ops.any fun o=>o.dst == some i
def wr:Code→Nat→Bool
 | .region _ ops _,i=>wrOps ops.toList i
 | .seq a b,i=>wr a i || wr b i
 | .cond _ a b,i=>wr a i || wr b i
 | .block _ c,i=>wr c i
 | .loop c,i=>wr c i
 | .scope c,i=>wr c i
 | _,_=>false

def Kept (tm tm':List V) (p:Nat→Bool):Prop:=tm'.length=tm.length∧∀i,p i=false→nth tm' i=nth tm i

theorem Kept.refl (tm:List V) (p:Nat→Bool):Kept tm tm p:=⟨rfl,fun _ _=>rfl⟩
theorem Kept.trans {a b c:List V} {p:Nat→Bool} (h:Kept a b p) (h':Kept b c p):Kept a c p:=⟨h'.1.trans h.1,fun i hi=>(h'.2 i hi).trans (h.2 i hi)⟩
theorem Kept.mono {a b:List V} {p q:Nat→Bool} (h:Kept a b p) (hq:∀i,q i=false→p i=false):Kept a b q:=⟨h.1,fun i hi=>h.2 i (hq i hi)⟩

theorem put_kept (tm:List V) (d:Option Tmp) (v:V) (dfs:List DF) {p:Nat→Bool} (h:∀i,d=some i→p i=true):Kept tm (Fr.put ⟨tm,dfs⟩ d v).tmps p:=by
 cases d with
 | none=>exact Kept.refl _ _
 | some t =>
  refine ⟨length_updL _ _ _,fun i hi=>nth_ne _ _ _ _ fun e=>?_⟩
  subst e; rw [h i rfl] at hi; cases hi

theorem wQ {cfg:Cfg} {cf:CF} {sl:Bool} {ro:Option Nat} {ops:Array Oper}:∀(l:List Oper) (fr fr':Fr) (s s':S) (e:AX),uB cfg cf sl ro ops l fr s=some (e,fr',s')→Kept fr.tmps fr'.tmps (wrOps l)
 | [],fr,fr',s,s',e,h=>by
  simp only [uB,Option.some.injEq,Prod.mk.injEq] at h
  obtain ⟨_,rfl,_⟩:=h
  exact Kept.refl _ _
 | o::rest,⟨tm,dfs⟩,fr',s,s',e,h=>by
  have sub:∀i,wrOps (o::rest) i=false→wrOps rest i=false:=fun i hi=>by
   simp only [wrOps,List.any_cons,Bool.or_eq_false_iff] at hi ⊢; exact hi.2
  have own:∀i,o.dst=some i→wrOps (o::rest) i=true:=fun i hi=>by simp [wrOps,hi]
  unfold uB at h
  split at h
  ·split at h
   ·rename_i v s1 _
    cases hb:Nat.ble s.next s1.next
    ·rw [hb] at h; cases h
    ·rw [hb,cond_true] at h
     exact (put_kept tm o.dst v dfs own).trans ((wQ rest _ fr' _ s' e h).mono sub)
   ·split at h
    ·rename_i d s1 _ _
     exact (put_kept tm o.dst yc (d::dfs) own).trans ((wQ rest _ fr' _ s' e h).mono sub)
    ·cases h
   ·rename_i ch s1 _
    cases hb:Nat.ble s.next s1.next
    ·rw [hb] at h; cases h
    ·rw [hb,cond_true] at h
     simp only [Option.some.injEq,Prod.mk.injEq] at h
     obtain ⟨_,rfl,_⟩:=h
     exact Kept.refl _ _
   ·cases h
  ·exact (put_kept tm o.dst yc dfs own).trans ((wQ rest _ fr' _ s' e h).mono sub)

theorem drawRun_kept {cfg:Cfg} {cf:CF} {sl:Bool} {ops:Array Oper} {b:List Nat} {base:Nat}:∀(l:List Oper) (i:Nat) (acc rs:List Rec) (tm tm':List V) (c c':S),xw cfg cf sl ops b base l i acc tm c=some (rs,tm',c')→Kept tm tm' (wrOps l)
 | [],i,acc,rs,tm,tm',c,c',h=>by
  simp only [xw,Option.some.injEq,Prod.mk.injEq] at h
  obtain ⟨_,rfl,_⟩:=h
  exact Kept.refl _ _
 | o::rest,i,acc,rs,tm,tm',c,c',h=>by
  unfold xw at h
  split at h
  ·rename_i r _
   have h1:Kept tm (putT o.dst tm r.v) (wrOps (o::rest)):=by
    have:=put_kept tm o.dst r.v [] (p:=wrOps (o::rest)) (fun i hi=>by simp [wrOps,hi])
    cases hd:o.dst <;> simpa [putT,Fr.put,hd] using this
   exact h1.trans ((drawRun_kept rest (i+1) _ rs _ tm' _ c' h).mono fun i hi=>by
    simp only [wrOps,List.any_cons,Bool.or_eq_false_iff] at hi ⊢; exact hi.2)
  ·cases h

theorem runDraw_kept {cfg:Cfg} {cf:CF} {sl:Bool} {ops:Array Oper} {fr fr':Fr} {s s':S} (h:vG cfg cf sl ops fr s=some (fr',s')):Kept fr.tmps fr'.tmps (wrOps ops.toList):=by
 unfold vG at h
 split at h
 ·rename_i rs tm c hd
  split at h
  ·simp only [Option.some.injEq,Prod.mk.injEq] at h
   obtain ⟨rfl,_⟩:=h
   exact drawRun_kept _ _ _ _ _ _ _ _ hd
  ·cases h
 ·cases h

theorem leaveL_tmps {fr fr':Fr} {idl:Nat} {s s':S} {e:AX} (h:leaveL fr idl s=some (e,fr',s')):fr'.tmps=fr.tmps:=by
 unfold leaveL at h
 split at h
 ·split at h
  ·cases h
  ·split at h <;> first | (simp only [Option.some.injEq,Prod.mk.injEq] at h; obtain ⟨_,h,_⟩:=h; rw [← h]) | cases h
 ·cases h

theorem exec_kept {cfg:Cfg} {cf:CF} {fuel:Nat} {sl:Bool} {ro:Option Nat}:∀(c:Code) (fr fr':Fr) (s s':S) (e:AX),exec cfg cf fuel sl ro c fr s=some (e,fr',s')→Kept fr.tmps fr'.tmps (wr c):=by
 intro c
 induction c with
 | region n ops draw =>
  intro fr fr' s s' e h
  unfold exec at h
  cases draw with
  | false=>exact wQ _ _ _ _ _ _ h
  | true =>
   simp only at h
   split at h
   ·rename_i fr1 s1 hd
    simp only [Option.some.injEq,Prod.mk.injEq] at h
    obtain ⟨_,rfl,_⟩:=h
    exact runDraw_kept hd
   ·cases h
 | seq a b iha ihb =>
  intro fr fr' s s' e h
  have ma:∀i,wr (.seq a b) i=false→wr a i=false:=fun i hi=>by simp only [wr,Bool.or_eq_false_iff] at hi; exact hi.1
  have mb:∀i,wr (.seq a b) i=false→wr b i=false:=fun i hi=>by simp only [wr,Bool.or_eq_false_iff] at hi; exact hi.2
  unfold exec at h
  split at h
  ·rename_i fr1 s1 h1
   exact ((iha _ _ _ _ _ h1).mono ma).trans ((ihb _ _ _ _ _ h).mono mb)
  ·exact (iha _ _ _ _ _ h).mono ma
 | cond x a b iha ihb =>
  intro fr fr' s s' e h
  have ma:∀i,wr (.cond x a b) i=false→wr a i=false:=fun i hi=>by simp only [wr,Bool.or_eq_false_iff] at hi; exact hi.1
  have mb:∀i,wr (.cond x a b) i=false→wr b i=false:=fun i hi=>by simp only [wr,Bool.or_eq_false_iff] at hi; exact hi.2
  unfold exec at h
  split at h
  ·exact (iha _ _ _ _ _ h).mono ma
  ·exact (ihb _ _ _ _ _ h).mono mb
  ·cases h
 | block id c ih =>
  intro fr fr' s s' e h
  unfold exec at h
  split at h
  ·rename_i j fr1 s1 h1
   split at h
   all_goals
    simp only [Option.some.injEq,Prod.mk.injEq] at h
    obtain ⟨_,rfl,_⟩:=h
    exact ih _ _ _ _ _ h1
  ·exact ih _ _ _ _ _ h
 | loop c ih =>
  intro fr fr' s s' e h
  unfold exec at h
  have key:∀(n:Nat) (fr:Fr) (s:S),iter (exec cfg cf fuel sl ro c) n fr s=some (e,fr',s')→Kept fr.tmps fr'.tmps (wr c):=by
   intro n
   induction n with
   | zero=>intro fr s h; cases h
   | succ n ihn =>
    intro fr s h
    unfold iter at h
    split at h
    ·rename_i fr1 s1 h1
     exact (ih _ _ _ _ _ h1).trans (ihn _ _ h)
    ·exact ih _ _ _ _ _ h
  exact key _ _ _ h
 | scope c ih=>intro fr fr' s s' e h; exact ih _ _ _ _ _ h
 | rangeFunc g ps asg bd =>
  intro fr fr' s s' e h
  unfold exec rangeL at h
  have:fr'.tmps=fr.tmps:=by
   split at h
   ·split at h
    ·split at h
     ·split at h
      ·split at h
       ·rename_i s1 mark _ _ s3 _
        cases hb:Nat.ble s.next s3.next
        ·rw [hb] at h; cases h
        ·rw [hb,cond_true] at h; have:=leaveL_tmps h; exact this
       ·rename_i s1 mark _ _ s3 _
        cases hb:Nat.ble s.next s3.next
        ·rw [hb] at h; cases h
        ·rw [hb,cond_true] at h
         simp only [Option.some.injEq,Prod.mk.injEq] at h
         obtain ⟨_,rfl,_⟩:=h; rfl
       ·cases h
      ·cases h
     ·cases h
    ·cases h
   ·cases h
  rw [this]; exact Kept.refl _ _
 | skip=>intro fr fr' s s' e h; simp only [exec,Option.some.injEq,Prod.mk.injEq] at h; obtain ⟨_,rfl,_⟩:=h; exact Kept.refl _ _
 | label _=>intro fr fr' s s' e h; simp only [exec,Option.some.injEq,Prod.mk.injEq] at h; obtain ⟨_,rfl,_⟩:=h; exact Kept.refl _ _
 | exit _=>intro fr fr' s s' e h; simp only [exec,Option.some.injEq,Prod.mk.injEq] at h; obtain ⟨_,rfl,_⟩:=h; exact Kept.refl _ _
 | ret=>intro fr fr' s s' e h; simp only [exec,Option.some.injEq,Prod.mk.injEq] at h; obtain ⟨_,rfl,_⟩:=h; exact Kept.refl _ _
 | _=>intro fr fr' s s' e h; simp [exec] at h

/-! stores: what was there stays -/
def S.wf (s:S):Prop:=∀i,s.next≤i→s.get i=none
def S.keeps (s s':S):Prop:=s.next≤s'.next∧(∀i,i<s.next→s'.get i=s.get i)∧(s.wf→s'.wf)
theorem S.keeps.refl (s:S):s.keeps s:=⟨Nat.le_refl _,fun _ _=>rfl,id⟩
theorem S.keeps.trans {a b c:S} (h:a.keeps b) (h':b.keeps c):a.keeps c:=⟨Nat.le_trans h.1 h'.1,fun i hi=>(h'.2.1 i (Nat.lt_of_lt_of_le hi h.1)).trans (h.2.1 i hi),fun w=>h'.2.2 (h.2.2 w)⟩
theorem S.keeps.at {a b:S} (h:a.keeps b) {i:Nat} (hi:i<a.next):b.get i=a.get i:=h.2.1 i hi
theorem S.wf_empty:S.empty.wf:=fun i _=>S.get_empty i
theorem S.wf.lt {s:S} (h:s.wf) {i:Nat} {o:O} (hg:s.get i=some o):i<s.next:=by
 rcases Nat.lt_or_ge i s.next with h1 | h1
 ·exact h1
 ·rw [h i h1] at hg; cases hg
theorem S.wf_add {s:S} (h:s.wf) (n:Nat) (o:O):(s.add n o).wf:=fun i hi=>by
 simp only [S.next_add] at hi
 rw [S.get_add,if_neg (by omega),h i (by omega)]
theorem S.wf_put {s:S} (h:s.wf) (n:Nat) (o:O) (hn:n<s.next):(s.put n o).wf:=fun i hi=>by
 simp only [S.next_put] at hi
 rw [S.get_put,if_neg (by omega),h i hi]
theorem S.wf_del {s:S} (h:s.wf) (n:Nat):(s.del n).wf:=fun i hi=>by
 simp only [S.next_del] at hi
 rw [S.get_del]
 split
 ·rfl
 ·exact h i hi
theorem S.keeps.add {a b:S} (h:a.keeps b) {n:Nat} (o:O) (hn:a.next≤n):a.keeps (b.add n o):=⟨by have:=h.1; simp only [S.next_add]; omega,fun i hi=>by rw [S.get_add,if_neg (by omega)]; exact h.2.1 i hi,fun w=>S.wf_add (h.2.2 w) n o⟩
theorem S.keeps.put {a b:S} (h:a.keeps b) {n:Nat} (o:O) (hn:a.next≤n) (hl:n<b.next):a.keeps (b.put n o):=⟨h.1,fun j hj=>by rw [S.get_put,if_neg (by omega)]; exact h.2.1 j hj,fun w=>S.wf_put (h.2.2 w) n o hl⟩
theorem S.keeps.del {a b:S} (h:a.keeps b) {n:Nat} (hn:a.next≤n):a.keeps (b.del n):=⟨h.1,fun j hj=>by rw [S.get_del,if_neg (by omega)]; exact h.2.1 j hj,fun w=>S.wf_del (h.2.2 w) n⟩
theorem S.keeps_next (s:S) (n:Nat):s.keeps ⟨s.next+n,s.tr⟩:=⟨by simp,fun _ _=>rfl,fun w i hi=>w i (by simp only at hi; omega)⟩

/-! contracts -/
def Gives (cfg:Cfg) (k:Nat) (f:FuncId) (args:List V) (s:S) (v:V):Prop:=∀n,k≤n→∃s',(run cfg n).fn f args s=some (.ret v,s')∧s.keeps s'

theorem Gives.mono {cfg:Cfg} {k k':Nat} {f:FuncId} {args:List V} {s:S} {v:V} (h:Gives cfg k f args s v) (hk:k≤k'):Gives cfg k' f args s v:=fun n hn=>h n (Nat.le_trans hk hn)

theorem Gives.op {cfg:Cfg} {k:Nat} {f:FuncId} {args:List V} {s:S} {v:V} (h:Gives cfg k f args s v) {m:Nat} (hm:k≤m) (h1:cfg.tab f args=none) (h2:cfg.pure f=0) :
  ∃s',zF cfg (run cfg m) f args s=some (.val v s')∧s.keeps s':=by
 obtain ⟨s',h,hk⟩:=h m hm
 refine ⟨s',?_,hk⟩
 unfold zF; rw [h1,h2,h]; rfl

/-! the steps, as rules of simp -/
section
variable {cfg:Cfg} {cf:CF} {fuel:Nat} {sl:Bool} {ro:Option Nat} {ops:Array Oper} {fr:Fr} {s:S}
end

/-! slices: nil, or a list -/
def IsL (v:V) (es:List V):Prop:=v=.list es∨(v=.nils∧es=[])
theorem IsL.len {v:V} {es:List V} (h:IsL v es) (s:S) (e:TypeId):zy s (.slice e) v=some (.int .i64 es.length):=by
 rcases h with rfl | ⟨rfl,rfl⟩ <;> rfl
theorem IsL.at {v:V} {es:List V} (h:IsL v es) {cfg:Cfg} {t e:TypeId} {a b:ATy} (ht:cfg.ty t=some a) (ha:a.und=.slice e) (hb:cfg.ty e=some b) {i:Nat} {x:V} (hi:es[i]?=some x) (hx:x.cells.length=b.size) :
  zd cfg t v (.int .i64 i)=some (.cptr x.cells 0):=by
 rcases h with rfl | ⟨rfl,rfl⟩
 ·simp [zd,ht,ha,hb,asInt,hi,hx]
 ·simp at hi
end Go.Proofs.YtchlfjhbijmdiaaGreatDoor.Ai

