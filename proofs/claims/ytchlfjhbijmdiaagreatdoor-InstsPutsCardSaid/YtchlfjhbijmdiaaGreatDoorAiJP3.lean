/- Part of a reckoning of a Go program over abstract values, proved sound against the model. -/
import Derived.Test.YtchlfjhbijmdiaaGreatDoorAiJC2
set_option linter.unusedSimpArgs false
set_option linter.unusedVariables false
namespace Go.Proofs.YtchlfjhbijmdiaaGreatDoor.Ai
set_option maxRecDepth 100000

/-! equal insts, in plain words -/
abbrev Pr:=Int×Int
def yv (x:Inst):List Int:=zR x++x.alts.flatMap (·.args)
def yE:List Alt→List Alt→Bool
 | [],[]=>true
 | a::l,b::m=>decide (a.name=b.name) && decide (a.args.length=b.args.length) && yE l m
 | _,_=>false
/-- The same shape. -/
def shape (x y:Inst):Bool:=decide (x.kind=y.kind) && decide (x.det=y.det) && decide (x.modes.length=y.modes.length) && yE x.alts y.alts
def zG (l:List Inst) (i:Int):Inst:=(l[i.toNat]?).getD ⟨0,[],[],0⟩
/-- What two insts ask of others. -/
def stepE (l:List Inst) (p:Pr):Option (List Pr):=if p.1=p.2 then some [] else if shape (zG l p.1) (zG l p.2)=true then some ((yv (zG l p.1)).zip (yv (zG l p.2))) else none
def ClosB (l:List Inst) (R:Pr→Prop):Prop:=∀p,R p→∃m,stepE l p=some m∧∀q∈m,R q
def Bis (l:List Inst) (a b:Int):Prop:=∃R,ClosB l R∧R (a,b)
theorem likeA_refl:∀l:List Alt,yE l l=true
 | []=>rfl
 | a::l=>by simp [yE,likeA_refl l]
theorem likeA_symm:∀{l m:List Alt},yE l m=true→yE m l=true
 | [],[],_=>rfl
 | a::l,b::m,h=>by
  simp only [yE,Bool.and_eq_true,decide_eq_true_eq] at h ⊢
  exact ⟨⟨h.1.1.symm,h.1.2.symm⟩,likeA_symm h.2⟩
 | [],_::_,h=>by cases h
 | _::_,[],h=>by cases h
theorem likeA_trans:∀{l m n:List Alt},yE l m=true→yE m n=true→yE l n=true
 | [],[],_,_,h=>h
 | a::l,b::m,[],_,h=>by cases h
 | a::l,b::m,c::n,h,h'=>by
  simp only [yE,Bool.and_eq_true,decide_eq_true_eq] at h h' ⊢
  exact ⟨⟨h.1.1.trans h'.1.1,h.1.2.trans h'.1.2⟩,likeA_trans h.2 h'.2⟩
 | [],_::_,_,h,_=>by cases h
 | _::_,[],_,h,_=>by cases h
theorem likeA_len:∀{l m:List Alt},yE l m=true→(l.flatMap (·.args)).length=(m.flatMap (·.args)).length
 | [],[],_=>rfl
 | a::l,b::m,h=>by
  simp only [yE,Bool.and_eq_true,decide_eq_true_eq] at h
  simp [h.1.2,likeA_len h.2]
 | [],_::_,h=>by cases h
 | _::_,[],h=>by cases h
theorem shape_refl (x:Inst):shape x x=true:=by simp [shape,likeA_refl]
theorem shape_symm {x y:Inst} (h:shape x y=true):shape y x=true:=by
 simp only [shape,Bool.and_eq_true,decide_eq_true_eq] at h ⊢
 exact ⟨⟨⟨h.1.1.1.symm,h.1.1.2.symm⟩,h.1.2.symm⟩,likeA_symm h.2⟩
theorem wP {x y z:Inst} (h:shape x y=true) (h':shape y z=true):shape x z=true:=by
 simp only [shape,Bool.and_eq_true,decide_eq_true_eq] at h h' ⊢
 exact ⟨⟨⟨h.1.1.1.trans h'.1.1.1,h.1.1.2.trans h'.1.1.2⟩,h.1.2.trans h'.1.2⟩,likeA_trans h.2 h'.2⟩
theorem kids_len {x y:Inst} (h:shape x y=true):(yv x).length=(yv y).length:=by
 simp only [shape,Bool.and_eq_true,decide_eq_true_eq] at h
 simp [yv,yy,h.1.2,likeA_len h.2]
theorem bis_step {l:List Inst} {a b:Int} (h:Bis l a b):a=b∨(shape (zG l a) (zG l b)=true∧∀q∈(yv (zG l a)).zip (yv (zG l b)),Bis l q.1 q.2):=by
 obtain ⟨R,hc,hr⟩:=h
 obtain ⟨m,hm,hq⟩:=hc _ hr
 unfold stepE at hm
 split at hm
 ·exact .inl ‹_›
 split at hm
 ·rename_i hs
  injection hm with hm
  subst hm
  exact .inr ⟨hs,fun q hq'=>⟨R,hc,hq q hq'⟩⟩
 ·cases hm
theorem ub {l:List Inst} {a b:Int} (h:Bis l a b):shape (zG l a) (zG l b)=true:=by
 rcases bis_step h with rfl | h
 ·exact shape_refl _
 ·exact h.1
/-- It is enough that a relation keeps shapes, and hands on what it says to the parts. -/
theorem bis_of {l:List Inst} {R:Int→Int→Prop} (h:∀a b,R a b→shape (zG l a) (zG l b)=true∧∀q∈(yv (zG l a)).zip (yv (zG l b)),R q.1 q.2) {a b:Int} (hr:R a b):Bis l a b:=by
 refine ⟨fun p=>R p.1 p.2,fun p hp=>?_,hr⟩
 unfold stepE
 obtain ⟨h1,h2⟩:=h p.1 p.2 hp
 by_cases e:p.1=p.2
 ·exact ⟨[],by rw [if_pos e],fun q hq=>by cases hq⟩
 ·exact ⟨_,by rw [if_neg e,if_pos h1],h2⟩
theorem zip_self {α:Type}:∀{l:List α} {q:α×α},q∈l.zip l→q.1=q.2
 | a::l,q,h=>by
  simp only [List.zip_cons_cons,List.mem_cons] at h
  rcases h with rfl | h
  ·rfl
  ·exact zip_self h
theorem bis_refl (l:List Inst) (a:Int):Bis l a a:=bis_of (R:=fun a b=>a=b) (fun a b e=>by subst e; exact ⟨shape_refl _,fun q hq=>zip_self hq⟩) rfl
open Classical in
/-- The least inst that is equal to one. -/
noncomputable def clsAt (l:List Inst) (i:Nat):Nat:=((List.range (i+1)).find? fun (j:Nat)=>decide (Bis l j i)).getD i
noncomputable def cls (l:List Inst):List Int:=(List.range l.length).map fun i=>(clsAt l i:Int)
open Classical in
theorem cls_spec (l:List Inst) (i:Nat):Bis l (clsAt l i) i∧clsAt l i≤i∧∀j:Nat,Bis l j i→clsAt l i≤j:=by
 unfold clsAt
 cases h:(List.range (i+1)).find? fun (j:Nat)=>decide (Bis l j i) with
 | none =>
  have:=List.find?_eq_none.1 h i (by simp)
  exact absurd (bis_refl l i) (by simpa using this)
 | some k =>
  have h1:=List.find?_some h
  have h2:=List.mem_of_find?_eq_some h
  simp only [decide_eq_true_eq] at h1
  simp only [List.mem_range] at h2
  refine ⟨h1,by simp only [Option.getD_some]; omega,fun j hj=>?_⟩
  simp only [Option.getD_some]
  rcases Nat.lt_or_ge j k with hjk | hjk
  ·have h3:=List.find?_range_eq_some.1 h
   have:=h3.2.2 j hjk
   simp only [Bool.not_eq_true',decide_eq_false_iff_not] at this
   exact absurd hj this
  ·exact hjk
end Go.Proofs.YtchlfjhbijmdiaaGreatDoor.Ai

namespace Go.Proofs.YtchlfjhbijmdiaaGreatDoor.Ai
set_option maxRecDepth 100000

/-! the search of 'greatest', in plain words -/
def addQ (r:List Pr×List Pr) (q:Pr):List Pr×List Pr:=if q∈r.1 then r else (r.1++[q],r.2++[q])
def addS (r:List Pr×List Pr) (m:List Pr):List Pr×List Pr:=m.foldl addQ r
theorem wK (r:List Pr×List Pr) (q:Pr) (m:List Pr):addS r (q::m)=addS (addQ r q) m:=rfl
theorem addS_take (r:List Pr×List Pr) {m:List Pr} {k:Nat} (h:k<m.length):addS r (m.take (k+1))=addQ (addS r (m.take k)) m[k]:=by
 unfold addS
 rw [List.take_succ_eq_append_getElem h,List.foldl_append]; rfl
theorem addQ_seen {r:List Pr×List Pr} {q p:Pr}:p∈(addQ r q).1↔p∈r.1∨p=q:=by
 unfold addQ
 split
 ·rename_i h
  constructor
  ·exact .inl
  ·rintro (h' | rfl)
   ·exact h'
   ·exact h
 ·simp
theorem xG:∀{m:List Pr} {r:List Pr×List Pr} {p:Pr},p∈(addS r m).1↔p∈r.1∨p∈m
 | [],r,p=>by simp [addS]
 | q::m,r,p=>by
  rw [wK,xG,addQ_seen]
  simp only [List.mem_cons,or_assoc]
theorem tP {r:List Pr×List Pr} {q p:Pr}:p∈(addQ r q).2↔p∈r.2∨(p=q∧¬q∈r.1):=by
 unfold addQ
 split
 ·rename_i h; simp [h]
 ·rename_i h; simp [h]
theorem addS_list:∀{m:List Pr} {r:List Pr×List Pr} {p:Pr},p∈(addS r m).2→p∈r.2∨p∈m
 | [],r,p,h=>.inl h
 | q::m,r,p,h=>by
  rw [wK] at h
  rcases addS_list h with h | h
  ·rcases tP.1 h with h | h
   ·exact .inl h
   ·exact .inr (by simp [h.1])
  ·exact .inr (by simp [h])
theorem addS_new:∀{m:List Pr} {r:List Pr×List Pr} {p:Pr},p∈(addS r m).1→p∈r.1∨p∈(addS r m).2
 | [],r,p,h=>.inl h
 | q::m,r,p,h=>by
  rw [wK] at h ⊢
  have keep:∀{m:List Pr} {r:List Pr×List Pr},p∈r.2→p∈(addS r m).2:=by
   intro m
   induction m with
   | nil=>intro r h; exact h
   | cons a m ih=>intro r h; rw [wK]; exact ih (tP.2 (.inl h))
  rcases addS_new h with h | h
  ·rcases addQ_seen.1 h with h | rfl
   ·exact .inl h
   ·by_cases hq:p∈r.1
    ·exact .inl hq
    ·exact .inr (keep (tP.2 (.inr ⟨rfl,hq⟩)))
  ·exact .inr h
theorem addS_keep {m:List Pr} {p:Pr}:∀{r:List Pr×List Pr},p∈r.2→p∈(addS r m).2:=by
 induction m with
 | nil=>intro r h; exact h
 | cons a m ih=>intro r h; rw [wK]; exact ih (tP.2 (.inl h))
def okP (n:Nat) (p:Pr):Prop:=0≤p.1∧p.1<n∧0≤p.2∧p.2<n
/-- What holds between two steps of the search. -/
def GInv (l:List Inst) (a0:Pr) (seen list:List Pr):Prop :=
 a0∈seen∧(∀p∈list,p∈seen)∧(∀p∈seen,p∈list∨∃m,stepE l p=some m∧∀q∈m,q∈seen)∧(∀R,ClosB l R→R a0→∀p∈seen,R p)∧∀p∈seen,okP l.length p
theorem ginv_start {l:List Inst} {a0:Pr} (h:okP l.length a0):GInv l a0 [a0] [a0] :=
 ⟨by simp,fun p h=>h,fun p h=>.inl h,fun R _ hr p hp=>by rw [List.mem_singleton.1 hp]; exact hr,fun p hp=>by rw [List.mem_singleton.1 hp]; exact h⟩
theorem ginv_step {l:List Inst} {a0 p:Pr} {seen ps m:List Pr} (h:GInv l a0 seen (p::ps)) (hs:stepE l p=some m) (hm:∀q∈m,okP l.length q):GInv l a0 (addS (seen,ps) m).1 (addS (seen,ps) m).2:=by
 obtain ⟨h1,h2,h3,h4,h5⟩:=h
 refine ⟨xG.2 (.inl h1),fun q hq=>?_,fun q hq=>?_,fun R hc hr q hq=>?_,fun q hq=>?_⟩
 ·rcases addS_list hq with h | h
  ·exact xG.2 (.inl (h2 q (by simp [h])))
  ·exact xG.2 (.inr h)
 ·rcases addS_new hq with h | h
  ·rcases h3 q h with h' | ⟨m',h6,h7⟩
   ·rcases List.mem_cons.1 h' with rfl | h'
    ·exact .inr ⟨m,hs,fun r hr=>xG.2 (.inr hr)⟩
    ·exact .inl (addS_keep h')
   ·exact .inr ⟨m',h6,fun r hr=>xG.2 (.inl (h7 r hr))⟩
  ·exact .inl h
 ·rcases xG.1 hq with h | h
  ·exact h4 R hc hr q h
  ·obtain ⟨m',h6,h7⟩:=hc p (h4 R hc hr p (h2 p (by simp)))
   rw [hs] at h6
   injection h6 with h6
   subst h6
   exact h7 q h
 ·rcases xG.1 hq with h | h
  ·exact h5 q h
  ·exact hm q h
theorem ginv_none {l:List Inst} {a b:Int} {p:Pr} {seen ps:List Pr} (h:GInv l (a,b) seen (p::ps)) (hs:stepE l p=none):¬Bis l a b:=by
 rintro ⟨R,hc,hr⟩
 obtain ⟨m,hm,_⟩:=hc p (h.2.2.2.1 R hc hr p (h.2.1 p (by simp)))
 rw [hs] at hm; cases hm
theorem ginv_done {l:List Inst} {a b:Int} {seen:List Pr} (h:GInv l (a,b) seen []):Bis l a b:=by
 refine ⟨fun p=>p∈seen,fun p hp=>?_,h.1⟩
 rcases h.2.2.1 p hp with h' | h'
 ·cases h'
 ·exact h'
/-- How many pairs are not yet seen. -/
def pairsOf (n:Nat):List Pr:=(List.range n).flatMap fun (i:Nat)=>(List.range n).map fun (j:Nat)=>((i:Int),(j:Int))
theorem mem_pairs {n:Nat} {p:Pr} (h:okP n p):p∈pairsOf n:=by
 obtain ⟨a,b⟩:=p
 obtain ⟨h1,h2,h3,h4⟩:=h
 simp only at h1 h2 h3 h4
 refine List.mem_flatMap.2 ⟨a.toNat,by simp; omega,List.mem_map.2 ⟨b.toNat,by simp; omega,?_⟩⟩
 rw [Int.toNat_of_nonneg h1,Int.toNat_of_nonneg h3]
def unsn (n:Nat) (seen:List Pr):Nat:=(pairsOf n).countP fun q=>!decide (q∈seen)
theorem unsn_add {n:Nat} {seen:List Pr} {q:Pr} (hq:okP n q) (hn:¬q∈seen):unsn n (seen++[q])+1≤unsn n seen:=by
 unfold unsn
 have key:∀(L:List Pr),q∈L→L.countP (fun r=>!decide (r∈seen++[q]))+1≤L.countP fun r=>!decide (r∈seen):=by
  have le:∀(L:List Pr),L.countP (fun r=>!decide (r∈seen++[q]))≤L.countP fun r=>!decide (r∈seen):=by
   intro L
   refine List.countP_mono_left fun r _ hr=>?_
   simp only [Bool.not_eq_true',decide_eq_false_iff_not,List.mem_append,not_or] at hr ⊢
   exact hr.1
  intro L
  induction L with
  | nil=>intro h; cases h
  | cons a L ih =>
   intro h
   rw [List.countP_cons,List.countP_cons]
   by_cases e:a=q
   ·subst e
    have:=le L
    have e1:(!decide (a∈seen++[a]))=false:=by simp
    have e2:(!decide (a∈seen))=true:=by simp [hn]
    rw [e1,e2]
    simp only [if_true,Bool.false_eq_true,if_false]
    omega
   ·have h':=ih ((List.mem_cons.1 h).resolve_left fun h=>e h.symm)
    have:(a∈seen++[q])↔a∈seen:=by simp [e]
    simp only [this]
    omega
 exact key _ (mem_pairs hq)
theorem addS_meas {n:Nat}:∀{m:List Pr} {r:List Pr×List Pr},(∀q∈m,okP n q)→2*unsn n (addS r m).1+(addS r m).2.length≤2*unsn n r.1+r.2.length
 | [],r,_=>Nat.le_refl _
 | q::m,r,h=>by
  rw [wK]
  refine Nat.le_trans (addS_meas fun x hx=>h x (by simp [hx])) ?_
  unfold addQ
  split
  ·exact Nat.le_refl _
  ·rename_i hn
   have:=unsn_add (h q (by simp)) hn
   simp only [List.length_append,List.length_singleton]
   omega
end Go.Proofs.YtchlfjhbijmdiaaGreatDoor.Ai

namespace Go.Proofs.YtchlfjhbijmdiaaGreatDoor.Ai
set_option maxRecDepth 100000

/-! classes of equal insts, made finer and finer -/
def xB (x:Inst):List Int:=x.alts.flatMap (·.args)++zR x
def wF (l:List Inst) (c:List Int) (i:Nat):List Int:=iAt c i::(xB (zG l i)).map (iAt c)
/-- All parts are insts of the table. -/
def yt (l:List Inst):Prop:=∀x∈l,∀k∈yv x,0≤k∧k<l.length
theorem yH {l:List Inst} {i:Nat} (h:i<l.length):zG l i=l[i]:=by simp [zG,List.getElem?_eq_getElem h]
theorem we {l:List Inst} (hv:yt l) {i:Nat} (h:i<l.length):∀k∈yv (zG l i),0≤k∧k<l.length:=by
 rw [yH h]; exact hv _ (List.getElem_mem h)
/-- What holds of classes: each is named by its least inst; one shape; equal insts are together. -/
def CInv (l:List Inst) (c:List Int):Prop :=
 c.length=l.length∧(∀i:Nat,i<l.length→∃k:Nat,iAt c i=k∧k≤i∧iAt c k=k∧∀j:Nat,j<l.length→iAt c j=iAt c i→k≤j) ∧
 (∀i j:Nat,i<l.length→j<l.length→iAt c i=iAt c j→shape (zG l i) (zG l j)=true) ∧
 ∀i j:Nat,i<l.length→j<l.length→Bis l i j→iAt c i=iAt c j
/-- The least inst with the same key. -/
def ym (l:List Inst) (c:List Int) (i:Nat):Nat:=((List.range (i+1)).find? fun j=>decide (wF l c j=wF l c i)).getD i
def nxt (l:List Inst) (c:List Int):List Int:=(List.range l.length).map fun i=>(ym l c i:Int)
theorem yh (l:List Inst) (c:List Int) (i:Nat):wF l c (ym l c i)=wF l c i∧ym l c i≤i∧∀j:Nat,wF l c j=wF l c i→ym l c i≤j:=by
 unfold ym
 cases h:(List.range (i+1)).find? fun j=>decide (wF l c j=wF l c i) with
 | none =>
  have:=List.find?_eq_none.1 h i (by simp)
  simp at this
 | some k =>
  have h1:=List.find?_some h
  have h2:=List.mem_of_find?_eq_some h
  simp only [decide_eq_true_eq] at h1
  simp only [List.mem_range] at h2
  refine ⟨h1,by simp only [Option.getD_some]; omega,fun j hj=>?_⟩
  simp only [Option.getD_some]
  rcases Nat.lt_or_ge j k with hjk | hjk
  ·have h3:=List.find?_range_eq_some.1 h
   have:=h3.2.2 j hjk
   simp only [Bool.not_eq_true',decide_eq_false_iff_not] at this
   exact absurd hj this
  ·exact hjk
theorem vu {l:List Inst} {c:List Int} {i:Nat} (h:i<l.length):iAt (nxt l c) i=ym l c i:=by
 simp [iAt,nxt,h]
theorem map_zip {α β:Type} {f:α→β}:∀{l m:List α} {q:α×α},l.map f=m.map f→q∈l.zip m→f q.1=f q.2
 | a::l,b::m,q,h,hq=>by
  simp only [List.map_cons,List.cons.injEq] at h
  simp only [List.zip_cons_cons,List.mem_cons] at hq
  rcases hq with rfl | hq
  ·exact h.1
  ·exact map_zip h.2 hq
 | [],_::_,_,_,hq=>by simp at hq
 | _,[],_,_,hq=>by simp at hq
theorem zip_map {α β:Type} {f:α→β}:∀{l m:List α},l.length=m.length→(∀q∈l.zip m,f q.1=f q.2)→l.map f=m.map f
 | [],[],_,_=>rfl
 | a::l,b::m,h,hq=>by
  simp only [List.map_cons]
  rw [hq (a,b) (by simp),zip_map (by simpa using h) fun q h'=>hq q (by simp [h'])]
 | [],_::_,h,_=>by simp at h
 | _::_,[],h,_=>by simp at h
theorem parts_map {x y:Inst} (hs:shape x y=true) {f:Int→Int}:(xB x).map f=(xB y).map f↔(yv x).map f=(yv y).map f:=by
 have h1:(x.alts.flatMap (·.args)).length=(y.alts.flatMap (·.args)).length:=by
  simp only [shape,Bool.and_eq_true] at hs
  exact likeA_len hs.2
 have h2:(zR x).length=(zR y).length:=by
  simp only [shape,Bool.and_eq_true,decide_eq_true_eq] at hs
  rw [yy,yy,hs.1.2]
 simp only [xB,yv,List.map_append]
 constructor
 ·intro h
  obtain ⟨h3,h4⟩:=List.append_inj h (by simpa using h1)
  rw [h3,h4]
 ·intro h
  obtain ⟨h3,h4⟩:=List.append_inj h (by simpa using h2)
  rw [h3,h4]
theorem bis_key {l:List Inst} (hv:yt l) {c:List Int} (h:CInv l c) {i j:Nat} (hi:i<l.length) (hj:j<l.length) (hb:Bis l i j):wF l c i=wF l c j:=by
 unfold wF
 rw [h.2.2.2 i j hi hj hb]
 congr 1
 refine (parts_map (ub hb)).2 (zip_map (kids_len (ub hb)) fun q hq=>?_)
 have h1:=we hv hi q.1 (List.of_mem_zip hq).1
 have h2:=we hv hj q.2 (List.of_mem_zip hq).2
 have hbq:Bis l q.1 q.2:=by
  rcases bis_step hb with e | h'
  ·have:i=j:=by omega
   subst this
   rw [zip_self hq]; exact bis_refl l _
  ·exact h'.2 q hq
 have:=h.2.2.2 q.1.toNat q.2.toNat (by omega) (by omega) (by rw [Int.toNat_of_nonneg h1.1,Int.toNat_of_nonneg h2.1]; exact hbq)
 rw [Int.toNat_of_nonneg h1.1,Int.toNat_of_nonneg h2.1] at this
 exact this
theorem nxt_inv {l:List Inst} (hv:yt l) {c:List Int} (h:CInv l c):CInv l (nxt l c):=by
 refine ⟨by simp [nxt],fun i hi=>?_,fun i j hi hj he=>?_,fun i j hi hj hb=>?_⟩
 ·obtain ⟨h1,h2,h3⟩:=yh l c i
  have hk:ym l c i<l.length:=by omega
  refine ⟨ym l c i,vu hi,h2,?_,fun j hj he=>?_⟩
  ·rw [vu hk]
   obtain ⟨g1,g2,g3⟩:=yh l c (ym l c i)
   have:=h3 _ (g1.trans h1)
   omega
  ·rw [vu hj,vu hi] at he
   obtain ⟨g1,g2,g3⟩:=yh l c j
   have:ym l c j=ym l c i:=by omega
   omega
 ·rw [vu hi,vu hj] at he
  have he':ym l c i=ym l c j:=by omega
  have h1:=(yh l c i).1
  have h2:=(yh l c j).1
  rw [he'] at h1
  have:=h1.symm.trans h2
  unfold wF at this
  simp only [List.cons.injEq] at this
  exact h.2.2.1 i j hi hj this.1
 ·rw [vu hi,vu hj]
  have hk:=bis_key hv h hi hj hb
  have h1:=yh l c i
  have h2:=yh l c j
  have:=h1.2.2 _ (h2.1.trans hk.symm)
  have:=h2.2.2 _ (h1.1.trans hk)
  omega
theorem nxt_ge {l:List Inst} {c:List Int} (h:CInv l c) {i:Nat} (hi:i<l.length):iAt c i≤iAt (nxt l c) i:=by
 rw [vu hi]
 obtain ⟨h1,h2,h3⟩:=yh l c i
 obtain ⟨k,g1,g2,g3,g4⟩:=h.2.1 i hi
 unfold wF at h1
 simp only [List.cons.injEq] at h1
 have:=g4 (ym l c i) (by omega) h1.1
 omega
/-- Nothing changed: the classes are those of equal insts. -/
theorem cls_of {l:List Inst} (hv:yt l) {c:List Int} (h:CInv l c) (hs:nxt l c=c):c=cls l:=by
 have keys:∀i j:Nat,i<l.length→j<l.length→iAt c i=iAt c j→wF l c i=wF l c j:=fun i j hi hj he=>by
  rw [← hs,vu hi,vu hj] at he
  have he':ym l c i=ym l c j:=by omega
  rw [← (yh l c i).1,← (yh l c j).1,he']
 have same:∀i j:Nat,i<l.length→j<l.length→iAt c i=iAt c j→Bis l i j:=fun i j hi hj he=>by
  refine bis_of (R:=fun a b=>0≤a∧a<l.length∧0≤b∧b<l.length∧iAt c a=iAt c b) (fun a b ⟨a0,a1,b0,b1,hab⟩=>?_) ⟨by omega,by omega,by omega,by omega,he⟩
  have ea:=Int.toNat_of_nonneg a0
  have eb:=Int.toNat_of_nonneg b0
  have hsh:=h.2.2.1 a.toNat b.toNat (by omega) (by omega) (by rw [ea,eb]; exact hab)
  have hk:=keys a.toNat b.toNat (by omega) (by omega) (by rw [ea,eb]; exact hab)
  have va:=we hv (i:=a.toNat) (by omega)
  have vb:=we hv (i:=b.toNat) (by omega)
  rw [ea,eb] at hsh
  unfold wF at hk
  rw [ea,eb] at hk
  rw [ea] at va
  rw [eb] at vb
  simp only [List.cons.injEq] at hk
  refine ⟨hsh,fun q hq=>?_⟩
  have h1:=va q.1 (List.of_mem_zip hq).1
  have h2:=vb q.2 (List.of_mem_zip hq).2
  exact ⟨h1.1,h1.2,h2.1,h2.2,map_zip ((parts_map hsh).1 hk.2) hq⟩
 refine List.ext_getElem (by simp [cls,h.1]) fun i hi hj=>?_
 have hil:i<l.length:=by rw [← h.1]; exact hi
 obtain ⟨k,g1,g2,g3,g4⟩:=h.2.1 i hil
 obtain ⟨b1,b2,b3⟩:=cls_spec l i
 have e1:c[i]=iAt c i:=by simp [iAt,List.getElem?_eq_getElem hi]
 have e2:(cls l)[i]=(clsAt l i:Int):=by simp [cls]
 rw [e1,e2,g1]
 have hk1:clsAt l i≤k:=b3 k (same k i (by omega) hil (by rw [g3,g1]))
 have hk2:k≤clsAt l i:=g4 _ (by omega) (h.2.2.2 _ i (by omega) hil b1)
 omega
/-- The first classes: those of one shape. -/
def vC (l:List Inst) (i:Nat):Nat:=((List.range (i+1)).find? fun (j:Nat)=>shape (zG l j) (zG l i)).getD i
def fstC (l:List Inst):List Int:=(List.range l.length).map fun i=>(vC l i:Int)
theorem xg (l:List Inst) (i:Nat):shape (zG l (vC l i)) (zG l i)=true∧vC l i≤i∧∀j:Nat,shape (zG l j) (zG l i)=true→vC l i≤j:=by
 unfold vC
 cases h:(List.range (i+1)).find? fun (j:Nat)=>shape (zG l j) (zG l i) with
 | none =>
  have:=List.find?_eq_none.1 h i (by simp)
  simp [shape_refl] at this
 | some k =>
  have h1:=List.find?_some h
  have h2:=List.mem_of_find?_eq_some h
  simp only [List.mem_range] at h2
  refine ⟨h1,by simp only [Option.getD_some]; omega,fun j hj=>?_⟩
  simp only [Option.getD_some]
  rcases Nat.lt_or_ge j k with hjk | hjk
  ·have h3:=List.find?_range_eq_some.1 h
   have:=h3.2.2 j hjk
   rw [hj] at this
   cases this
  ·exact hjk
theorem fst_at {l:List Inst} {i:Nat} (h:i<l.length):iAt (fstC l) i=vC l i:=by
 simp [iAt,fstC,h]
theorem fst_inv (l:List Inst):CInv l (fstC l):=by
 refine ⟨by simp [fstC],fun i hi=>?_,fun i j hi hj he=>?_,fun i j hi hj hb=>?_⟩
 ·obtain ⟨h1,h2,h3⟩:=xg l i
  have hk:vC l i<l.length:=by omega
  refine ⟨vC l i,fst_at hi,h2,?_,fun j hj he=>?_⟩
  ·rw [fst_at hk]
   obtain ⟨g1,g2,g3⟩:=xg l (vC l i)
   have:=h3 _ (wP g1 h1)
   omega
  ·rw [fst_at hj,fst_at hi] at he
   obtain ⟨g1,g2,g3⟩:=xg l j
   omega
 ·rw [fst_at hi,fst_at hj] at he
  have he':vC l i=vC l j:=by omega
  have h1:=(xg l i).1
  have h2:=(xg l j).1
  rw [he'] at h1
  exact wP (shape_symm h1) h2
 ·rw [fst_at hi,fst_at hj]
  have hk:=ub hb
  have h1:=xg l i
  have h2:=xg l j
  have:=h1.2.2 _ (wP h2.1 (shape_symm hk))
  have:=h2.2.2 _ (wP h1.1 hk)
  omega
end Go.Proofs.YtchlfjhbijmdiaaGreatDoor.Ai

