/- Part of a reckoning of a Go program over abstract values, proved sound against the model. -/
import Derived.Test.YtchlfjhbijmdiaaGreatDoorAiC6
set_option linter.unusedSimpArgs false
set_option linter.unusedVariables false
namespace Go.Proofs.YtchlfjhbijmdiaaGreatDoor.Ai
noncomputable section

/-! what a listed set of operations has done -/
def tmF (L:Nat→Bool):List Oper→List Rec→Nat→List V→List V
 | o::ops,r::rs,i,tm=>tmF L ops rs (i+1) (if L i=true then putT o.dst tm r.v else tm)
 | _,_,_,tm=>tm

/-- The last change's store. -/
def yA (L:Nat→Bool):List Rec→Nat→S→S
 | r::rs,i,c=>yA L rs (i+1) (bif L i && decide (r.k=3) then r.c' else c)
 | [],_,c=>c

def ins (L:Nat→Bool) (j:Nat):Nat→Bool:=fun i=>i == j || L i

theorem putT_get (d:Option Tmp) (tm:List V) (v:V) (t:Nat) (h:d≠some t):(putT d tm v)[t]?=tm[t]?:=by
 cases d with
 | none=>rfl
 | some e =>
  have:e≠t:=fun k=>h (by rw [k])
  simp [putT,uI,this]

theorem putT_comm (d e:Option Tmp) (tm:List V) (u v:V) (h:∀t,d=some t→e≠some t):putT d (putT e tm u) v=putT e (putT d tm v) u:=by
 cases d with
 | none=>rfl
 | some t =>
  cases e with
  | none=>rfl
  | some t' =>
   have:t≠t':=fun k=>h t rfl (by rw [k])
   show updL (updL tm u t') v t=updL (updL tm v t) u t'
   simp only [uI]
   exact List.set_comm _ _ (fun k=>this k.symm)

theorem tmF_comm (L:Nat→Bool) (d:Option Tmp) (v:V):∀(ops:List Oper) (rs:List Rec) (i:Nat) (tm:List V),(∀(k:Nat) (o:Oper),ops[k]?=some o→L (i+k)=true→∀t,d=some t→o.dst≠some t) →
  tmF L ops rs i (putT d tm v)=putT d (tmF L ops rs i tm) v
 | [],rs,i,tm,h=>rfl
 | o::ops,[],i,tm,h=>rfl
 | o::ops,r::rs,i,tm,h=>by
  simp only [tmF]
  have h':∀(k:Nat) (o:Oper),ops[k]?=some o→L (i+1+k)=true→∀t,d=some t→o.dst≠some t:=fun k o' ho hl=>h (k+1) o' (by simpa using ho) (by rw [show i+(k+1)=i+1+k by omega]; exact hl)
  by_cases hL:L i=true
  ·rw [if_pos hL,if_pos hL,← tmF_comm L d v ops rs (i+1) _ h',putT_comm o.dst d tm v r.v]
   intro t ht hd
   exact h 0 o (by simp) (by simpa using hL) t hd ht
  ·rw [if_neg hL,if_neg hL]
   exact tmF_comm L d v ops rs (i+1) tm h'

theorem tmF_congr {L L':Nat→Bool}:∀(ops:List Oper) (rs:List Rec) (i:Nat) (tm:List V),(∀k,k<rs.length→L (i+k)=L' (i+k))→tmF L ops rs i tm=tmF L' ops rs i tm
 | [],rs,i,tm,h=>rfl
 | o::ops,[],i,tm,h=>rfl
 | o::ops,r::rs,i,tm,h=>by
  simp only [tmF]
  rw [show L i=L' i from h 0 (by simp)]
  exact tmF_congr ops rs (i+1) _ fun k hk=>by
   have:=h (k+1) (by simp; omega)
   rwa [show i+(k+1)=i+1+k by omega] at this

/-- One more is listed. -/
theorem tmF_ins (L:Nat→Bool) (j:Nat) (o:Oper) (r:Rec):∀(ops:List Oper) (rs:List Rec) (i t:Nat) (tm:List V),j=i+t→ops[t]?=some o→rs[t]?=some r→L j=false →
  (∀(k:Nat) (o':Oper),ops[k]?=some o'→i+k≠j→∀t,o.dst=some t→o'.dst≠some t)→tmF (ins L j) ops rs i tm=putT o.dst (tmF L ops rs i tm) r.v
 | [],rs,i,t,tm,hj,ho,hr,hL,h=>by simp at ho
 | o'::ops,[],i,t,tm,hj,ho,hr,hL,h=>by simp at hr
 | o'::ops,r'::rs,i,0,tm,hj,ho,hr,hL,h=>by
  simp at ho hr hj
  subst ho hr hj
  have hi:ins L j j=true:=by simp [ins]
  simp only [tmF,hi,if_true,hL,Bool.false_eq_true,if_false]
  have e:=tmF_congr (L:=ins L j) (L':=L) ops rs (j+1) (putT o'.dst tm r'.v) fun k hk=>by
   have:(j+1+k == j)=false:=by simp; omega
   simp [ins,this]
  rw [e]
  refine tmF_comm L o'.dst r'.v ops rs (j+1) tm fun k o'' ho _=>h (k+1) o'' (by simpa using ho) (by omega)
 | o'::ops,r'::rs,i,t+1,tm,hj,ho,hr,hL,h=>by
  have hne:(i == j)=false:=by simp; omega
  have hins:ins L j i=L i:=by simp [ins,hne]
  simp only [tmF,hins]
  exact tmF_ins L j o r ops rs (i+1) t _ (by omega) (by simpa using ho) (by simpa using hr) hL fun k o'' ho hk=>h (k+1) o'' (by simpa using ho) (by omega)

/-- Two listings that agree on the operations that write a temporary. -/
theorem tmF_same {L L':Nat→Bool} (d:Tmp):∀(ops:List Oper) (rs:List Rec) (i:Nat) (tm tm':List V),(∀(k:Nat) (o:Oper),ops[k]?=some o→o.dst=some d→L (i+k)=L' (i+k))→tm[d]?=tm'[d]? →
  (tmF L ops rs i tm)[d]?=(tmF L' ops rs i tm')[d]?
 | [],rs,i,tm,tm',h,e=>e
 | o::ops,[],i,tm,tm',h,e=>e
 | o::ops,r::rs,i,tm,tm',h,e=>by
  simp only [tmF]
  refine tmF_same d ops rs (i+1) _ _ (fun k o' ho hd=>by
   have:=h (k+1) o' (by simpa using ho) hd
   rwa [show i+(k+1)=i+1+k by omega] at this) ?_
  by_cases hd:o.dst=some d
  ·have:L i=L' i:=h 0 o (by simp) hd
   rw [this]
   split
   ·simp only [hd,putT,uI,List.getElem?_set]
    have hle:tm.length≤d↔tm'.length≤d:=by rw [← List.getElem?_eq_none_iff,← List.getElem?_eq_none_iff,e]
    have hlen:d<tm.length↔d<tm'.length:=by rw [← Nat.not_le,← Nat.not_le,hle]
    simp [hlen]
   ·exact e
  ·have h1:∀(tm:List V),(putT o.dst tm r.v)[d]?=tm[d]?:=fun tm=>putT_get _ _ _ _ hd
   split <;> split <;> simp [h1,e]

/-! the store -/
theorem vn {L L':Nat→Bool}:∀(rs:List Rec) (i:Nat) (c:S),(∀(k:Nat) (r:Rec),rs[k]?=some r→r.k=3→L (i+k)=L' (i+k))→yA L rs i c=yA L' rs i c
 | [],i,c,h=>rfl
 | r::rs,i,c,h=>by
  simp only [yA]
  have e:(L i && decide (r.k=3))=(L' i && decide (r.k=3)):=by
   by_cases hk:r.k=3
   ·rw [show L i=L' i from h 0 r (by simp) hk]
   ·simp [hk]
  rw [e]
  exact vn rs (i+1) _ fun k r' hr hk=>by
   have:=h (k+1) r' (by simpa using hr) hk
   rwa [show i+(k+1)=i+1+k by omega] at this

theorem ut {L:Nat→Bool}:∀(rs:List Rec) (i:Nat) (c:S),(∀(k:Nat) (r:Rec),rs[k]?=some r→r.k=3→L (i+k)=false)→yA L rs i c=c
 | [],i,c,h=>rfl
 | r::rs,i,c,h=>by
  simp only [yA]
  have e:(L i && decide (r.k=3))=false:=by
   by_cases hk:r.k=3
   ·rw [show L i=false from h 0 r (by simp) hk]; simp
   ·simp [hk]
  rw [e]
  exact ut rs (i+1) _ fun k r' hr hk=>by
   have:=h (k+1) r' (by simpa using hr) hk
   rwa [show i+(k+1)=i+1+k by omega] at this

/-- A change of the store that is listed when no later one is. -/
theorem coreF_eff {L:Nat→Bool} {j:Nat} {r:Rec} (hk:r.k=3):∀(rs:List Rec) (i t:Nat) (c:S),j=i+t→rs[t]?=some r→L j=false →
  (∀(k:Nat) (r':Rec),rs[k]?=some r'→j<i+k→r'.k=3→L (i+k)=false)→yA (ins L j) rs i c=r.c'
 | [],i,t,c,hj,hr,hL,h=>by simp at hr
 | r'::rs,i,0,c,hj,hr,hL,h=>by
  simp at hr hj
  subst hr hj
  have hi:(ins L j j && decide (r'.k=3))=true:=by simp [ins,hk]
  simp only [yA,hi,cond_true]
  refine ut rs (j+1) _ fun k r'' hr hk=>?_
  have:=h (k+1) r'' (by simpa using hr) (by omega) hk
  rw [show j+(k+1)=j+1+k by omega] at this
  have hne:(j+1+k == j)=false:=by simp; omega
  simp [ins,hne,this]
 | r'::rs,i,t+1,c,hj,hr,hL,h=>by
  have hne:(i == j)=false:=by simp; omega
  have hins:ins L j i=L i:=by simp [ins,hne]
  simp only [yA,hins]
  exact coreF_eff hk rs (i+1) t _ (by omega) (by simpa using hr) hL fun k r'' hr hlt hk=>by
   have:=h (k+1) r'' (by simpa using hr) (by omega) hk
   rwa [show i+(k+1)=i+1+k by omega] at this

theorem ue (id:Nat) (ob:Option O) (s:S):putO false id ob s=s:=by cases ob <;> rfl

theorem xx {p q:Nat→Bool} {base:Nat}:∀(rs:List Rec) (i:Nat) (s:S),(∀(k:Nat) (r:Rec),rs[k]?=some r→r.ob≠none→p (i+k)=q (i+k))→yW p base rs i s=yW q base rs i s
 | [],i,s,h=>rfl
 | r::rs,i,s,h=>by
  simp only [yW]
  have e:putO (p i) (base+i) r.ob s=putO (q i) (base+i) r.ob s:=by
   cases ho:r.ob with
   | none=>rfl
   | some ob=>rw [show p i=q i from h 0 r (by simp) (by simp [ho])]
  rw [e]
  exact xx rs (i+1) _ fun k r' hr hk=>by
   have:=h (k+1) r' (by simpa using hr) hk
   rwa [show i+(k+1)=i+1+k by omega] at this

theorem addF_none {p:Nat→Bool} {base:Nat}:∀(rs:List Rec) (i:Nat) (s:S),(∀(k:Nat) (r:Rec),rs[k]?=some r→r.ob≠none→p (i+k)=false)→yW p base rs i s=s
 | [],i,s,h=>rfl
 | r::rs,i,s,h=>by
  simp only [yW]
  have e:putO (p i) (base+i) r.ob s=s:=by
   cases ho:r.ob with
   | none=>rfl
   | some ob=>rw [show p i=false from h 0 r (by simp) (by simp [ho]),ue]
  rw [e]
  exact addF_none rs (i+1) _ fun k r' hr hk=>by
   have:=h (k+1) r' (by simpa using hr) hk
   rwa [show i+(k+1)=i+1+k by omega] at this

theorem addF_take {p:Nat→Bool} {base:Nat}:∀(rs:List Rec) (i t:Nat) (s:S),yW p base (rs.take t) i s=yW (fun k=>decide (k<i+t) && p k) base rs i s
 | [],i,t,s=>by simp [yW]
 | r::rs,i,0,s=>by
  rw [addF_none (p:=fun k=>decide (k<i+0) && p k)]
  ·simp [yW]
  ·intro k _ _ _
   have:¬i+k<i:=by omega
   simp [this]
 | r::rs,i,t+1,s=>by
  have h0:(decide (i<i+(t+1)) && p i)=p i:=by simp
  simp only [List.take_succ_cons,yW,h0]
  rw [addF_take rs (i+1) t]
  rw [show i+1+t=i+(t+1) by omega]

theorem addF_add {p:Nat→Bool} {base id:Nat} {o:O}:∀(rs:List Rec) (i:Nat) (s:S),(∀(k:Nat),k<rs.length→p (i+k)=true→id≠base+(i+k))→yW p base rs i (s.add id o)=(yW p base rs i s).add id o
 | [],i,s,h=>rfl
 | r::rs,i,s,h=>by
  simp only [yW]
  have h':∀(k:Nat),k<rs.length→p (i+1+k)=true→id≠base+(i+1+k):=fun k hk hp=>by
   have:=h (k+1) (by simp; omega) (by rw [show i+(k+1)=i+1+k by omega]; exact hp)
   rwa [show i+(k+1)=i+1+k by omega] at this
  have e:putO (p i) (base+i) r.ob (s.add id o)=(putO (p i) (base+i) r.ob s).add id o:=by
   cases ho:r.ob with
   | none=>rfl
   | some ob =>
    cases hp:p i with
    | false=>rfl
    | true=>exact S.add_comm s id (base+i) o ob (h 0 (by simp) (by simpa using hp))
  rw [e]
  exact addF_add rs (i+1) _ h'

/-- Something new. -/
theorem addF_new {p:Nat→Bool} {base j:Nat} {r:Rec} {ob:O} (ho:r.ob=some ob):∀(rs:List Rec) (i t:Nat) (s:S),j=i+t→rs[t]?=some r→p j=false→yW (ins p j) base rs i s=(yW p base rs i s).add (base+j) ob
 | [],i,t,s,hj,hr,hp=>by simp at hr
 | r'::rs,i,0,s,hj,hr,hp=>by
  simp at hr hj
  subst hr hj
  have hi:ins p j j=true:=by simp [ins]
  simp only [yW,hi,hp,ue]
  have e:=xx (p:=ins p j) (q:=p) (base:=base) rs (j+1) (putO true (base+j) r'.ob s) fun k r'' _ _=>by
   have:(j+1+k == j)=false:=by simp; omega
   simp [ins,this]
  rw [e,ho]
  exact addF_add rs (j+1) s fun k _ _=>by omega
 | r'::rs,i,t+1,s,hj,hr,hp=>by
  have hne:(i == j)=false:=by simp; omega
  have hins:ins p j i=p i:=by simp [ins,hne]
  simp only [yW,hins]
  exact addF_new ho rs (i+1) t _ (by omega) (by simpa using hr) hp

theorem addF_next {p:Nat→Bool} {base n:Nat}:∀(rs:List Rec) (i:Nat) (s:S),base+i+rs.length≤n→n≤s.next→(yW p base rs i s).next=s.next
 | [],i,s,h,hn=>rfl
 | r::rs,i,s,h,hn=>by
  simp only [yW,List.length_cons] at h ⊢
  have e:(putO (p i) (base+i) r.ob s).next=s.next:=by
   cases r.ob with
   | none=>rfl
   | some ob =>
    cases p i with
    | false=>rfl
    | true=>show (s.add (base+i) ob).next=s.next; rw [S.next_add]; omega
  rw [addF_next (n:=n) rs (i+1) _ (by omega) (by rw [e]; exact hn),e]

theorem addF_ext {p:Nat→Bool} {base:Nat} {s0:S}:∀(rs:List Rec) (i:Nat) (s:S),Ext s0 s→(∀(k:Nat) (r:Rec),rs[k]?=some r→r.ob≠none→p (i+k)=true→s.get (base+(i+k))=none)→Ext s0 (yW p base rs i s)
 | [],i,s,he,h=>he
 | r::rs,i,s,he,h=>by
  simp only [yW]
  have h':∀(k:Nat) (r':Rec),rs[k]?=some r'→r'.ob≠none→p (i+1+k)=true→s.get (base+(i+1+k))=none:=fun k r' hr hob hp=>by
   have:=h (k+1) r' (by simpa using hr) hob (by rw [show i+(k+1)=i+1+k by omega]; exact hp)
   rwa [show i+(k+1)=i+1+k by omega] at this
  cases ho:r.ob with
  | none=>exact addF_ext rs (i+1) s he h'
  | some ob =>
   cases hp:p i with
   | false=>exact addF_ext rs (i+1) s he h'
   | true =>
    refine addF_ext rs (i+1) (s.add (base+i) ob) (he.add (h 0 r (by simp) (by simp [ho]) (by simpa using hp)) ob) fun k r' hr hob hp'=>?_
    rw [S.get_add,if_neg (by omega)]
    exact h' k r' hr hob hp'

/-! the run as it is written -/
theorem tmF_lt (n:Nat):∀(ops:List Oper) (rs:List Rec) (i:Nat) (tm:List V),n≤i→tmF (fun k=>decide (k<n)) ops rs i tm=tm
 | [],rs,i,tm,h=>rfl
 | o::ops,[],i,tm,h=>rfl
 | o::ops,r::rs,i,tm,h=>by
  have:¬i<n:=by omega
  simp only [tmF,this,decide_false,Bool.false_eq_true,if_false]
  exact tmF_lt n ops rs (i+1) tm (by omega)

section
variable {cfg:Cfg} {cf:CF} {sl:Bool} {ops:Array Oper} {base:Nat}

theorem kind_le (cfg:Cfg) (o:Oper):zC cfg o≤3:=by
 unfold zC
 repeat' split
 all_goals omega

theorem step_inv {b:List Nat} {acc:List Rec} {o:Oper} {i:Nat} {tm:List V} {c:S} {r:Rec} (h:stepD cfg cf sl ops b base acc o i tm c=some r):r.tm=tm∧r.c=c ∧
  ((yk ops o tm=true∧zC cfg o=3∧r.k=3∧yS cfg cf sl (base+i) o tm (yW (fun k=>!absB b (zE acc 0) k && xp b k i) base acc 0 c)=some (.val r.v r.c')∧base+ops.size≤r.c'.next∧r.ob=none) ∨
   (yk ops o tm=true∧zC cfg o=2∧r.k=2∧r.c'=c∧∃ob s',r.ob=some ob∧s'.get (base+i)=some ob∧yS cfg cf sl (base+i) o tm c=some (.val r.v s')) ∨
   (yk ops o tm=true∧r.k=zC cfg o∧r.k<2∧r.c'=c∧r.ob=none∧∃s',yS cfg cf sl (base+i) o tm c=some (.val r.v s')) ∨
   (yk ops o tm=false∧r.k=4∧r.v=yc∧r.c'=c∧r.ob=none)):=by
 unfold stepD at h
 split at h
 ·rename_i hw
  have hk:=kind_le cfg o
  split at h
  ·rename_i h3
   split at h
   ·rename_i v s' hd
    rw [Bool.cond_eq_ite] at h
    split at h
    case isFalse=>cases h
    rename_i hb
    injection h with h; subst h
    exact ⟨rfl,rfl,.inl ⟨hw,h3,rfl,hd,Nat.le_of_ble_eq_true hb,rfl⟩⟩
   ·cases h
  ·rename_i h2
   split at h
   ·rename_i v s' hd
    split at h
    ·rename_i ob hob
     injection h with h; subst h
     exact ⟨rfl,rfl,.inr (.inl ⟨hw,h2,rfl,rfl,ob,s',rfl,hob,hd⟩)⟩
    ·cases h
   ·cases h
  ·rename_i hn3 hn2
   split at h
   ·rename_i v s' hd
    injection h with h; subst h
    exact ⟨rfl,rfl,.inr (.inr (.inl ⟨hw,rfl,by show zC cfg o<2; have h3:zC cfg o≠3:=hn3; have h2:zC cfg o≠2:=hn2; omega,rfl,rfl,s',hd⟩))⟩
   ·cases h
 ·rename_i hw
  injection h with h; subst h
  exact ⟨rfl,rfl,.inr (.inr (.inr ⟨by simpa using hw,rfl,rfl,rfl,rfl⟩))⟩

theorem step_core {b:List Nat} {acc:List Rec} {o:Oper} {i:Nat} {tm:List V} {c:S} {r:Rec} (h:stepD cfg cf sl ops b base acc o i tm c=some r):(bif decide (r.k=3) then r.c' else c)=r.c':=by
 obtain ⟨_,_,h⟩:=step_inv h
 rcases h with h | h | h | h
 ·rw [h.2.2.1]; rfl
 ·rw [h.2.2.2.1]; simp
 ·rw [h.2.2.2.1]; simp
 ·rw [h.2.2.2.1]; simp

theorem coreF_lt (n:Nat) (rs:List Rec) (i:Nat) (c:S) (h:n≤i):yA (fun k=>decide (k<n)) rs i c=c :=
 ut rs i c fun k _ _ _=>by
  have:¬i+k<n:=by omega
  simp [this]

theorem draw_at {b:List Nat}:∀(l:List Oper) (i:Nat) (acc:List Rec) (tm:List V) (c:S) (rs:List Rec) (tm':List V) (c':S),xw cfg cf sl ops b base l i acc tm c=some (rs,tm',c') →
  ∃new,rs=acc++new∧new.length=l.length∧tm'=tmF (fun _=>true) l new i tm∧c'=yA (fun _=>true) new i c ∧
  ∀(t:Nat) (o:Oper) (r:Rec),l[t]?=some o→new[t]?=some r→stepD cfg cf sl ops b base (acc++new.take t) o (i+t) r.tm r.c=some r ∧
   r.tm=tmF (fun k=>decide (k<i+t)) l new i tm∧r.c=yA (fun k=>decide (k<i+t)) new i c
 | [],i,acc,tm,c,rs,tm',c',h=>by
  simp only [xw,Option.some.injEq,Prod.mk.injEq] at h
  obtain ⟨rfl,rfl,rfl⟩:=h
  exact ⟨[],by simp,rfl,rfl,rfl,fun t o r ho=>by simp at ho⟩
 | o::l,i,acc,tm,c,rs,tm',c',h=>by
  simp only [xw] at h
  split at h
  case h_2=>cases h
  rename_i r1 hst
  obtain ⟨new,h1,h2,h3,h4,h5⟩:=draw_at l (i+1) _ _ _ _ _ _ h
  have hcore:=step_core hst
  obtain ⟨htm,hc,_⟩:=step_inv hst
  refine ⟨r1::new,by rw [h1]; simp,by simp [h2],by simp [tmF,h3],by simp only [yA,Bool.true_and]; rw [hcore]; exact h4,fun t o' r ho hrt=>?_⟩
  cases t with
  | zero =>
   simp at ho hrt
   subst ho hrt
   refine ⟨?_,?_,?_⟩
   ·rw [htm,hc]; simpa using hst
   ·rw [htm]; exact (tmF_lt i (o::l) _ i tm (by omega)).symm
   ·rw [hc]; exact (coreF_lt (i+0) (r1::new) i c (by omega)).symm
  | succ t =>
   obtain ⟨a1,a2,a3⟩:=h5 t o' r (by simpa using ho) (by simpa using hrt)
   have e:i+1+t=i+(t+1):=by omega
   rw [e] at a1 a2 a3
   refine ⟨?_,?_,?_⟩
   ·simpa using a1
   ·rw [a2]; simp only [tmF]; rw [if_pos (by simp)]
   ·rw [a3]; simp only [yA]
    have:(decide (i<i+(t+1)) && decide (r1.k=3))=decide (r1.k=3):=by simp
    rw [this,hcore]

/-! epochs -/
theorem wu:∀(rs:List Rec) (i e:Nat),e∈zE rs i↔∃(t:Nat) (r:Rec),e=i+t∧rs[t]?=some r∧r.k=3
 | [],i,e=>by simp [zE]
 | r::rs,i,e=>by
  have ih:=wu rs (i+1) e
  simp only [zE]
  constructor
  ·intro h
   split at h
   ·rename_i hk
    rcases List.mem_cons.1 h with rfl | h
    ·exact ⟨0,r,rfl,by simp,hk⟩
    ·obtain ⟨t,r',h1,h2,h3⟩:=ih.1 h
     exact ⟨t+1,r',by omega,by simpa using h2,h3⟩
   ·obtain ⟨t,r',h1,h2,h3⟩:=ih.1 h
    exact ⟨t+1,r',by omega,by simpa using h2,h3⟩
  ·rintro ⟨t,r',h1,h2,h3⟩
   cases t with
   | zero =>
    simp at h2; subst h2
    rw [if_pos h3]; simp [h1]
   | succ t =>
    have:=ih.2 ⟨t,r',by omega,by simpa using h2,h3⟩
    split
    ·exact List.mem_cons_of_mem _ this
    ·exact this

theorem filter_len_congr {p q:Nat→Bool}:∀(l:List Nat),(∀e∈l,p e=q e)→(l.filter p).length=(l.filter q).length
 | l,h=>by rw [List.filter_congr h]

theorem effs_ins {L:Nat→Bool} {j:Nat} {r:Rec}:∀(rs:List Rec) (i t:Nat),j=i+t→rs[t]?=some r→L j=false →
  ((zE rs i).filter (ins L j)).length=((zE rs i).filter L).length+(if r.k=3 then 1 else 0)
 | [],i,t,hj,hr,hL=>by simp at hr
 | r'::rs,i,0,hj,hr,hL=>by
  simp at hr hj
  subst hr hj
  have e:((zE rs (j+1)).filter (ins L j)).length=((zE rs (j+1)).filter L).length:=filter_len_congr _ fun e he=>by
   obtain ⟨t,_,h1,_⟩:=(wu rs (j+1) e).1 he
   have:(e == j)=false:=by simp; omega
   simp [ins,this]
  simp only [zE]
  split
  ·rw [List.filter_cons_of_pos (by simp [ins]),List.filter_cons_of_neg (by simp [hL]),List.length_cons,e]
  ·rw [e]; rfl
 | r'::rs,i,t+1,hj,hr,hL=>by
  have ih:=effs_ins (L:=L) (j:=j) rs (i+1) t (by omega) (by simpa using hr) hL
  have hne:(i == j)=false:=by simp; omega
  simp only [zE]
  split
  ·have hins:ins L j i=L i:=by simp [ins,hne]
   simp only [List.filter_cons,hins]
   split
   ·simp only [List.length_cons]
    omega
   ·exact ih
  ·exact ih

theorem starts_at {r:Rec} (hk:r.k=3):∀(rs:List Rec) (i t:Nat),rs[t]?=some r→(zU rs)[((zE rs i).filter fun e=>decide (e<i+t)).length]?=some r.c'
 | [],i,t,hr=>by simp at hr
 | r'::rs,i,0,hr=>by
  simp at hr
  subst hr
  have:(zE (r'::rs) i).filter (fun e=>decide (e<i+0))=[]:=by
   rw [List.filter_eq_nil_iff]
   intro e he
   obtain ⟨t,_,h1,_⟩:=(wu _ i e).1 he
   simp; omega
  rw [this]
  simp [zU,hk]
 | r'::rs,i,t+1,hr=>by
  have ih:=starts_at hk rs (i+1) t (by simpa using hr)
  have e:i+1+t=i+(t+1):=by omega
  rw [e] at ih
  simp only [zE,zU]
  split
  ·rw [List.filter_cons_of_pos (by simp),List.length_cons,List.getElem?_cons_succ]
   exact ih
  ·exact ih
end
end
end Go.Proofs.YtchlfjhbijmdiaaGreatDoor.Ai

namespace Go.Proofs.YtchlfjhbijmdiaaGreatDoor.Ai

/-! a run beside what it does not meet -/
structure Shift (x x':Cx):Prop where
 w:x'.w=x.w
 ρ:x'.ρ=x.ρ
 K:x'.K=x.K
 no:∀b,x'.no b→x.no b

theorem Shift.refl (x:Cx):Shift x x:=⟨rfl,rfl,rfl,fun _ h=>h⟩
theorem Shift.trans {x y z:Cx} (h:Shift x y) (g:Shift y z):Shift x z:=⟨g.w.trans h.w,g.ρ.trans h.ρ,g.K.trans h.K,fun b hb=>h.no b (g.no b hb)⟩

mutual
theorem Rep.shift {x x':Cx} (h:Shift x x') {v:V} {c:Value}:Rep x v c→Rep x' v c
 | .bool b=>.bool b
 | .int k n=>.int k n
 | .str s=>.str s
 | .nilp=>.nilp
 | .ptr id off hk=>by
  have:=Rep.ptr (x:=x') id off (by rw [h.K]; exact hk)
  rw [h.ρ] at this; exact this
 | .cptr b o off hh hl=>.cptr b o off ⟨by rw [h.w]; exact hh.1,fun k=>hh.2.1 (h.no _ k),by rw [h.w]; exact hh.2.2⟩ (RepL.shift h hl)
 | .list b o cap sz hh hl hc he=>.list b o cap sz ⟨by rw [h.w]; exact hh.1,fun k=>hh.2.1 (h.no _ k),by rw [h.w]; exact hh.2.2⟩ (RepL.shift h hl) hc he
 | .lempty a cap=>.lempty a cap
 | .nils=>.nils
 | .arr id off len sz ag cp o cap n hk h1 h2 h3 h4 h5=>by
  have:=Rep.arr (x:=x') id off len sz ag cp o cap n (by rw [h.K]; exact hk)
  rw [h.ρ,h.w] at this
  exact this h1 h2 h3 h4 h5
 | .map id hk=>by
  have:=Rep.map (x:=x') id (by rw [h.K]; exact hk)
  rw [h.ρ] at this; exact this
 | .nilm=>.nilm
 | .yield id hk=>by
  have:=Rep.yield (x:=x') id (by rw [h.K]; exact hk)
  rw [h.ρ] at this; exact this
 | .func fn ha hb=>.func fn (RepL.shift h ha) (RepL.shift h hb)
 | .nilf=>.nilf
 | .iface t hv=>.iface t (Rep.shift h hv)
 | .nili=>.nili
 | .agg hl=>.agg (RepL.shift h hl)
 | .tup hl=>.tup (RepL.shift h hl)
theorem RepL.shift {x x':Cx} (h:Shift x x') {l:List V} {m:List Value}:RepL x l m→RepL x' l m
 | .nil=>.nil
 | .cons hv hl=>.cons (Rep.shift h hv) (RepL.shift h hl)
end

theorem GOk.shift {cfg:Cfg} {x x':Cx} (h:Shift x x') (hg:GOk cfg x):GOk cfg x':=fun g cs hc =>
 let ⟨vs,h1,h2⟩:=hg g cs hc
 ⟨vs,⟨by rw [h.w]; exact h1.1,fun k=>h1.2.1 (h.no _ k),by rw [h.w]; exact h1.2.2⟩,h2.shift h⟩

theorem tU.shift {x x':Cx} (h:Shift x x') {b base:Nat} {o:O} (ho:tU x b base o):tU x' b base o:=by
 cases o with
 | cells cs frz ty ex =>
  obtain ⟨C,lo,hi,vs,h1,h2,h3⟩:=ho
  exact ⟨C,lo,hi,vs,by rw [h.w]; exact h1,h2.shift h,h3⟩
 | map es clock =>
  obtain ⟨E,h1,h2,h3⟩:=ho
  exact ⟨E,by rw [h.w]; exact h1,h2,fun j e hj=>let ⟨m,a,b,c,d⟩:=h3 j e hj; ⟨m,a,b.shift h,c.shift h,d⟩⟩
 | iter m since seen last =>
  cases m with
  | none=>exact ⟨ho.1,by rw [h.w]; exact ho.2⟩
  | some id=>exact ⟨ho.1,by rw [h.K]; exact ho.2.1,by rw [h.w,h.ρ]; exact ho.2.2⟩
 | siter s pos=>exact ⟨ho.1,by rw [h.w]; exact ho.2⟩
 | dblk up=>exact ⟨ho.1,by rw [h.w]; exact ho.2⟩
 | loop st pd tm ps asg bd =>
  obtain ⟨h0,r,h1,h2,h3,h4,h5,h6,h7⟩:=ho
  exact ⟨h0,r,by rw [h.w]; exact h1,h2,h3,h4,h5,h6,h7.shift h⟩

theorem DRep.shift {x x':Cx} (h:Shift x x') {d:DF} {d':Deferred} (hd:DRep x d d'):DRep x' d d':=by
 cases d with
 | fn f c a =>
  obtain ⟨cap,args,h1,h2,h3,h4⟩:=hd
  exact ⟨cap,args,h1,h2,h3.shift h,h4.shift h⟩
 | mark id=>exact ⟨by rw [h.K]; exact hd.1,by rw [h.ρ]; exact hd.2⟩

theorem DRepL.shift {x x':Cx} (h:Shift x x') {l:List DF} {m:List Deferred}:DRepL x l m→DRepL x' l m
 | .nil=>.nil
 | .cons hd hl=>.cons (hd.shift h) (hl.shift h)

theorem FRep.shift {x x':Cx} (h:Shift x x') {fr:Fr} {a:Act} (hf:FRep x fr a):FRep x' fr a:=⟨hf.tmps.shift h,hf.dfs.shift h⟩

/-- The context without one object, whose block nothing may turn. -/
def Cx.hide (x:Cx) (id:Nat) (s1:S):Cx:=⟨x.w,x.ρ,x.K,s1,fun b=>x.B b∨b=(x.ρ id).1⟩

section
variable {x:Cx} {id:Nat} {ob:O} {s1:S}

theorem ul (hs:x.s=s1.add id ob) (hn:s1.get id=none) (b:Nat):x.own b↔(x.hide id s1).own b∨b=(x.ρ id).1:=by
 constructor
 ·rintro ⟨i,o,hi,rfl⟩
  rw [hs,S.get_add] at hi
  split at hi
  ·rename_i e; subst e; exact .inr rfl
  ·exact .inl ⟨i,o,hi,rfl⟩
 ·rintro (⟨i,o,hi,rfl⟩ | rfl)
  ·have hne:i≠id:=by rintro rfl; rw [show s1.get i=some o from hi] at hn; cases hn
   exact ⟨i,o,by rw [hs,S.get_add,if_neg hne]; exact hi,rfl⟩
  ·exact ⟨id,ob,by rw [hs,S.get_add,if_pos rfl],rfl⟩

theorem hide_not (hx:Rel x) (hs:x.s=s1.add id ob) (hn:s1.get id=none):¬(x.hide id s1).own (x.ρ id).1:=by
 rintro ⟨i,o,hi,he⟩
 have hne:i≠id:=by rintro rfl; rw [show s1.get i=some o from hi] at hn; cases hn
 exact hne (hx.inj i id o ob (by rw [hs,S.get_add,if_neg hne]; exact hi) (by rw [hs,S.get_add,if_pos rfl]) he)

theorem hide_shift (hs:x.s=s1.add id ob) (hn:s1.get id=none):Shift x (x.hide id s1):=by
 refine ⟨rfl,rfl,rfl,?_⟩
 rintro b ((h | h) | h)
 ·exact .inl h
 ·exact .inr ((ul hs hn b).2 (.inr h))
 ·exact .inr ((ul hs hn b).2 (.inl h))

theorem hide_rel (hx:Rel x) (hs:x.s=s1.add id ob) (hn:s1.get id=none) (hlt:id<s1.next):Rel (x.hide id s1) where
 lt:=fun i hi=>by
  have h1:=hx.lt i hi
  rw [hs,S.next_add] at h1
  show i<s1.next
  omega
 live:=fun i o hi=>by
  have hne:i≠id:=by rintro rfl; rw [show s1.get i=some o from hi] at hn; cases hn
  obtain ⟨h1,h2⟩:=hx.live i o (by rw [hs,S.get_add,if_neg hne]; exact hi)
  exact ⟨h1,h2.shift (hide_shift hs hn)⟩
 inj:=fun i j o p hi hj he=>by
  have hne:i≠id:=by rintro rfl; rw [show s1.get i=some o from hi] at hn; cases hn
  have hne':j≠id:=by rintro rfl; rw [show s1.get j=some p from hj] at hn; cases hn
  exact hx.inj i j o p (by rw [hs,S.get_add,if_neg hne]; exact hi) (by rw [hs,S.get_add,if_neg hne']; exact hj) he
 room:=fun b hb=>by
  rcases hb with hb | rfl
  ·exact hx.room b hb
  ·exact hx.own_lt ((ul hs hn _).2 (.inr rfl))
 apart:=fun i o hi hb=>by
  rcases hb with hb | hb
  ·have hne:i≠id:=by rintro rfl; rw [show s1.get i=some o from hi] at hn; cases hn
   exact hx.apart i o (by rw [hs,S.get_add,if_neg hne]; exact hi) hb
  ·exact hide_not hx hs hn ⟨i,o,hi,hb⟩

/-- It is shown again. -/
def Cx.unhide (y:Cx) (x:Cx) (id:Nat) (ob:O):Cx:=⟨y.w,y.ρ,y.K,y.s.add id ob,x.B⟩

theorem unhide_ok (hx:Rel x) (hs:x.s=s1.add id ob) (hn:s1.get id=none) (hlt:id<s1.next) {nw:Nat} {s2:S} {y:Cx} (h:Went (x.hide id s1) nw s2 y) (hlt2:id<s2.next) :
  Went x nw (s2.add id ob) (y.unhide x id ob)∧Shift y (y.unhide x id ob)∧s2.get id=none:=by
 have hid:x.s.get id=some ob:=by rw [hs,S.get_add,if_pos rfl]
 have hK:x.K id:=(hx.live id ob hid).1
 have hb:(x.ρ id).1<x.w.heap.size:=hx.own_lt ⟨id,ob,hid,rfl⟩
 have hρ:y.ρ id=x.ρ id:=(h.le.K id hK).2
 have hnot:¬y.own (x.ρ id).1:=fun ho=>hide_not hx hs hn (h.le.own _ hb ho)
 have hnone:s2.get id=none:=by
  cases hg:s2.get id with
  | none=>rfl
  | some o=>exact absurd ⟨id,o,by rw [h.s]; exact hg,by rw [hρ]⟩ hnot
 have hyn:y.s.get id=none:=by rw [h.s]; exact hnone
 have hown:∀b,(y.unhide x id ob).own b↔y.own b∨b=(x.ρ id).1:=by
  intro b
  constructor
  ·rintro ⟨i,o,hi,rfl⟩
   rw [show (y.unhide x id ob).s=y.s.add id ob from rfl,S.get_add] at hi
   split at hi
   ·rename_i e; subst e; right; show (y.ρ i).1=_; rw [hρ]
   ·exact .inl ⟨i,o,hi,rfl⟩
  ·rintro (⟨i,o,hi,rfl⟩ | rfl)
   ·have hne:i≠id:=by rintro rfl; rw [hyn] at hi; cases hi
    exact ⟨i,o,by rw [show (y.unhide x id ob).s=y.s.add id ob from rfl,S.get_add,if_neg hne]; exact hi,rfl⟩
   ·exact ⟨id,ob,by rw [show (y.unhide x id ob).s=y.s.add id ob from rfl,S.get_add,if_pos rfl],by show (y.ρ id).1=_; rw [hρ]⟩
 have hkeep:y.w.heap[(x.ρ id).1]?=x.w.heap[(x.ρ id).1]?:=h.le.keep _ hb (hide_not hx hs hn)
 have hle:x.le (y.unhide x id ob):={
  B:=rfl
  K:=h.le.K
  size:=h.le.size
  keep:=fun b hlt hn'=>h.le.keep b hlt fun ho=>hn' ((ul hs hn b).2 (.inl ho))
  csz:=h.le.csz
  own:=fun b hlt ho=>by
   rcases (hown b).1 ho with ho | rfl
   ·exact (ul hs hn b).2 (.inl (h.le.own b hlt ho))
   ·exact (ul hs hn _).2 (.inr rfl)
  os:=h.le.os
  tape:=h.le.tape
  output:=h.le.output }
 have hB:∀b,y.B b↔x.B b∨b=(x.ρ id).1:=fun b=>by rw [h.le.B]; exact Iff.rfl
 have hshift:Shift y (y.unhide x id ob):=by
  refine ⟨rfl,rfl,rfl,?_⟩
  rintro b (hb | ho)
  ·exact .inl ((hB b).2 (.inl hb))
  ·rcases (hown b).1 ho with ho | rfl
   ·exact .inr ho
   ·exact .inl ((hB _).2 (.inr rfl))
 have hxown:∀i o,y.s.get i=some o→i≠id:=by rintro i o hi rfl; rw [hyn] at hi; cases hi
 refine ⟨⟨hle,?_,by show y.s.add id ob=_; rw [h.s],fun i hi=>?_⟩,hshift,hnone⟩
 ·refine ⟨fun i hi=>?_,fun i o hi=>?_,fun i j o p hi hj he=>?_,fun b hb=>Nat.lt_of_lt_of_le (hx.room b hb) hle.size,fun i o hi hb=>?_⟩
  ·have:=h.rel.lt i hi
   show i<max y.s.next (id+1)
   omega
  ·rw [show (y.unhide x id ob).s=y.s.add id ob from rfl,S.get_add] at hi
   split at hi
   ·rename_i e; subst e
    injection hi with hi; subst hi
    refine ⟨(h.le.K i hK).1,?_⟩
    have h1:=(hx.live i ob hid).2
    have h2:=tU.mono hle (b:=(x.ρ i).1) hkeep h1
    show tU (y.unhide x i ob) (y.ρ i).1 (y.ρ i).2 ob
    rw [hρ]; exact h2
   ·obtain ⟨h1,h2⟩:=h.rel.live i o hi
    exact ⟨h1,h2.shift hshift⟩
  ·rw [show (y.unhide x id ob).s=y.s.add id ob from rfl,S.get_add] at hi hj
   have he':(y.ρ i).1=(y.ρ j).1:=he
   by_cases e1:i=id
   ·by_cases e2:j=id
    ·rw [e1,e2]
    ·rw [if_neg e2] at hj
     subst e1
     exact absurd ⟨j,p,hj,by rw [← he',hρ]⟩ hnot
   ·rw [if_neg e1] at hi
    by_cases e2:j=id
    ·subst e2
     exact absurd ⟨i,o,hi,by rw [he',hρ]⟩ hnot
    ·rw [if_neg e2] at hj
     exact h.rel.inj i j o p hi hj he'
  ·rw [show (y.unhide x id ob).s=y.s.add id ob from rfl,S.get_add] at hi
   split at hi
   ·rename_i e; subst e
    have hb':x.B (x.ρ i).1:=by
     have:x.B (y.ρ i).1:=hb
     rwa [hρ] at this
    exact hx.apart i ob hid hb'
   ·exact h.rel.apart i o hi ((hB _).2 (.inl hb))
 ·rcases h.grow i hi with h' | h' | h'
  ·exact .inl h'
  ·exact .inr (.inl h')
  ·refine .inr (.inr ?_)
   rw [hs,S.next_add]
   have:s1.next≤i:=h'
   omega

/-- All that was made and is not met yet, hidden and shown again. -/
theorem frameF {p:Nat→Bool} {base n:Nat}:∀(rs:List Rec) (i:Nat) (s1:S) (x:Cx),Rel x→x.s=yW p base rs i s1→base+i+rs.length≤n→n≤s1.next →
  (∀(k:Nat) (r:Rec),rs[k]?=some r→r.ob≠none→p (i+k)=true→s1.get (base+(i+k))=none) →
  ∃x1,Rel x1∧x1.s=s1∧Shift x x1∧∀nw s2 y1,Went x1 nw s2 y1→n≤s2.next →
   ∃y,Went x nw (yW p base rs i s2) y∧Shift y1 y∧(∀(k:Nat) (r:Rec),rs[k]?=some r→r.ob≠none→p (i+k)=true→s2.get (base+(i+k))=none)
 | [],i,s1,x,hx,hs,hn,hn1,hf=>⟨x,hx,hs,.refl x,fun nw s2 y1 h _=>⟨y1,h,.refl y1,fun k r hr=>by simp at hr⟩⟩
 | r::rs,i,s1,x,hx,hs,hn,hn1,hf=>by
  simp only [yW,List.length_cons] at hs hn
  have hf':∀(k:Nat) (r':Rec),rs[k]?=some r'→r'.ob≠none→p (i+1+k)=true→s1.get (base+(i+1+k))=none:=fun k r' hr hob hp=>by
   have:=hf (k+1) r' (by simpa using hr) hob (by rw [show i+(k+1)=i+1+k by omega]; exact hp)
   rwa [show i+(k+1)=i+1+k by omega] at this
  have plain:putO (p i) (base+i) r.ob=id→(r.ob≠none→p i=true→False)→∃x1,Rel x1∧x1.s=s1∧Shift x x1∧∀nw s2 y1,Went x1 nw s2 y1→n≤s2.next →
   ∃y,Went x nw (yW p base (r::rs) i s2) y∧Shift y1 y∧(∀(k:Nat) (r':Rec),(r::rs)[k]?=some r'→r'.ob≠none→p (i+k)=true→s2.get (base+(i+k))=none):=fun e hno=>by
   rw [e] at hs
   obtain ⟨x1,h1,h2,h3,h4⟩:=frameF (n:=n) rs (i+1) s1 x hx hs (by omega) hn1 hf'
   refine ⟨x1,h1,h2,h3,fun nw s2 y1 hw hn2=>?_⟩
   obtain ⟨y,h5,h6,h7⟩:=h4 nw s2 y1 hw hn2
   refine ⟨y,by simp only [yW]; rw [e]; exact h5,h6,fun k r' hr hob hp=>?_⟩
   cases k with
   | zero =>
    simp at hr; subst hr
    exact (hno hob hp).elim
   | succ k =>
    have:=h7 k r' (by simpa using hr) hob (by rw [show i+1+k=i+(k+1) by omega]; exact hp)
    rwa [show i+1+k=i+(k+1) by omega] at this
  cases ho:r.ob with
  | none=>exact plain (by rw [ho]; rfl) (fun h=>absurd ho h)
  | some ob =>
   cases hp:p i with
   | false=>exact plain (by rw [ho,hp]; rfl) (fun _ h=>by rw [hp] at h; cases h)
   | true =>
    rw [ho,hp] at hs
    have hnone:s1.get (base+i)=none:=hf 0 r (by simp) (by simp [ho]) (by simpa using hp)
    obtain ⟨x',h1,h2,h3,h4⟩:=frameF (n:=n) rs (i+1) (s1.add (base+i) ob) x hx hs (by omega) (by rw [S.next_add]; omega) fun k r' hr hob hp'=>by
     rw [S.get_add,if_neg (by omega)]
     exact hf' k r' hr hob hp'
    refine ⟨x'.hide (base+i) s1,hide_rel h1 h2 hnone (by omega),rfl,h3.trans (hide_shift h2 hnone),fun nw s2 y1 hw hn2=>?_⟩
    obtain ⟨g1,g2,g3⟩:=unhide_ok h1 h2 hnone (by omega) hw (by omega)
    obtain ⟨y,h5,h6,h7⟩:=h4 nw _ _ g1 (by rw [S.next_add]; omega)
    refine ⟨y,by simp only [yW,ho,hp]; exact h5,g2.trans h6,fun k r' hr hob hp'=>?_⟩
    cases k with
    | zero=>simpa using g3
    | succ k =>
     have:=h7 k r' (by simpa using hr) hob (by rw [show i+1+k=i+(k+1) by omega]; exact hp')
     rw [S.get_add,if_neg (by omega)] at this
     rwa [show i+1+k=i+(k+1) by omega] at this
end

theorem putO_add {p q:Bool} {id id':Nat} {ob ob':Option O} (s:S) (h:p=true→q=true→ob≠none→ob'≠none→id≠id'):putO p id ob (putO q id' ob' s)=putO q id' ob' (putO p id ob s):=by
 cases ob with
 | none=>rfl
 | some o =>
  cases ob' with
  | none=>rfl
  | some o' =>
   cases p with
   | false=>rfl
   | true =>
    cases q with
    | false=>rfl
    | true=>exact S.add_comm s id' id o' o (Ne.symm (h rfl rfl (by simp) (by simp)))

theorem addF_put {p:Nat→Bool} {q:Bool} {base id:Nat} {ob:Option O}:∀(rs:List Rec) (i:Nat) (s:S),(∀k,k<rs.length→id≠base+(i+k))→yW p base rs i (putO q id ob s)=putO q id ob (yW p base rs i s)
 | [],i,s,h=>rfl
 | r::rs,i,s,h=>by
  simp only [yW]
  have h0:id≠base+i:=h 0 (by simp)
  rw [putO_add s fun _ _ _ _=>Ne.symm h0]
  exact addF_put rs (i+1) _ fun k hk=>by
   have:=h (k+1) (by simp; omega)
   rwa [show i+(k+1)=i+1+k by omega] at this

theorem addF_split {p c:Nat→Bool} {base:Nat}:∀(rs:List Rec) (i:Nat) (s:S),yW p base rs i s=yW (fun k=>p k && !c k) base rs i (yW (fun k=>p k && c k) base rs i s)
 | [],i,s=>rfl
 | r::rs,i,s=>by
  simp only [yW]
  rw [addF_split (p:=p) (c:=c) rs (i+1)]
  cases hc:c i with
  | true=>simp only [Bool.and_true,Bool.not_true,Bool.and_false,ue]
  | false =>
   simp only [Bool.and_true,Bool.not_false,Bool.and_false,ue]
   rw [addF_put rs (i+1) s fun k _=>by omega]

theorem addF_get {p:Nat→Bool} {base id:Nat}:∀(rs:List Rec) (i:Nat) (s:S),(∀k,k<rs.length→p (i+k)=true→id≠base+(i+k))→(yW p base rs i s).get id=s.get id
 | [],i,s,h=>rfl
 | r::rs,i,s,h=>by
  simp only [yW]
  rw [addF_get rs (i+1) _ fun k hk hp=>by
   have:=h (k+1) (by simp; omega) (by rw [show i+(k+1)=i+1+k by omega]; exact hp)
   rwa [show i+(k+1)=i+1+k by omega] at this]
  cases r.ob with
  | none=>rfl
  | some ob =>
   cases hp:p i with
   | false=>rfl
   | true =>
    have h0:id≠base+i:=h 0 (by simp) (by simpa using hp)
    show (s.add (base+i) ob).get id=_
    rw [S.get_add,if_neg h0]

theorem effs_take:∀(rs:List Rec) (i t:Nat),zE (rs.take t) i=(zE rs i).filter fun e=>decide (e<i+t)
 | [],i,t=>by simp [zE]
 | r::rs,i,0=>by
  symm
  simp only [List.take_zero,zE]
  rw [List.filter_eq_nil_iff]
  intro e he
  have:e∈zE (r::rs) i:=he
  obtain ⟨t,_,h1,_⟩:=(wu _ i e).1 this
  simp; omega
 | r::rs,i,t+1=>by
  simp only [List.take_succ_cons,zE]
  rw [effs_take rs (i+1) t,show i+1+t=i+(t+1) by omega]
  split
  ·rw [List.filter_cons_of_pos (by simp)]
  ·rfl

theorem tg (b effs:List Nat) (L:Nat→Bool) (k:Nat):absB b (effs.filter L) k=effs.any fun e=>L e && xp b k e:=by
 unfold absB
 rw [List.any_filter]

theorem absB_ins {b effs:List Nat} {L:Nat→Bool} {j k:Nat} (hj:j∈effs):absB b (effs.filter (ins L j)) k=(absB b (effs.filter L) k || xp b k j):=by
 rw [tg,tg]
 cases h:xp b k j with
 | true =>
  rw [Bool.or_true,List.any_eq_true]
  exact ⟨j,hj,by simp [ins,h]⟩
 | false =>
  rw [Bool.or_false,Bool.eq_iff_iff,List.any_eq_true,List.any_eq_true]
  constructor
  ·rintro ⟨e,he,h1⟩
   simp only [ins,Bool.and_eq_true,Bool.or_eq_true,beq_iff_eq] at h1
   rcases h1.1 with rfl | h2
   ·rw [h] at h1; cases h1.2
   ·exact ⟨e,he,by simp [h2,h1.2]⟩
  ·rintro ⟨e,he,h1⟩
   simp only [Bool.and_eq_true] at h1
   exact ⟨e,he,by simp [ins,h1.1,h1.2]⟩
end Go.Proofs.YtchlfjhbijmdiaaGreatDoor.Ai

