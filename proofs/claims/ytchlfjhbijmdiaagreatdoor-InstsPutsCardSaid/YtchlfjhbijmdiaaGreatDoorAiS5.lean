/- Part of a reckoning of a Go program over abstract values, proved sound against the model. -/
import Derived.Test.YtchlfjhbijmdiaaGreatDoorAiS4
set_option linter.unusedSimpArgs false
set_option linter.unusedVariables false
namespace Go.Proofs.YtchlfjhbijmdiaaGreatDoor.Ai
set_option maxRecDepth 100000
section
variable {cfg:Cfg} {cf:CF} {sl:Bool} {ops:Array Oper} {j:Nat}

/-- Below a number the stores are alike. -/
def S.lows (base:Nat) (f f':S):Prop:=∀j,j<base→f'.get j=f.get j
/-- From this change on nothing is read, and what was read stands in front of all changes. -/
def zV (cfg:Cfg) (ops:Array Oper) (j:Nat):Bool :=
 let b:=bef ops
 let l:=ops.toList.zipIdx
 l.all fun (oi,i)=>zC cfg oi != 1 || (decide (i<j) && l.all fun (ok,k)=>decide (k<j) || zC cfg ok != 3 || xp b i k)

/-- A region that draws its order, as a condition, in the order of the text: what is read is read at the start. -/
def WpD (cfg:Cfg) (cf:CF) (sl:Bool) (ops:Array Oper) (base:Nat) (c0:S):List Oper→Nat→List V→S→(List V→S→Prop)→Prop
 | [],_,tm,f,Q=>Q tm f
 | o::l,i,tm,f,Q =>
  if yk ops o tm then match zC cfg o with
   | 3=>match yS cfg cf sl (base+i) o tm f with
    | some (.val v f')=>f.next≤f'.next∧(zV cfg ops i=true∨S.lows base f f')∧WpD cfg cf sl ops base c0 l (i+1) (putT o.dst tm v) f' Q
    | _=>False
   | 2=>match yS cfg cf sl (base+i) o tm f with
    | some (.val v f')=>WpD cfg cf sl ops base c0 l (i+1) (putT o.dst tm v) f' Q
    | _=>False
   | 1=>match yS cfg cf sl 0 o tm c0 with
    | some (.val v _)=>WpD cfg cf sl ops base c0 l (i+1) (putT o.dst tm v) f Q
    | _=>False
   | _=>match yS cfg cf sl 0 o tm S.empty with
    | some (.val v _)=>WpD cfg cf sl ops base c0 l (i+1) (putT o.dst tm v) f Q
    | _=>False
  else WpD cfg cf sl ops base c0 l (i+1) (putT o.dst tm yc) f Q

theorem tail_at (h:zV cfg ops j=true) {i:Nat} {o:Oper} (hi:ops[i]?=some o) (hk:zC cfg o=1):i<j∧∀k o',ops[k]?=some o'→j≤k→zC cfg o'=3→xp (bef ops) i k=true:=by
 unfold zV at h
 rw [List.all_eq_true] at h
 have h1:=h (o,i) (by rw [List.mem_zipIdx_iff_getElem?,Array.getElem?_toList]; exact hi)
 simp only [hk,bne_self_eq_false,Bool.false_or,Bool.and_eq_true,decide_eq_true_eq] at h1
 refine ⟨h1.1,fun k o' hk' hj h3=>?_⟩
 have h2:=List.all_eq_true.1 h1.2 (o',k) (by rw [List.mem_zipIdx_iff_getElem?,Array.getElem?_toList]; exact hk')
 simp only [Bool.or_eq_true,decide_eq_true_eq,h3,bne_self_eq_false] at h2
 rcases h2 with (h2 | h2) | h2
 ·omega
 ·cases h2
 ·exact h2

theorem xO:∀(l:List Rec) (r:Rec) (i:Nat),zE (l++[r]) i=zE l i++(if r.k=3 then [i+l.length] else [])
 | [],r,i=>by simp [zE]
 | x::l,r,i=>by
  simp only [List.cons_append,zE,xO l r (i+1),List.length_cons]
  split <;> simp [Nat.add_assoc,Nat.add_comm 1]

theorem xj:∀(l:List Rec) (r:Rec),zU (l++[r])=zU l++(if r.k=3 then [r.c'] else [])
 | [],r=>by simp [zU]
 | x::l,r=>by
  simp only [List.cons_append,zU,xj l r]
  split <;> simp

theorem wO:∀(l:List Rec) (i:Nat),(zU l).length=(zE l i).length
 | [],_=>rfl
 | x::l,i=>by
  simp only [zU,zE]
  split <;> simp [wO l (i+1)]

theorem vq (p:Nat→Bool) (base:Nat):∀(l:List Rec) (r:Rec) (i:Nat) (s:S),yW p base (l++[r]) i s=putO (p (i+l.length)) (base+(i+l.length)) r.ob (yW p base l i s)
 | [],r,i,s=>by simp [yW]
 | x::l,r,i,s=>by
  simp only [List.cons_append,yW,vq p base l r (i+1),List.length_cons]
  have:i+1+l.length=i+(l.length+1):=by omega
  rw [this]

theorem addF_cong {p q:Nat→Bool} (base:Nat):∀(l:List Rec) (i:Nat) (s:S),(∀j r,l[j]?=some r→r.ob≠none→p (i+j)=q (i+j))→yW p base l i s=yW q base l i s
 | [],_,_,_=>rfl
 | r::l,i,s,h=>by
  simp only [yW]
  have h0:putO (p i) (base+i) r.ob s=putO (q i) (base+i) r.ob s:=by
   cases ho:r.ob with
   | none=>rfl
   | some ob=>rw [show p i=q i from h 0 r rfl (by rw [ho]; simp)]
  rw [h0]
  exact addF_cong base l (i+1) _ fun j r' hj hr=>by
   have:=h (j+1) r' (by simpa using hj) hr
   rwa [show i+(j+1)=i+1+j by omega] at this

theorem addF_nil {p:Nat→Bool} (base:Nat):∀(l:List Rec) (i:Nat) (s:S),(∀j r,l[j]?=some r→r.ob≠none→p (i+j)=false)→yW p base l i s=s
 | [],_,_,_=>rfl
 | r::l,i,s,h=>by
  simp only [yW]
  have h0:putO (p i) (base+i) r.ob s=s:=by
   cases ho:r.ob with
   | none=>rfl
   | some ob=>rw [show p i=false from h 0 r rfl (by rw [ho]; simp)]; rfl
  rw [h0]
  exact addF_nil base l (i+1) s fun j r' hj hr=>by
   have:=h (j+1) r' (by simpa using hj) hr
   rwa [show i+(j+1)=i+1+j by omega] at this

theorem addF_low (p:Nat→Bool) (base:Nat):∀(l:List Rec) (i:Nat) (s:S),(∀j,j<base→(yW p base l i s).get j=s.get j)∧s.next≤(yW p base l i s).next
 | [],_,_=>⟨fun _ _=>rfl,Nat.le_refl _⟩
 | r::l,i,s=>by
  simp only [yW]
  obtain ⟨h1,h2⟩:=addF_low p base l (i+1) (putO (p i) (base+i) r.ob s)
  have h3:(∀j,j<base→(putO (p i) (base+i) r.ob s).get j=s.get j)∧s.next≤(putO (p i) (base+i) r.ob s).next:=by
   cases r.ob with
   | none=>exact ⟨fun _ _=>rfl,Nat.le_refl _⟩
   | some ob =>
    cases p i with
    | false=>exact ⟨fun _ _=>rfl,Nat.le_refl _⟩
    | true=>exact ⟨fun j hj=>by show (s.add (base+i) ob).get j=_; rw [S.get_add,if_neg (by omega)],by show s.next≤(s.add (base+i) ob).next; simp only [S.next_add]; omega⟩
  exact ⟨fun j hj=>(h1 j hj).trans (h3.1 j hj),Nat.le_trans h3.2 h2⟩

structure DInv (cfg:Cfg) (cf:CF) (sl:Bool) (ops:Array Oper) (base:Nat) (c0:S) (i:Nat) (acc:List Rec) (c f:S) (cl:Bool):Prop where
 len:acc.length=i
 full:f=yW (fun k=>!absB (bef ops) (zE acc 0) k) base acc 0 c
 low:cl=true→∀j,j<base→c.get j=c0.get j
 nx:base+ops.size≤c.next
 recs:∀(j:Nat) (r:Rec) (o:Oper),acc[j]?=some r→ops[j]?=some o→(r.k=1→zC cfg o=1∧∃rd:S→Option V,(∀nw s,yS cfg cf sl nw o r.tm s=(rd s).map (R.val · s))∧(∀s s' v,s.ext s'→rd s=some v→rd s'=some v)∧rd c0=some r.v)
 news:∀(j:Nat) (r:Rec),acc[j]?=some r→r.ob≠none→∃o,ops[j]?=some o∧zC cfg o=2
 starts:∃k,k≤(zE acc 0).length∧(cl=true→k=(zE acc 0).length)∧(∀m st,m<k→(zU acc)[m]?=some st→∀j,j<base→st.get j=c0.get j)∧∀e∈(zE acc 0).drop k,∀i o,ops[i]?=some o→zC cfg o=1→xp (bef ops) i e=true
 dirty:cl=false→∀i' o,i≤i'→ops[i']?=some o→zC cfg o≠1∧(zC cfg o=3→∀i0 o0,ops[i0]?=some o0→zC cfg o0=1→xp (bef ops) i0 i'=true)
 effs:∀e∈zE acc 0,e<i∧∃o,ops[e]?=some o∧zC cfg o=3

theorem tp (h:zD cfg ops=true) {i:Nat} {o:Oper} (hi:ops[i]?=some o):wg cfg o=true∧∀j o',ops[j]?=some o'→i<j→xp (bef ops) j i=false∧(zC cfg o=2→zC cfg o'=3→xp (bef ops) i j=true):=by
 unfold zD at h
 rw [List.all_eq_true] at h
 have hm:(o,i)∈ops.toList.zipIdx:=by rw [List.mem_zipIdx_iff_getElem?,Array.getElem?_toList]; exact hi
 have h1:=h _ hm
 simp only [Bool.and_eq_true] at h1
 refine ⟨h1.1,fun j o' hj hij=>?_⟩
 have hm':(o',j)∈ops.toList.zipIdx:=by rw [List.mem_zipIdx_iff_getElem?,Array.getElem?_toList]; exact hj
 have h2:=List.all_eq_true.1 h1.2 _ hm'
 simp only [Bool.or_eq_true,decide_eq_true_eq,Bool.and_eq_true,Bool.not_eq_true',bne_iff_ne] at h2
 rcases h2 with h2 | ⟨h2,h3⟩
 ·omega
 ·refine ⟨h2,fun k2 k3=>?_⟩
  rcases h3 with (h3 | h3) | h3
  ·exact absurd k2 h3
  ·exact absurd k3 h3
  ·exact h3

theorem absB_append (b:List Nat) (l:List Nat) (e i:Nat):absB b (l++[e]) i=(absB b l i || xp b i e):=by simp [absB]

theorem S.ext_empty (s:S):S.empty.ext s:=fun i o h=>by rw [S.get_empty] at h; cases h

theorem yR (hs:zD cfg ops=true) {base:Nat} {c0:S} (hc:∀i o,c0.get i=some o→i<base) {Q:List V→S→Prop} :
  ∀(l:List Oper) (i:Nat) (acc:List Rec) (tm:List V) (c f:S) (cl:Bool),ops.toList.drop i=l→i≤ops.size→DInv cfg cf sl ops base c0 i acc c f cl→WpD cfg cf sl ops base c0 l i tm f Q →
   ∃rs tm' c' f' cl',xw cfg cf sl ops (bef ops) base l i acc tm c=some (rs,tm',c')∧DInv cfg cf sl ops base c0 ops.size rs c' f' cl'∧Q tm' f'
 | [],i,acc,tm,c,f,cl,hl,hi,inv,h=>by
  have:i=ops.size:=by
   have h1:=List.drop_eq_nil_iff.1 hl
   rw [Array.length_toList] at h1; omega
  subst this
  exact ⟨acc,tm,c,f,cl,rfl,inv,h⟩
 | o::l,i,acc,tm,c,f,cl,hl,hi,inv,h=>by
  have hoi:ops[i]?=some o:=by
   rw [← Array.getElem?_toList]
   have:=congrArg (fun x:List Oper=>x[0]?) hl
   simpa using this
  have hlt:i<ops.size:=by
   rcases Nat.lt_or_ge i ops.size with h | h
   ·exact h
   ·rw [Array.getElem?_eq_none h] at hoi; cases hoi
  have hl':ops.toList.drop (i+1)=l:=by
   have:=congrArg List.tail hl
   rwa [List.tail_drop,List.tail_cons] at this
  obtain ⟨hso,hord⟩:=tp hs hoi
  have ext0:∀s:S,(∀j,j<base→s.get j=c0.get j)→c0.ext s:=fun s hlow j o hj=>by rw [hlow j (hc j o hj)]; exact hj
  have dirty':cl=false→∀i' o,i+1≤i'→ops[i']?=some o→zC cfg o≠1∧(zC cfg o=3→∀i0 o0,ops[i0]?=some o0→zC cfg o0=1→xp (bef ops) i0 i'=true):=fun h i' o hi' ho=>inv.dirty h i' o (by omega) ho
  -- a step that changes no store
  have plain:∀(r:Rec),r.c'=c→r.ob=none→r.k≠3→(r.k=1→zC cfg o=1∧∃rd:S→Option V,(∀nw s,yS cfg cf sl nw o r.tm s=(rd s).map (R.val · s))∧(∀s s' v,s.ext s'→rd s=some v→rd s'=some v)∧rd c0=some r.v) →
    DInv cfg cf sl ops base c0 (i+1) (acc++[r]) c f cl:=by
   intro r _ hob hk hr
   have he:zE (acc++[r]) 0=zE acc 0:=by rw [xO,if_neg hk,List.append_nil]
   have hst:zU (acc++[r])=zU acc:=by rw [xj,if_neg hk,List.append_nil]
   refine ⟨by simp [inv.len],?_,inv.low,inv.nx,?_,?_,?_,dirty',?_⟩
   ·rw [he,vq,hob]; exact inv.full
   ·intro j r' o' hj ho'
    rw [List.getElem?_append] at hj
    split at hj
    ·exact inv.recs j r' o' hj ho'
    ·rename_i hge
     have:j=i:=by
      rcases Nat.lt_or_ge (j - acc.length) 1 with h | h
      ·rw [inv.len] at h hge; omega
      ·rw [List.getElem?_eq_none (by simpa using h)] at hj; cases hj
     subst this
     rw [hoi] at ho'
     injection ho' with ho'
     subst ho'
     rw [inv.len] at hj
     simp at hj
     subst hj
     exact hr
   ·intro j r' hj hob'
    rw [List.getElem?_append] at hj
    split at hj
    ·exact inv.news j r' hj hob'
    ·have:r'=r:=by
      have:=List.mem_of_getElem? hj
      simpa using this
     subst this
     exact absurd hob hob'
   ·rw [he,hst]; exact inv.starts
   ·rw [he]; intro e hm; obtain ⟨h1,h2⟩:=inv.effs e hm; exact ⟨by omega,h2⟩
  unfold WpD at h
  unfold xw stepD
  by_cases hw:yk ops o tm=true
  ·rw [if_pos hw] at h
   simp only [if_pos hw]
   split at h
   ·-- a change
    rename_i hk
    have hfull:yW (fun k=>!absB (bef ops) (zE acc 0) k && xp (bef ops) k i) base acc 0 c=f:=by
     rw [inv.full]
     refine addF_cong base acc 0 c fun j r hj hob=>?_
     obtain ⟨o',ho',hk'⟩:=inv.news j r hj hob
     have hj':j<i:=by rw [← inv.len]; exact (List.getElem?_eq_some_iff.1 hj).1
     have:=((tp hs ho').2 i o hoi hj').2 hk' hk
     simp [this]
    split at h
    ·rename_i v f' hd
     obtain ⟨hnx,htk,h⟩:=h
     have hfl:=addF_low (fun k=>!absB (bef ops) (zE acc 0) k) base acc 0 c
     rw [← inv.full] at hfl
     have hn:base+ops.size≤f'.next:=Nat.le_trans inv.nx (Nat.le_trans hfl.2 hnx)
     have hb:Nat.ble (base+ops.size) f'.next=true:=by rw [Nat.ble_eq]; exact hn
     simp only [hk,hfull,hd,hb,cond_true]
     have he:zE (acc++[⟨3,v,tm,c,f',none⟩]) 0=zE acc 0++[i]:=by rw [xO,if_pos rfl]; simp [inv.len]
     have hst:zU (acc++[⟨3,v,tm,c,f',none⟩])=zU acc++[f']:=by rw [xj,if_pos rfl]
     obtain ⟨k,hk1,hk2,hk3,hk4⟩:=inv.starts
     have hsl:=wO acc 0
     have go:∀cl',(cl'=true→∀j,j<base→f'.get j=c0.get j) →
       (∃k,k≤(zE (acc++[⟨3,v,tm,c,f',none⟩]) 0).length∧(cl'=true→k=(zE (acc++[⟨3,v,tm,c,f',none⟩]) 0).length)∧(∀m st,m<k→(zU (acc++[⟨3,v,tm,c,f',none⟩]))[m]?=some st→∀j,j<base→st.get j=c0.get j)∧∀e∈(zE (acc++[⟨3,v,tm,c,f',none⟩]) 0).drop k,∀i o,ops[i]?=some o→zC cfg o=1→xp (bef ops) i e=true) →
       (cl'=false→∀i' o,i+1≤i'→ops[i']?=some o→zC cfg o≠1∧(zC cfg o=3→∀i0 o0,ops[i0]?=some o0→zC cfg o0=1→xp (bef ops) i0 i'=true)) →
       ∃rs tm' c' f'' cl'',xw cfg cf sl ops (bef ops) base l (i+1) (acc++[⟨3,v,tm,c,f',none⟩]) (putT o.dst tm v) f'=some (rs,tm',c')∧DInv cfg cf sl ops base c0 ops.size rs c' f'' cl''∧Q tm' f'':=by
      intro cl' hlow hstarts hdirty
      refine yR hs hc l (i+1) _ _ f' f' cl' hl' hlt ?_ h
      refine ⟨by simp [inv.len],?_,hlow,hn,?_,?_,hstarts,hdirty,?_⟩
      ·symm
       rw [he,vq]
       show yW _ base acc 0 f'=f'
       refine addF_nil base acc 0 f' fun j r hj hob=>?_
       obtain ⟨o',ho',hk'⟩:=inv.news j r hj hob
       have hj':j<i:=by rw [← inv.len]; exact (List.getElem?_eq_some_iff.1 hj).1
       have:=((tp hs ho').2 i o hoi hj').2 hk' hk
       simp [absB_append,this]
      ·intro j r' o' hj ho'
       rw [List.getElem?_append] at hj
       split at hj
       ·exact inv.recs j r' o' hj ho'
       ·have:r'=⟨3,v,tm,c,f',none⟩:=by
         have:=List.mem_of_getElem? hj
         simpa using this
        subst this
        intro h; cases h
      ·intro j r' hj hob'
       rw [List.getElem?_append] at hj
       split at hj
       ·exact inv.news j r' hj hob'
       ·have:r'=⟨3,v,tm,c,f',none⟩:=by
         have:=List.mem_of_getElem? hj
         simpa using this
        subst this
        exact absurd rfl hob'
      ·rw [he]
       intro e hm
       rcases List.mem_append.1 hm with hm | hm
       ·obtain ⟨h1,h2⟩:=inv.effs e hm; exact ⟨by omega,h2⟩
       ·simp only [List.mem_singleton] at hm
        subst hm; exact ⟨by omega,o,hoi,hk⟩
     cases cl with
     | true =>
      rcases htk with htk | hkp
      ·-- the first change of what was there
       refine go false (fun h=>by cases h) ?_ ?_
       ·refine ⟨k,by rw [he]; simp; omega,(fun h=>by cases h),fun m st hm hg=>?_,fun e hm=>?_⟩
        ·rw [hst,List.getElem?_append_left (by rw [hsl]; omega)] at hg
         exact hk3 m st hm hg
        ·rw [he,hk2 rfl,List.drop_left] at hm
         simp only [List.mem_singleton] at hm
         subst hm
         exact fun i0 o0 h0 h1=>(tail_at htk h0 h1).2 e o hoi (Nat.le_refl _) hk
       ·intro _ i' o' hi' ho'
        refine ⟨fun h1=>?_,fun h3 i0 o0 h0 h1=>(tail_at htk h0 h1).2 i' o' ho' (by omega) h3⟩
        have:=(tail_at htk ho' h1).1
        omega
      ·have hlow:∀j,j<base→f'.get j=c0.get j:=fun j hj=>by
        rw [hkp j hj,hfl.1 j hj,inv.low rfl j hj]
       refine go true (fun _=>hlow) ?_ (fun h=>by cases h)
       refine ⟨k+1,by rw [he]; simp; omega,fun _=>by rw [he,hk2 rfl]; simp,fun m st hm hg=>?_,fun e hm=>?_⟩
       ·rw [hst] at hg
        rcases Nat.lt_or_ge m k with hmk | hmk
        ·rw [List.getElem?_append_left (by rw [hsl]; omega)] at hg
         exact hk3 m st hmk hg
        ·have:m=(zU acc).length:=by rw [hsl,← hk2 rfl]; omega
         subst this
         rw [List.getElem?_append_right (Nat.le_refl _)] at hg
         simp at hg; subst hg
         exact hlow
       ·rw [he,hk2 rfl,List.drop_of_length_le (by simp)] at hm
        cases hm
     | false =>
      refine go false (fun h=>by cases h) ?_ dirty'
      refine ⟨k,by rw [he]; simp; omega,(fun h=>by cases h),fun m st hm hg=>?_,fun e hm=>?_⟩
      ·rw [hst,List.getElem?_append_left (by rw [hsl]; omega)] at hg
       exact hk3 m st hm hg
      ·rw [he,List.drop_append_of_le_length hk1] at hm
       rcases List.mem_append.1 hm with hm | hm
       ·exact hk4 e hm
       ·simp only [List.mem_singleton] at hm
        subst hm
        exact (inv.dirty rfl e o (Nat.le_refl _) hoi).2 hk
    ·exact h.elim
   ·-- something new
    rename_i hk
    obtain ⟨r,hr⟩:=newR (cf:=cf) (sl:=sl) hso hk (base+i) tm
    rw [hr f] at h
    cases r with
    | none=>exact h.elim
    | some x =>
     obtain ⟨v,ob⟩:=x
     simp only [Option.map_some] at h
     have hg:(c.add (base+i) ob).get (base+i)=some ob:=by rw [S.get_add,if_pos rfl]
     simp only [hk,hr c,Option.map_some,hg]
     refine yR hs hc l (i+1) _ _ c (f.add (base+i) ob) cl hl' hlt ?_ h
     have he:zE (acc++[⟨2,v,tm,c,c,some ob⟩]) 0=zE acc 0:=by rw [xO,if_neg (by simp),List.append_nil]
     have hst:zU (acc++[⟨2,v,tm,c,c,some ob⟩])=zU acc:=by rw [xj,if_neg (by simp),List.append_nil]
     refine ⟨by simp [inv.len],?_,inv.low,inv.nx,?_,?_,?_,dirty',?_⟩
     ·rw [he,vq,← inv.full,inv.len]
      have:absB (bef ops) (zE acc 0) i=false:=by
       unfold absB
       rw [List.any_eq_false]
       intro e hm
       obtain ⟨h1,o',ho',_⟩:=inv.effs e hm
       rw [((tp hs ho').2 i o hoi h1).1]; simp
      simp only [Nat.zero_add,this,Bool.not_false]
      rfl
     ·intro j r' o' hj ho'
      rw [List.getElem?_append] at hj
      split at hj
      ·exact inv.recs j r' o' hj ho'
      ·have:r'=⟨2,v,tm,c,c,some ob⟩:=by
        have:=List.mem_of_getElem? hj
        simpa using this
       subst this
       intro h; cases h
     ·intro j r' hj hob'
      rw [List.getElem?_append] at hj
      split at hj
      ·exact inv.news j r' hj hob'
      ·rename_i hge
       have:j=i:=by
        rcases Nat.lt_or_ge (j - acc.length) 1 with h | h
        ·rw [inv.len] at h hge; omega
        ·rw [List.getElem?_eq_none (by simpa using h)] at hj; cases hj
       subst this
       exact ⟨o,hoi,hk⟩
     ·rw [he,hst]; exact inv.starts
     ·rw [he]; intro e hm; obtain ⟨h1,h2⟩:=inv.effs e hm; exact ⟨by omega,h2⟩
   ·-- it reads
    rename_i hk
    obtain ⟨rd,h1,h2⟩:=readR (cf:=cf) (sl:=sl) hso (.inr hk) tm
    rw [h1] at h
    have hcl:cl=true:=by
     cases cl with
     | true=>rfl
     | false=>exact absurd hk (inv.dirty rfl i o (Nat.le_refl _) hoi).1
    cases hv:rd c0 with
    | none=>rw [hv] at h; exact h.elim
    | some v =>
     rw [hv] at h
     simp only [Option.map_some] at h
     have hvc:rd c=some v:=h2 c0 c v (ext0 c (inv.low hcl)) hv
     simp only [hk,h1,hvc,Option.map_some]
     exact yR hs hc l (i+1) _ _ c f cl hl' hlt (plain ⟨1,v,tm,c,c,none⟩ rfl rfl (by simp) (fun _=>⟨hk,rd,h1,h2,hv⟩)) h
   ·-- it only reckons
    rename_i k hk3 hk2 hk1
    have hk:zC cfg o=0:=by
     have:zC cfg o≤3:=by
      obtain ⟨d,op,ty,p,a,g⟩:=o
      unfold zC
      split <;> (try omega)
      ·split
       ·split <;> (try omega)
        split
        ·split <;> omega
        ·omega
       ·omega
      ·split <;> (try omega)
       split <;> (try omega)
       all_goals
        split
        ·split <;> omega
        ·omega
     have h3:zC cfg o≠3:=hk3
     have h2:zC cfg o≠2:=hk2
     have h1:zC cfg o≠1:=hk1
     omega
    obtain ⟨rd,h1,h2⟩:=readR (cf:=cf) (sl:=sl) hso (.inl hk) tm
    rw [h1] at h
    cases hv:rd S.empty with
    | none=>rw [hv] at h; exact h.elim
    | some v =>
     rw [hv] at h
     simp only [Option.map_some] at h
     have hvc:rd c=some v:=h2 S.empty c v (S.ext_empty c) hv
     simp only [hk,h1,hvc,Option.map_some]
     exact yR hs hc l (i+1) _ _ c f cl hl' hlt (plain ⟨0,v,tm,c,c,none⟩ rfl rfl (by simp) (fun h=>by cases h)) h
  ·rw [if_neg hw] at h
   simp only [if_neg hw]
   exact yR hs hc l (i+1) _ _ c f cl hl' hlt (plain ⟨4,yc,tm,c,c,none⟩ rfl rfl (by simp) (fun h=>by cases h)) h

theorem pendsOk_of {b effs:List Nat} {starts:List S}:∀(l:List Oper) (rs:List Rec) (i:Nat),(∀j o r,l[j]?=some o→rs[j]?=some r→r.k=1→pendOk cfg cf sl b effs starts o (i+j) r=true)→wT cfg cf sl b effs starts l rs i=true
 | [],_,_,_=>by cases ‹List Rec› <;> rfl
 | o::l,[],_,_=>rfl
 | o::l,r::rs,i,h=>by
  unfold wT
  rw [Bool.and_eq_true]
  refine ⟨?_,pendsOk_of l rs (i+1) fun j o' r' hj hr hk=>?_⟩
  ·by_cases hk:r.k=1
   ·have h0:=h 0 o r rfl rfl hk
    rw [Nat.add_zero] at h0
    rw [h0]; simp
   ·simp [hk]
  ·have:=h (j+1) o' r' (by simpa using hj) (by simpa using hr) hk
   rwa [show i+(j+1)=i+1+j by omega] at this

theorem runDraw_sound (hs:zD cfg ops=true) {s:S} (hw:s.wf) {tm:List V} {dfs:List DF} {Q:List V→S→Prop} (h:WpD cfg cf sl ops s.next ⟨s.next+ops.size,s.tr⟩ ops.toList 0 tm ⟨s.next+ops.size,s.tr⟩ Q) :
  ∃tm' s',vG cfg cf sl ops ⟨tm,dfs⟩ s=some (⟨tm',dfs⟩,s')∧Q tm' s':=by
 have hc:∀i o,S.get ⟨s.next+ops.size,s.tr⟩ i=some o→i<s.next:=fun i o h=>S.wf.lt hw (show s.get i=some o from h)
 obtain ⟨rs,tm',c',f',cl,h1,inv,hq⟩:=yR (cf:=cf) (sl:=sl) hs hc ops.toList 0 [] tm _ _ true (by simp) (by omega)
  ⟨rfl,rfl,fun _ _ _=>rfl,Nat.le_refl _,(fun j r o h=>by simp at h),(fun j r h=>by simp at h),⟨0,Nat.zero_le _,fun _=>rfl,(fun m st h=>by omega),(fun e h=>by simp [zE] at h)⟩,(fun h=>by cases h),(fun e h=>by simp [zE] at h)⟩ h
 refine ⟨tm',f',?_,hq⟩
 unfold vG
 simp only [h1]
 have hn:Nat.ble s.next c'.next=true:=by rw [Nat.ble_eq]; have:=inv.nx; omega
 have hp:wT cfg cf sl (bef ops) (zE rs 0) (⟨s.next+ops.size,s.tr⟩::zU rs) ops.toList rs 0=true:=by
  refine pendsOk_of _ _ _ fun j o r hj hr hk=>?_
  rw [Array.getElem?_toList] at hj
  obtain ⟨hk1,rd,h1,h2,h3⟩:=inv.recs j r o hr hj hk
  obtain ⟨k,g1,_,g3,g4⟩:=inv.starts
  unfold pendOk
  simp only [List.all_eq_true,List.mem_range,Bool.or_eq_true,decide_eq_true_eq]
  intro m hm
  right
  have hle:(List.filter (fun e=>!xp (bef ops) (0+j) e) (zE rs 0)).length≤k:=by
   conv=>lhs; rw [← List.take_append_drop k (zE rs 0)]
   rw [List.filter_append,List.length_append]
   have h0:List.filter (fun e=>!xp (bef ops) (0+j) e) ((zE rs 0).drop k)=[]:=List.filter_eq_nil_iff.2 fun e he=>by
    rw [Nat.zero_add,g4 e he j o hj hk1]; simp
   rw [h0]
   have:=List.length_filter_le (fun e=>!xp (bef ops) (0+j) e) ((zE rs 0).take k)
   simp only [List.length_take,List.length_nil] at this ⊢
   omega
  have hlen:m<(⟨s.next+ops.size,s.tr⟩::zU rs).length:=by
   rw [List.length_cons,wO rs 0]; omega
  obtain ⟨st,hst⟩:∃st,(⟨s.next+ops.size,s.tr⟩::zU rs)[m]?=some st:=⟨_,List.getElem?_eq_getElem hlen⟩
  have hlow:∀j,j<s.next→st.get j=s.get j:=by
   cases m with
   | zero=>simp at hst; subst hst; intro _ _; rfl
   | succ m =>
    rw [List.getElem?_cons_succ] at hst
    exact g3 m st (by omega) hst
  have:=h2 _ st r.v (fun k o hk=>by rw [hlow k (hc k o hk)]; exact hk) h3
  simp only [hst,h1,this,Option.map_some,decide_true]
 rw [hn,hp,if_pos (by rfl),← inv.full]

end
end Go.Proofs.YtchlfjhbijmdiaaGreatDoor.Ai

