/- Part of a reckoning of a Go program over abstract values, proved sound against the model. -/
import Derived.Test.YtchlfjhbijmdiaaGreatDoorAiD3
import Derived.ChangeArms
import Derived.DataReads
set_option linter.unusedSimpArgs false
set_option linter.unusedVariables false
namespace Go.Proofs.YtchlfjhbijmdiaaGreatDoor.Ai

/-! what is read of plain data, as values -/
def tight (P:Program):Nat→List Field→Option Nat
 | n,[]=>some n
 | n,f::l=>if f.offset=n then tight P (n+P.cellsOf f.type) l else none

def pair (ag:Bool) (cs:List V):V:=if ag then .agg cs else (cs.head?).getD yc

def aggT (P:Program) (t:TypeId):Bool:=match P.underlying t with
 | some d=>zS d
 | none=>false

section
variable {H:Type}

def xY (ag:Bool) (f:DataW H→Option (List V)):List (DataW H)→Option (List V)
 | []=>some []
 | d::l=>match f d,xY ag f l with
  | some c,some r=>some (pair ag c::r)
  | _,_=>none

def catV:List (DataW H→Option (List V))→List (DataW H)→Option (List V)
 | [],[]=>some []
 | f::fs,d::ds=>match f d,catV fs ds with
  | some c,some r=>some (c++r)
  | _,_=>none
 | _,_=>none

def vcells (P:Program):Nat→TypeId→DataW H→Option (List V)
 | 0,_,_=>none
 | N+1,t,d=>match P.underlying t,d with
  | some .bool,.lit (.bool b)=>some [.bool b]
  | some (.int k'),.lit (.int k n)=>if k'=k then some [.int k n] else none
  | some .string,.lit (.string l)=>some [.str ⟨l.toArray⟩]
  | some (.slice _),.nil=>some [.nils]
  | some (.slice e),.slice es _=>if P.cellsOf e≠0∧(aggT P e=true∨P.cellsOf e=1) then (xY (aggT P e) (vcells P N e) es).map fun l=>[.list l] else none
  | some (.struct fs),.agg ps=>if tight P 0 fs.toList=some (P.cellsOf t) then catV (fs.toList.map fun f=>vcells P N f.type) ps else none
  | some (.array n e),.agg ps=>if P.cellsOf t=n*P.cellsOf e then catV (List.replicate n (vcells P N e)) ps else none
  | _,_=>none

theorem pair_cells {ag:Bool} {c:List V} (h1:∀v∈c,v.one=true) (h2:ag=true∨c.length=1):(pair ag c).cells=c:=by
 cases ag with
 | true=>rfl
 | false =>
  have h2:c.length=1:=h2.resolve_left (by simp)
  match c,h2 with
  | [v],_ =>
   have:=h1 v (by simp)
   simp only [pair,Bool.false_eq_true,if_false,List.head?_cons,Option.getD_some]
   cases v <;> simp_all [V.cells,V.one]

variable {enc:TypeId×Value→H} {P:Program} {w:World} {sp:Nat→Bool} {held':Bool}

theorem held_of (b o:Nat) (vs:List Value) (hb:b<w.heap.size) (h:∀j c,vs[j]?=some c→w.cell? ⟨b,o+j,none⟩=some c):held (start w) b o vs :=
 ⟨hb,fun hn=>hn.elim id (start_own w b),h⟩

theorem cell_lt {a:Addr} {c:Value} (h:w.cell? a=some c):a.block<w.heap.size:=by
 unfold World.cell? at h
 split at h
 ·rename_i hb; exact (Array.getElem?_eq_some_iff.1 hb).1
 ·cases h

theorem cell_spot {a:Addr} {c:Value} (h:w.cell? a=some c):a.spot=none:=by
 unfold World.cell? at h
 split at h
 ·split at h
  ·cases h
  ·rename_i hs; simpa using hs
 ·cases h

/-- What a reading of a slice's elements says, cell by cell. -/
theorem rdElems {e:TypeId} {ag:Bool} {sz n:Nat} {f:DataW H→Option (List V)}
  (hf:∀cs d p vs,DataW.trod enc P w 0 sp held' n e cs=some (d,p)→f d=some vs→RepL (start w) vs cs∧∀v∈vs,v.one=true)
  (hag:ag=true∨sz=1) (b o:Nat):∀(elems:List (DataW H×List MemPlace)) (k:Nat) (l:List V),
  (∀i,i<elems.length→∃cs,cs.length=sz∧(∀r,r<sz→w.cell? ⟨b,o+((k+i)*sz+r),none⟩=cs[r]?)∧DataW.trod enc P w 0 sp held' n e cs=elems[i]?) →
  xY ag f (elems.map (·.1))=some l→∃vs,RepL (start w) (l.flatMap V.cells) vs∧l.length=elems.length∧vs.length=elems.length*sz∧(∀v∈l,v.cells.length=sz)∧∀j c,vs[j]?=some c→w.cell? ⟨b,o+(k*sz+j),none⟩=some c
 | [],k,l,h,hl=>by
  simp only [List.map_nil,xY,Option.some.injEq] at hl
  subst hl
  exact ⟨[],.nil,rfl,by simp,fun v hv=>by simp at hv,fun j c hj=>by simp at hj⟩
 | (d,p)::elems,k,l,h,hl=>by
  simp only [List.map_cons,xY] at hl
  split at hl
  case h_2=>cases hl
  rename_i c r hc hr
  injection hl with hl
  subst hl
  obtain ⟨cs,h1,h2,h3⟩:=h 0 (by simp)
  simp only [List.getElem?_cons_zero] at h3
  obtain ⟨g1,g2⟩:=hf cs d p c h3 hc
  have hlen:=g1.length
  have hcell:=pair_cells (ag:=ag) g2 (by rcases hag with h | h; exact .inl h; right; omega)
  obtain ⟨vs,i1,i2,i3,i4,i5⟩:=rdElems hf hag b o elems (k+1) r (fun i hi=>by
   obtain ⟨cs,h1,h2,h3⟩:=h (i+1) (by simpa using hi)
   refine ⟨cs,h1,fun r hr=>?_,by simpa using h3⟩
   rw [← h2 r hr]
   congr 2
   rw [show k+1+i=k+(i+1) by omega]) hr
  refine ⟨cs++vs,?_,by simp [i2],?_,fun v hv=>?_,fun j c hj=>?_⟩
  ·rw [List.flatMap_cons,hcell]; exact g1.append i1
  ·simp only [List.length_append,List.length_cons,h1,i3]; rw [Nat.add_mul]; omega
  ·rcases List.mem_cons.1 hv with rfl | hv
   ·rw [hcell]; omega
   ·exact i4 v hv
  ·by_cases hjs:j<cs.length
   ·rw [List.getElem?_append_left hjs] at hj
    have:=h2 j (by omega)
    rw [hj] at this
    rw [← this]
    simp
   ·rw [List.getElem?_append_right (by omega)] at hj
    have:=i5 _ c hj
    rw [← this,h1]
    congr 2
    rw [Nat.add_mul]; omega

theorem cat_ok {n:Nat}:∀(fs:List Field) (off:Nat) (tot:Nat) (gs:List (DataW H→Option (List V))) (cs:List Value) (xs:List (DataW H×List MemPlace)) (vs:List V),tight P off fs=some tot→cs.length=tot →
  gs.length=fs.length→(∀(i:Nat) (f:Field) (g:DataW H→Option (List V)),fs[i]?=some f→gs[i]?=some g→∀cs d p vs,DataW.trod enc P w 0 sp held' n f.type cs=some (d,p)→g d=some vs→RepL (start w) vs cs∧∀v∈vs,v.one=true) →
  (∀(i:Nat) (f:Field),fs[i]?=some f→DataW.trod enc P w 0 sp held' n f.type ((cs.drop f.offset).take (P.cellsOf f.type))=xs[i]?)→xs.length=fs.length→catV gs (xs.map (·.1))=some vs→RepL (start w) vs (cs.drop off)∧∀v∈vs,v.one=true
 | [],off,tot,[],cs,[],vs,ht,hl,_,_,_,_,hv=>by
  simp only [tight,Option.some.injEq] at ht
  simp only [List.map_nil,catV,Option.some.injEq] at hv
  subst hv ht
  rw [List.drop_eq_nil_of_le (by omega)]
  exact ⟨.nil,fun v h=>by simp at h⟩
 | f::fs,off,tot,g::gs,cs,(d,p)::xs,vs,ht,hl,hg,hf,hx,hxl,hv=>by
  simp only [tight] at ht
  split at ht
  case isFalse=>cases ht
  rename_i hoff
  simp only [List.map_cons,catV] at hv
  split at hv
  case h_2=>cases hv
  rename_i c r hc hr
  injection hv with hv
  subst hv
  have h0:=hx 0 f rfl
  simp only [List.getElem?_cons_zero] at h0
  obtain ⟨g1,g2⟩:=hf 0 f g rfl rfl _ d p c h0 hc
  obtain ⟨i1,i2⟩:=cat_ok fs (off+P.cellsOf f.type) tot gs cs xs r ht hl (by simpa using hg) (fun i f g h1 h2=>hf (i+1) f g (by simpa using h1) (by simpa using h2)) (fun i f h=>by simpa using hx (i+1) f (by simpa using h)) (by simpa using hxl) hr
  refine ⟨?_,fun v hv=>(List.mem_append.1 hv).elim (g2 v) (i2 v)⟩
  have:cs.drop off=(cs.drop f.offset).take (P.cellsOf f.type)++cs.drop (off+P.cellsOf f.type):=by
   rw [← hoff,← List.drop_drop,List.take_append_drop]
  rw [this]
  exact g1.append i1
 | [],_,_,g::gs,_,_,_,_,_,h,_,_,_,_=>by simp at h
 | f::fs,_,_,[],_,_,_,_,_,h,_,_,_,_=>by simp at h
 | [],_,_,[],_,x::xs,_,_,_,_,_,_,h,_=>by simp at h
 | f::fs,_,_,g::gs,_,[],_,_,_,_,_,_,h,_=>by simp at h

theorem arr_ok {n:Nat} {e:TypeId} {g:DataW H→Option (List V)} (hg:∀cs d p vs,DataW.trod enc P w 0 sp held' n e cs=some (d,p)→g d=some vs→RepL (start w) vs cs∧∀v∈vs,v.one=true) :
  ∀(m k:Nat) (cs:List Value) (xs:List (DataW H×List MemPlace)) (vs:List V),cs.length=(k+m)*P.cellsOf e→(∀i,i<m→DataW.trod enc P w 0 sp held' n e ((cs.drop ((k+i)*P.cellsOf e)).take (P.cellsOf e))=xs[i]?)→xs.length=m →
  catV (List.replicate m g) (xs.map (·.1))=some vs→RepL (start w) vs (cs.drop (k*P.cellsOf e))∧∀v∈vs,v.one=true
 | 0,k,cs,[],vs,hl,_,_,hv=>by
  simp only [List.replicate_zero,List.map_nil,catV,Option.some.injEq] at hv
  subst hv
  rw [List.drop_eq_nil_of_le (by rw [hl]; simp)]
  exact ⟨.nil,fun v h=>by simp at h⟩
 | m+1,k,cs,(d,p)::xs,vs,hl,hx,hxl,hv=>by
  simp only [List.replicate_succ,List.map_cons,catV] at hv
  split at hv
  case h_2=>cases hv
  rename_i c r hc hr
  injection hv with hv
  subst hv
  have h0:=hx 0 (by omega)
  simp only [List.getElem?_cons_zero,Nat.add_zero] at h0
  obtain ⟨g1,g2⟩:=hg _ d p c h0 hc
  obtain ⟨i1,i2⟩:=arr_ok hg m (k+1) cs xs r (by rw [hl]; congr 1; omega) (fun i hi=>by have:=hx (i+1) (by omega); rw [show k+(i+1)=k+1+i by omega] at this; simpa using this) (by simpa using hxl) hr
  refine ⟨?_,fun v hv=>(List.mem_append.1 hv).elim (g2 v) (i2 v)⟩
  have:cs.drop (k*P.cellsOf e)=(cs.drop (k*P.cellsOf e)).take (P.cellsOf e)++cs.drop ((k+1)*P.cellsOf e):=by
   rw [Nat.add_mul,Nat.one_mul,← List.drop_drop,List.take_append_drop]
  rw [this]
  exact g1.append i1
 | 0,_,_,x::xs,_,_,_,h,_=>by simp at h
 | m+1,_,_,[],_,_,_,h,_=>by simp at h

theorem trod_array {m n:Nat} {t e:TypeId} {cs:List Value} {x:DataW H×List MemPlace} (ht:P.underlying t=some (.array m e)) (h:DataW.trod enc P w 0 sp held' n t cs=some x) :
  ∃(xs:List (DataW H×List MemPlace)) (k:Nat),n=k+1∧x=(.agg (xs.map (·.1)),xs.flatMap (·.2))∧cs.length=P.cellsOf t∧xs.length=m ∧
   ∀i,i<m→DataW.trod enc P w 0 sp held' k e ((cs.drop (i*P.cellsOf e)).take (P.cellsOf e))=xs[i]?:=by
 cases n with
 | zero=>simp [DataW.trod] at h
 | succ k =>
  unfold DataW.trod at h
  rw [ht] at h
  split at h <;> simp_all
  obtain ⟨hl,xs,hp,hd⟩:=h
  exact ⟨xs,hd.symm,by simpa using mapM_some_length hp,fun i hi=>mapM_some_get hp i i (by simp [hi])⟩

theorem vcells_ok:∀(N n:Nat) (t:TypeId) (cs:List Value) (d:DataW H) (p:List MemPlace) (vs:List V),DataW.trod enc P w 0 sp held' n t cs=some (d,p)→vcells P N t d=some vs→RepL (start w) vs cs∧∀v∈vs,v.one=true:=by
 intro N
 induction N with
 | zero=>intro n t cs d p vs _ h; cases h
 | succ N ih =>
  intro n t cs d p vs h hv
  unfold vcells at hv
  split at hv
  ·rename_i b ht
   injection hv with hv; subst hv
   cases n with
   | zero=>simp [DataW.trod] at h
   | succ n =>
    unfold DataW.trod at h
    rw [ht] at h
    split at h <;> simp_all
    obtain ⟨rfl,rfl⟩:=h
    exact ⟨.cons (.bool _) .nil,by simp [V.one]⟩
  ·rename_i k' k m ht
   split at hv
   case isFalse=>cases hv
   injection hv with hv; subst hv
   cases n with
   | zero=>simp [DataW.trod] at h
   | succ n =>
    unfold DataW.trod at h
    rw [ht] at h
    split at h <;> simp_all
    obtain ⟨⟨rfl,_⟩,⟨rfl,rfl⟩,_⟩:=h
    exact ⟨.cons (.int _ _) .nil,by simp [V.one]⟩
  ·rename_i l ht
   injection hv with hv; subst hv
   cases n with
   | zero=>simp [DataW.trod] at h
   | succ n =>
    unfold DataW.trod at h
    rw [ht] at h
    split at h <;> simp_all
    obtain ⟨_,rfl,_⟩:=h
    exact ⟨.cons (.str _) .nil,by simp [V.one]⟩
  ·rename_i e ht
   injection hv with hv; subst hv
   rcases DataW.trod_slice ht h with ⟨rfl,_⟩ | ⟨a,len,cap,elems,rest,n',_,_,hx,_⟩
   ·exact ⟨.cons .nils .nil,by simp [V.one]⟩
   ·cases hx
  ·rename_i e es spare ht
   split at hv
   case isFalse=>cases hv
   rename_i hsz
   simp only [Option.map_eq_some_iff] at hv
   obtain ⟨l,hl,rfl⟩:=hv
   rcases DataW.trod_slice ht h with ⟨_,hx⟩ | ⟨a,len,cap,elems,rest,n',rfl,rfl,hx,hb,hlc,_,hel,hcell,_,_⟩
   ·cases hx
   ·simp only [Prod.mk.injEq,DataW.slice.injEq] at hx
    obtain ⟨⟨rfl,_⟩,_⟩:=hx
    refine ⟨.cons ?_ .nil,by simp [V.one]⟩
    cases elems with
    | nil =>
     simp only [List.map_nil,xY,Option.some.injEq] at hl
     subst hl
     simp only [List.length_nil] at hel
     subst hel
     exact .lempty _ _
    | cons x xs =>
     have hsz':0<P.cellsOf e:=Nat.pos_of_ne_zero hsz.1
     have cells:∀i,i<(x::xs).length→∃cs,cs.length=P.cellsOf e∧(∀r,r<P.cellsOf e→w.cell? ((a.add (i*P.cellsOf e)).add r)=cs[r]?)∧DataW.trod enc P w 0 sp held' n' e cs=(x::xs)[i]?:=by
      intro i hi
      have h1:=hcell i (by omega)
      rw [List.getElem?_eq_getElem hi] at h1
      simp only [Option.bind_eq_some_iff] at h1
      obtain ⟨cs,h2,h3⟩:=h1
      obtain ⟨_,h4,h5⟩:=World.cells?_some h2
      exact ⟨cs,h4,h5,by rw [h3,List.getElem?_eq_getElem hi]⟩
     obtain ⟨cs0,z1,z2,z3⟩:=cells 0 (by simp)
     have z4:=z2 0 hsz'
     rw [Nat.zero_mul] at z4
     simp only [Addr.add,if_true] at z4
     have hc0:cs0[0]?=some cs0[0]:=List.getElem?_eq_getElem (by omega)
     rw [hc0] at z4
     have hspot:=cell_spot z4
     have hlt:=cell_lt z4
     obtain ⟨b,o,spot⟩:=a
     simp only at hspot hlt
     subst hspot
     obtain ⟨vs,i1,i2,i3,i4,i5⟩:=rdElems (enc:=enc) (P:=P) (w:=w) (sp:=sp) (held':=held') (e:=e) (ag:=aggT P e) (sz:=P.cellsOf e) (n:=n') (f:=vcells P N e) (fun cs d p vs h1 h2=>ih n' e cs d p vs h1 h2) hsz.2 b o (x::xs) 0 l (fun i hi=>by
      obtain ⟨cs,h1,h2,h3⟩:=cells i hi
      refine ⟨cs,h1,fun r hr=>?_,h3⟩
      rw [← h2 r hr]
      congr 1
      simp only [Addr.add,Nat.zero_add]
      split <;> split <;> simp_all <;> omega) hl
     have:=Rep.list (x:=start w) (es:=l) b o cap (P.cellsOf e) (held_of b o vs hlt (fun j c hj=>by have:=i5 j c hj; rw [← this]; simp)) i1 (by omega) i4
     rw [i2,hel] at this
     exact this
  ·rename_i fs ps ht
   split at hv
   case isFalse=>cases hv
   rename_i htg
   obtain ⟨xs,n',rfl,hx,hlen,hxl,hxs⟩:=DataW.trod_struct ht h
   simp only [Prod.mk.injEq,DataW.agg.injEq] at hx
   obtain ⟨rfl,_⟩:=hx
   have:=cat_ok (enc:=enc) (P:=P) (w:=w) (sp:=sp) (held':=held') (n:=n') fs.toList 0 (P.cellsOf t) (fs.toList.map fun f=>vcells P N f.type) cs xs vs htg hlen (by simp) (fun i f g h1 h2=>by
    rw [List.getElem?_map,h1] at h2
    simp only [Option.map_some,Option.some.injEq] at h2
    subst h2
    exact fun cs d p vs h3 h4=>ih n' f.type cs d p vs h3 h4) (fun i f hf=>hxs i f (by rw [← Array.getElem?_toList]; exact hf)) (by simpa using hxl) hv
   simpa using this
  ·rename_i m e ps ht
   split at hv
   case isFalse=>cases hv
   rename_i hsz
   obtain ⟨xs,n',rfl,hx,hlen,hxl,hxs⟩:=trod_array ht h
   simp only [Prod.mk.injEq,DataW.agg.injEq] at hx
   obtain ⟨rfl,_⟩:=hx
   have:=arr_ok (enc:=enc) (P:=P) (w:=w) (sp:=sp) (held':=held') (n:=n') (e:=e) (g:=vcells P N e) (fun cs d p vs h1 h2=>ih n' e cs d p vs h1 h2) m 0 cs xs vs (by rw [hlen,hsz]; simp) (fun i hi=>by
     have:=hxs i hi
     simpa using this) hxl hv
   simpa using this
  ·cases hv

end
end Go.Proofs.YtchlfjhbijmdiaaGreatDoor.Ai

namespace Go.Proofs.YtchlfjhbijmdiaaGreatDoor.Ai

/-! types of plain data -/
def plainTy (P:Program) (L:List TypeId) (t:TypeId):Bool:=match P.underlying t with
 | some .bool | some (.int _) | some .string=>true
 | some (.slice e)=>L.contains e && decide (P.cellsOf e≠0) && (aggT P e || decide (P.cellsOf e=1))
 | some (.struct fs)=>decide (tight P 0 fs.toList=some (P.cellsOf t)) && fs.toList.all fun f=>L.contains f.type
 | some (.array n e)=>L.contains e && decide (P.cellsOf t=n*P.cellsOf e)
 | _=>false

def plainTys (P:Program) (L:List TypeId):Bool:=L.all (plainTy P L)

section
variable {H:Type} {enc:TypeId×Value→H} {P:Program} {w:World} {sp:Nat→Bool} {held':Bool}

theorem elemsV_ex {ag:Bool} {f:DataW H→Option (List V)}:∀(l:List (DataW H)),(∀d∈l,∃vs,f d=some vs)→∃r,xY ag f l=some r
 | [],_=>⟨[],rfl⟩
 | d::l,h=>by
  obtain ⟨c,hc⟩:=h d (by simp)
  obtain ⟨r,hr⟩:=elemsV_ex (ag:=ag) l fun d hd=>h d (by simp [hd])
  exact ⟨pair ag c::r,by simp [xY,hc,hr]⟩

theorem catV_ex:∀(gs:List (DataW H→Option (List V))) (l:List (DataW H)),gs.length=l.length→(∀(i:Nat) (g:DataW H→Option (List V)) (d:DataW H),gs[i]?=some g→l[i]?=some d→∃vs,g d=some vs)→∃r,catV gs l=some r
 | [],[],_,_=>⟨[],rfl⟩
 | g::gs,d::l,hl,h=>by
  obtain ⟨c,hc⟩:=h 0 g d rfl rfl
  obtain ⟨r,hr⟩:=catV_ex gs l (by simpa using hl) fun i g d h1 h2=>h (i+1) g d (by simpa using h1) (by simpa using h2)
  exact ⟨c++r,by simp [catV,hc,hr]⟩
 | [],_::_,h,_=>by simp at h
 | _::_,[],h,_=>by simp at h

theorem plain_ex {L:List TypeId} (hL:plainTys P L=true):∀(n:Nat) (t:TypeId) (cs:List Value) (d:DataW H) (p:List MemPlace),t∈L→DataW.trod enc P w 0 sp held' n t cs=some (d,p)→∃vs,vcells P n t d=some vs:=by
 intro n
 induction n with
 | zero=>intro t cs d p _ h; simp [DataW.trod] at h
 | succ n ih =>
  intro t cs d p ht h
  have hp:=List.all_eq_true.1 hL t ht
  unfold plainTy at hp
  split at hp
  ·rename_i hu
   obtain ⟨b,_,hx⟩:=DataW.trod_bool hu h
   obtain ⟨rfl,_⟩:=Prod.mk.inj hx
   exact ⟨[.bool b],by simp only [vcells,hu]⟩
  ·rename_i k hu
   obtain ⟨m,_,hx,_⟩:=DataW.trod_int hu h
   obtain ⟨rfl,_⟩:=Prod.mk.inj hx
   exact ⟨[.int k m],by simp only [vcells,hu,if_true]⟩
  ·rename_i hu
   obtain ⟨s,_,hx,_⟩:=DataW.trod_string hu h
   obtain ⟨rfl,_⟩:=Prod.mk.inj hx
   exact ⟨_,by simp only [vcells,hu]; rfl⟩
  ·rename_i e hu
   simp only [Bool.and_eq_true,List.contains_eq_mem,decide_eq_true_eq,Bool.or_eq_true] at hp
   rcases DataW.trod_slice hu h with ⟨_,hx⟩ | ⟨a,len,cap,elems,rest,n',hn,rfl,hx,_,_,_,hel,hcell,_⟩
   ·obtain ⟨rfl,_⟩:=Prod.mk.inj hx
    exact ⟨[.nils],by simp only [vcells,hu]⟩
   ·obtain ⟨rfl,_⟩:=Prod.mk.inj hx
    obtain rfl:n'=n:=by omega
    obtain ⟨r,hr⟩:=elemsV_ex (ag:=aggT P e) (f:=vcells P n' e) (elems.map (·.1)) fun d hd=>by
     obtain ⟨⟨d',p'⟩,hm,rfl⟩:=List.mem_map.1 hd
     obtain ⟨i,hi⟩:=List.getElem?_of_mem hm
     have hlt:i<len:=by rw [← hel]; exact (List.getElem?_eq_some_iff.1 hi).1
     have h1:=hcell i hlt
     rw [hi] at h1
     simp only [Option.bind_eq_some_iff] at h1
     obtain ⟨cs,_,h3⟩:=h1
     exact ih e cs d' p' hp.1.1 h3
    refine ⟨[.list r],?_⟩
    simp only [vcells,hu]
    rw [if_pos ⟨hp.1.2,hp.2⟩,hr]
    rfl
  ·rename_i fs hu
   simp only [Bool.and_eq_true,decide_eq_true_eq,List.all_eq_true,List.contains_eq_mem] at hp
   obtain ⟨xs,n',hn,hx,hlen,hxl,hxs⟩:=DataW.trod_struct hu h
   obtain ⟨rfl,_⟩:=Prod.mk.inj hx
   obtain rfl:n'=n:=by omega
   obtain ⟨r,hr⟩:=catV_ex (fs.toList.map fun f=>vcells P n' f.type) (xs.map (·.1)) (by simp [hxl]) fun i g d h1 h2=>by
    simp only [List.getElem?_map,Option.map_eq_some_iff] at h1 h2
    obtain ⟨f,hf,rfl⟩:=h1
    obtain ⟨⟨d',p'⟩,hd,rfl⟩:=h2
    have hfa:fs[i]?=some f:=by rw [← Array.getElem?_toList]; exact hf
    have h3:=hxs i f hfa
    rw [hd] at h3
    exact ih f.type _ d' p' (hp.2 f (List.mem_of_getElem? hf)) h3
   refine ⟨r,?_⟩
   simp only [vcells,hu]
   rw [if_pos hp.1,hr]
  ·rename_i m e hu
   simp only [Bool.and_eq_true,decide_eq_true_eq,List.contains_eq_mem] at hp
   obtain ⟨xs,n',hn,hx,hlen,hxl,hxs⟩:=trod_array hu h
   obtain ⟨rfl,_⟩:=Prod.mk.inj hx
   obtain rfl:n'=n:=by omega
   obtain ⟨r,hr⟩:=catV_ex (List.replicate m (vcells P n' e)) (xs.map (·.1)) (by simp [hxl]) fun i g d h1 h2=>by
    rw [List.getElem?_replicate] at h1
    split at h1
    ·rename_i hi
     injection h1 with h1; subst h1
     simp only [List.getElem?_map,Option.map_eq_some_iff] at h2
     obtain ⟨⟨d',p'⟩,hd,rfl⟩:=h2
     have h3:=hxs i hi
     rw [hd] at h3
     exact ih e _ d' p' hp.1 h3
    ·cases h1
   exact ⟨r,by simp only [vcells,hu]; rw [if_pos hp.2,hr]⟩
  ·cases hp

/-- What is read of plain data, and the values. -/
theorem plain_ok {L:List TypeId} (hL:plainTys P L=true) {t:TypeId} (ht:t∈L) {v:Value} {d:DataW H} {p:List MemPlace} (h:DataW.Trod enc P w 0 sp held' t v d p) :
  ∃N vs,vcells P N t d=some vs∧RepL (start w) vs v.cells.toList∧∀u∈vs,u.one=true:=by
 obtain ⟨n,hn⟩:=h
 obtain ⟨vs,hv⟩:=plain_ex hL n t v.cells.toList d p ht hn
 exact ⟨n,vs,hv,vcells_ok n n t v.cells.toList d p vs hn hv⟩

/-! what a value of plain data looks like -/
theorem v_int {N:Nat} {t:TypeId} {d:DataW H} {vs:List V} {k:IntKind} (hu:P.underlying t=some (.int k)) (h:vcells P N t d=some vs):∃n,d=.lit (.int k n)∧vs=[.int k n]:=by
 cases N with
 | zero=>cases h
 | succ N =>
  unfold vcells at h
  rw [hu] at h
  split at h <;> simp_all
theorem v_str {N:Nat} {t:TypeId} {d:DataW H} {vs:List V} (hu:P.underlying t=some .string) (h:vcells P N t d=some vs):∃s,vs=[.str s]:=by
 cases N with
 | zero=>cases h
 | succ N =>
  unfold vcells at h
  rw [hu] at h
  split at h <;> simp_all
  exact ⟨_,h.symm⟩
theorem v_slice {N:Nat} {t e:TypeId} {d:DataW H} {vs:List V} (hu:P.underlying t=some (.slice e)) (h:vcells P N t d=some vs) :
  vs=[.nils]∨∃N' es l,xY (aggT P e) (vcells (H:=H) P N' e) es=some l∧vs=[.list l]:=by
 cases N with
 | zero=>cases h
 | succ N =>
  unfold vcells at h
  rw [hu] at h
  split at h <;> simp_all
  obtain ⟨_,l,hl,rfl⟩:=h
  exact .inr ⟨_,_,l,hl,rfl⟩
theorem v_struct {N:Nat} {t:TypeId} {fs:Array Field} {d:DataW H} {vs:List V} (hu:P.underlying t=some (.struct fs)) (h:vcells P N t d=some vs) :
  ∃N' ps,catV (fs.toList.map fun f=>vcells (H:=H) P N' f.type) ps=some vs:=by
 cases N with
 | zero=>cases h
 | succ N =>
  unfold vcells at h
  rw [hu] at h
  split at h <;> simp_all
  exact ⟨N,_,h.2⟩
theorem xF {f:DataW H→Option (List V)} {fs:List (DataW H→Option (List V))} {ds:List (DataW H)} {vs:List V} (h:catV (f::fs) ds=some vs) :
  ∃d ds' c r,ds=d::ds'∧f d=some c∧catV fs ds'=some r∧vs=c++r:=by
 cases ds with
 | nil=>simp [catV] at h
 | cons d ds =>
  simp only [catV] at h
  split at h
  ·rename_i c r h1 h2
   injection h with h
   exact ⟨d,ds,c,r,rfl,h1,h2,h.symm⟩
  ·cases h
theorem catV_nil {ds:List (DataW H)} {vs:List V} (h:catV [] ds=some vs):vs=[]:=by
 cases ds with
 | nil=>simp [catV] at h; exact h
 | cons d ds=>simp [catV] at h
end
end Go.Proofs.YtchlfjhbijmdiaaGreatDoor.Ai

