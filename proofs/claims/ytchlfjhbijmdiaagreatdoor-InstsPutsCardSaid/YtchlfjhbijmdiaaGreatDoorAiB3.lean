/- Part of a reckoning of a Go program over abstract values, proved sound against the model. -/
import Derived.Test.YtchlfjhbijmdiaaGreatDoorAiA4
import Derived.Below
import Derived.Laws.AppendOwn
import Derived.Calls
import Derived.Laws.Append
import Derived.Laws.Slices
set_option linter.unusedSimpArgs false
set_option linter.unusedVariables false
namespace Go.Proofs.YtchlfjhbijmdiaaGreatDoor.Ai
open Go.RowKit (Below)

structure Cx where
 w:World
 ρ:Nat→Nat×Nat
 K:Nat→Prop
 s:S
 B:Nat→Prop

def Cx.own (x:Cx) (b:Nat):Prop:=∃i o,x.s.get i=some o∧(x.ρ i).1=b
def Cx.no (x:Cx) (b:Nat):Prop:=x.B b∨x.own b

def yZ (w:World) (b:Nat):Option Nat :=
 match w.heap[b]? with
 | some (.cells C _ _)=>some C.size
 | _=>none

def held (x:Cx) (b o:Nat) (vs:List Value):Prop :=
 b<x.w.heap.size∧¬x.no b∧∀j c,vs[j]?=some c→x.w.cell? ⟨b,o+j,none⟩=some c

mutual
inductive Rep (x:Cx):V→Value→Prop
 | bool (b:Bool):Rep x (.bool b) (.bool b)
 | int (k:IntKind) (n:Int):Rep x (.int k n) (.int k n)
 | str (s:ByteArray):Rep x (.str s) (.string s)
 | nilp:Rep x .nilp (.pointer none)
 | ptr (id off:Nat):x.K id→Rep x (.ptr id off) (.pointer (some ⟨(x.ρ id).1,(x.ρ id).2+off,none⟩))
 | cptr {cs:List V} {vs:List Value} (b o off:Nat):held x b o vs→RepL x cs vs→Rep x (.cptr cs off) (.pointer (some ⟨b,o+off,none⟩))
 | list {es:List V} {vs:List Value} (b o cap sz:Nat):held x b o vs→RepL x (es.flatMap V.cells) vs→es.length≤cap→(∀e∈es,e.cells.length=sz)→Rep x (.list es) (.slice (some ⟨b,o,none⟩) es.length cap)
 | lempty (a:Option Addr) (cap:Nat):Rep x (.list []) (.slice a 0 cap)
 | nils:Rep x .nils (.slice none 0 0)
 | arr (id off len sz:Nat) (ag:Bool) (cp:Nat) (o cap n:Nat):x.K id→(cap=0∨o=(x.ρ id).2+off)→len≤cap→yZ x.w (x.ρ id).1=some n→(x.ρ id).2+off+cap*sz≤n →
   (cp=0∨cp=cap+1)→Rep x (.arr id off len sz ag cp) (.slice (some ⟨(x.ρ id).1,o,none⟩) len cap)
 | map (id:Nat):x.K id→Rep x (.map id) (.map (some (x.ρ id).1))
 | nilm:Rep x .nilm (.map none)
 | yield (id:Nat):x.K id→Rep x (.yield id) (.func (.yield (x.ρ id).1) #[] #[])
 | func (fn:Fn) {a b:List V} {A B:Array Value}:RepL x a A.toList→RepL x b B.toList→Rep x (.func fn a b) (.func fn A B)
 | nilf:Rep x .nilf .nilFunc
 | iface (t:TypeId) {v:V} {c:Value}:Rep x v c→Rep x (.iface t v) (.iface t c)
 | nili:Rep x .nili .nilIface
 | agg {cs:List V} {C:Array Value}:RepL x cs C.toList→Rep x (.agg cs) (.agg C)
 | tup {cs:List V} {C:Array Value}:RepL x cs C.toList→Rep x (.tup cs) (.tuple C)
inductive RepL (x:Cx):List V→List Value→Prop
 | nil:RepL x [] []
 | cons {v:V} {c:Value} {l:List V} {m:List Value}:Rep x v c→RepL x l m→RepL x (v::l) (c::m)
end

structure Cx.le (x y:Cx):Prop where
 B:y.B=x.B
 K:∀i,x.K i→y.K i∧y.ρ i=x.ρ i
 size:x.w.heap.size≤y.w.heap.size
 keep:∀b,b<x.w.heap.size→¬x.own b→y.w.heap[b]?=x.w.heap[b]?
 csz:∀b n,yZ x.w b=some n→yZ y.w b=some n
 own:∀b,b<x.w.heap.size→y.own b→x.own b
 os:y.w.os=x.w.os
 tape:y.w.tape=x.w.tape
 output:y.w.output=x.w.output

theorem Cx.le.refl (x:Cx):x.le x:=⟨rfl,fun _ h=>⟨h,rfl⟩,Nat.le_refl _,fun _ _ _=>rfl,fun _ _ h=>h,fun _ _ h=>h,rfl,rfl,rfl⟩

theorem Cx.le.trans {x y z:Cx} (h:x.le y) (k:y.le z):x.le z :=
 ⟨k.B.trans h.B,fun i hi=>⟨(k.K i (h.K i hi).1).1,((k.K i (h.K i hi).1).2).trans (h.K i hi).2⟩,Nat.le_trans h.size k.size,
  fun b hb hn=>(k.keep b (Nat.lt_of_lt_of_le hb h.size) (fun ho=>hn (h.own b hb ho))).trans (h.keep b hb hn),
  fun b n hb=>k.csz b n (h.csz b n hb),fun b hb ho=>h.own b hb (k.own b (Nat.lt_of_lt_of_le hb h.size) ho),
  k.os.trans h.os,k.tape.trans h.tape,k.output.trans h.output⟩

theorem held.mono {x y:Cx} (h:x.le y) {b o:Nat} {vs:List Value} (hh:held x b o vs):held y b o vs:=by
 obtain ⟨h1,h2,h3⟩:=hh
 have hno:¬x.own b:=fun hb=>h2 (.inr hb)
 refine ⟨Nat.lt_of_lt_of_le h1 h.size,?_,fun j c hj=>?_⟩
 ·rintro (hb | hb)
  ·rw [h.B] at hb; exact h2 (.inl hb)
  ·exact hno (h.own b h1 hb)
 ·rw [← h3 j c hj]
  exact World.cell?_of_block (w:=x.w) (w':=y.w) (a:=⟨b,o+j,none⟩) (h.keep b h1 hno)

mutual
theorem Rep.mono {x y:Cx} (h:x.le y) {v:V} {c:Value}:Rep x v c→Rep y v c
 | .bool b=>.bool b
 | .int k n=>.int k n
 | .str s=>.str s
 | .nilp=>.nilp
 | .ptr id off hk=>by
  have:=Rep.ptr (x:=y) id off (h.K id hk).1
  rw [(h.K id hk).2] at this; exact this
 | .cptr b o off hh hl=>.cptr b o off (hh.mono h) (RepL.mono h hl)
 | .list b o cap sz hh hl hc he=>.list b o cap sz (hh.mono h) (RepL.mono h hl) hc he
 | .lempty a cap=>.lempty a cap
 | .nils=>.nils
 | .arr id off len sz ag cp o cap n hk h1 h2 h3 h4 h5=>by
  have:=Rep.arr (x:=y) id off len sz ag cp o cap n (h.K id hk).1
  rw [(h.K id hk).2] at this
  exact this h1 h2 (h.csz _ _ h3) h4 h5
 | .map id hk=>by
  have:=Rep.map (x:=y) id (h.K id hk).1
  rw [(h.K id hk).2] at this; exact this
 | .nilm=>.nilm
 | .yield id hk=>by
  have:=Rep.yield (x:=y) id (h.K id hk).1
  rw [(h.K id hk).2] at this; exact this
 | .func fn ha hb=>.func fn (RepL.mono h ha) (RepL.mono h hb)
 | .nilf=>.nilf
 | .iface t hv=>.iface t (Rep.mono h hv)
 | .nili=>.nili
 | .agg hl=>.agg (RepL.mono h hl)
 | .tup hl=>.tup (RepL.mono h hl)
theorem RepL.mono {x y:Cx} (h:x.le y) {l:List V} {m:List Value}:RepL x l m→RepL y l m
 | .nil=>.nil
 | .cons hv hl=>.cons (Rep.mono h hv) (RepL.mono h hl)
end

/-! lists -/
theorem RepL.length {x:Cx}:∀{l:List V} {m:List Value},RepL x l m→l.length=m.length
 | _,_,.nil=>rfl
 | _,_,.cons _ h=>by simp [RepL.length h]

theorem RepL.get {x:Cx}:∀{l:List V} {m:List Value},RepL x l m→∀(j:Nat) (v:V),l[j]?=some v→∃c,m[j]?=some c∧Rep x v c
 | _,_,.nil,j,v,h=>by simp at h
 | _,_,.cons (c:=c) hv hl,0,v,h=>by simp at h; subst h; exact ⟨c,by simp,hv⟩
 | _,_,.cons hv hl,j+1,v,h=>by simpa using RepL.get hl j v (by simpa using h)

theorem RepL.append {x:Cx}:∀{l:List V} {m:List Value} {l':List V} {m':List Value},RepL x l m→RepL x l' m'→RepL x (l++l') (m++m')
 | _,_,_,_,.nil,h=>h
 | _,_,_,_,.cons hv hl,h=>.cons hv (RepL.append hl h)

theorem RepL.take {x:Cx}:∀(n:Nat) {l:List V} {m:List Value},RepL x l m→RepL x (l.take n) (m.take n)
 | 0,_,_,_=>by simpa using .nil
 | _+1,_,_,.nil=>by simpa using .nil
 | n+1,_,_,.cons hv hl=>by simpa using .cons hv (RepL.take n hl)

theorem RepL.drop {x:Cx}:∀(n:Nat) {l:List V} {m:List Value},RepL x l m→RepL x (l.drop n) (m.drop n)
 | 0,_,_,h=>by simpa using h
 | _+1,_,_,.nil=>by simpa using .nil
 | n+1,_,_,.cons _ hl=>by simpa using RepL.drop n hl

theorem RepL.set {x:Cx} {v:V} {c:Value} (hv:Rep x v c):∀(n:Nat) {l:List V} {m:List Value},RepL x l m→RepL x (l.set n v) (m.set n c)
 | _,_,_,.nil=>by simpa using .nil
 | 0,_,_,.cons _ hl=>by simpa using .cons hv hl
 | n+1,_,_,.cons h hl=>by simpa using .cons h (RepL.set hv n hl)

theorem RepL.replicate {x:Cx} {v:V} {c:Value} (hv:Rep x v c):∀n,RepL x (List.replicate n v) (List.replicate n c)
 | 0=>.nil
 | n+1=>by simpa [List.replicate_succ] using .cons hv (RepL.replicate hv n)

theorem Rep.cells {x:Cx} {v:V} {c:Value} (h:Rep x v c):RepL x v.cells c.cells.toList:=by
 cases h with
 | agg hl=>exact hl
 | bool b=>exact .cons (.bool b) .nil
 | int k n=>exact .cons (.int k n) .nil
 | str s=>exact .cons (.str s) .nil
 | nilp=>exact .cons .nilp .nil
 | ptr id off hk=>exact .cons (.ptr id off hk) .nil
 | cptr b o off hh hl=>exact .cons (.cptr b o off hh hl) .nil
 | list b o cap sz hh hl hc he=>exact .cons (.list b o cap sz hh hl hc he) .nil
 | lempty a cap=>exact .cons (.lempty a cap) .nil
 | nils=>exact .cons .nils .nil
 | arr id off len sz ag cp o cap n hk h1 h2 h3 h4 h5=>exact .cons (.arr id off len sz ag cp o cap n hk h1 h2 h3 h4 h5) .nil
 | map id hk=>exact .cons (.map id hk) .nil
 | nilm=>exact .cons .nilm .nil
 | yield id hk=>exact .cons (.yield id hk) .nil
 | func fn ha hb=>exact .cons (.func fn ha hb) .nil
 | nilf=>exact .cons .nilf .nil
 | iface t hv=>exact .cons (.iface t hv) .nil
 | nili=>exact .cons .nili .nil
 | tup hl=>exact .cons (.tup hl) .nil

theorem Rep.one {x:Cx} {v:V} {c:Value} (h:Rep x v c) (hv:v.one=true):c.oneCell'=true:=by
 cases h <;> simp_all [V.one,Value.oneCell']

theorem RepL.ones {x:Cx}:∀{l:List V} {m:List Value},RepL x l m→l.all V.one=true→∀c∈m,c.oneCell'=true
 | _,_,.nil,_,c,hc=>by simp at hc
 | _,_,.cons hv hl,h,c,hc=>by
  simp only [List.all_cons,Bool.and_eq_true] at h
  rcases List.mem_cons.1 hc with rfl | hc
  ·exact hv.one h.1
  ·exact RepL.ones hl h.2 c hc

/-! objects -/
def uA (x:Cx) (es:List (V×V×Nat)) (E:List MapEntry):Prop :=
 es.length=E.length∧∀(j:Nat) (e:V×V×Nat),es[j]?=some e→∃m:MapEntry,E[j]?=some m∧Rep x e.1 m.key∧Rep x e.2.1 m.val∧m.born=e.2.2

def tU (x:Cx) (b base:Nat):O→Prop
 | .cells cs frz ty ex=>∃C lo hi vs,x.w.heap[b]?=some (.cells C ty (lo,hi))∧RepL x cs vs∧(∀j c,vs[j]?=some c→C[base+j]?=some c) ∧
   (∀o,o<C.size→lo≤o→o<hi→o<base+frz)∧(ex=true→base=0∧C.size=cs.length)
 | .map es clock=>∃E,x.w.heap[b]?=some (.map E clock)∧uA x es E.toList
 | .iter none since seen last=>base=0∧x.w.heap[b]?=some (.mapIter none since seen.toArray last)
 | .iter (some id) since seen last=>base=0∧x.K id∧x.w.heap[b]?=some (.mapIter (some (x.ρ id).1) since seen.toArray last)
 | .siter s pos=>base=0∧x.w.heap[b]?=some (.stringIter s pos)
 | .dblk up=>base=0∧x.w.heap[b]?=some (.deferred (if up then some [] else none))
 | .loop st pd tm ps asg bd=>base=0∧∃r:Loop,x.w.heap[b]?=some (.loop r)∧r.state=st∧r.pending=pd∧r.params=ps∧r.assign=asg∧r.body=bd∧RepL x tm r.tmps.toList

structure Rel (x:Cx):Prop where
 lt:∀i,x.K i→i<x.s.next
 live:∀i o,x.s.get i=some o→x.K i∧tU x (x.ρ i).1 (x.ρ i).2 o
 inj:∀i j o p,x.s.get i=some o→x.s.get j=some p→(x.ρ i).1=(x.ρ j).1→i=j
 room:∀b,x.B b→b<x.w.heap.size
 apart:∀i o,x.s.get i=some o→¬x.B (x.ρ i).1

theorem uA.mono {x y:Cx} (h:x.le y) {es:List (V×V×Nat)} {E:List MapEntry} (he:uA x es E):uA y es E :=
 ⟨he.1,fun j e hj=>let ⟨m,hm,h1,h2,h3⟩:=he.2 j e hj; ⟨m,hm,h1.mono h,h2.mono h,h3⟩⟩

theorem tU.mono {x y:Cx} (h:x.le y) {b base:Nat} {o:O} (hb:y.w.heap[b]?=x.w.heap[b]?) (ho:tU x b base o):tU y b base o:=by
 cases o with
 | cells cs frz ty ex =>
  obtain ⟨C,lo,hi,vs,h1,h2,h3,h4,h5⟩:=ho
  exact ⟨C,lo,hi,vs,hb.trans h1,h2.mono h,h3,h4,h5⟩
 | map es clock =>
  obtain ⟨E,h1,h2⟩:=ho
  exact ⟨E,hb.trans h1,h2.mono h⟩
 | iter m since seen last =>
  cases m with
  | none=>exact ⟨ho.1,hb.trans ho.2⟩
  | some id=>exact ⟨ho.1,(h.K id ho.2.1).1,by rw [(h.K id ho.2.1).2]; exact hb.trans ho.2.2⟩
 | siter s pos=>exact ⟨ho.1,hb.trans ho.2⟩
 | dblk up=>exact ⟨ho.1,hb.trans ho.2⟩
 | loop st pd tm ps asg bd =>
  obtain ⟨h0,r,h1,h2,h3,h4,h5,h6,h7⟩:=ho
  exact ⟨h0,r,hb.trans h1,h2,h3,h4,h5,h6,h7.mono h⟩

theorem tU.lt {x:Cx} {b base:Nat} {o:O} (ho:tU x b base o):b<x.w.heap.size:=by
 have:x.w.heap[b]?≠none:=by
  cases o with
  | cells cs frz ty ex=>obtain ⟨C,lo,hi,vs,h1,_⟩:=ho; rw [h1]; simp
  | map es clock=>obtain ⟨E,h1,_⟩:=ho; rw [h1]; simp
  | iter m since seen last =>
   cases m with
   | none=>rw [ho.2]; simp
   | some id=>rw [ho.2.2]; simp
  | siter s pos=>rw [ho.2]; simp
  | dblk up=>rw [ho.2]; simp
  | loop st pd tm ps asg bd=>obtain ⟨_,r,h1,_⟩:=ho; rw [h1]; simp
 exact Decidable.not_not.1 fun hn=>this (Array.getElem?_eq_none (by omega))

theorem Rel.own_lt {x:Cx} (h:Rel x) {b:Nat} (hb:x.own b):b<x.w.heap.size:=by
 obtain ⟨i,o,hi,rfl⟩:=hb
 exact (h.live i o hi).2.lt

/-- The world changed by draws alone. -/
theorem le_drew {x:Cx} {w':World} (hh:w'.heap=x.w.heap) (ho:w'.os=x.w.os) (ht:w'.tape=x.w.tape) (hu:w'.output=x.w.output):x.le { x with w:=w' } where
 B:=rfl
 K:=fun _ h=>⟨h,rfl⟩
 size:=by simp [hh]
 keep:=fun b _ _=>by simp [hh]
 csz:=fun b n h=>by simpa [yZ,hh] using h
 own:=fun b _ h=>h
 os:=ho
 tape:=ht
 output:=hu

theorem Rel.drew {x:Cx} {w':World} (h:Rel x) (hh:w'.heap=x.w.heap) (ho:w'.os=x.w.os) (ht:w'.tape=x.w.tape) (hu:w'.output=x.w.output):Rel { x with w:=w' } where
 lt:=h.lt
 live:=fun i o hi=>⟨(h.live i o hi).1,(h.live i o hi).2.mono (le_drew hh ho ht hu) (by simp [hh])⟩
 inj:=h.inj
 room:=fun b hb=>by simpa [hh] using h.room b hb
 apart:=h.apart

end Go.Proofs.YtchlfjhbijmdiaaGreatDoor.Ai

namespace Go.Proofs.YtchlfjhbijmdiaaGreatDoor.Ai
open Go.RowKit (Below)

def upd (ρ:Nat→Nat×Nat) (i:Nat) (p:Nat×Nat) (j:Nat):Nat×Nat:=if j=i then p else ρ j

/-! something new -/
def Cx.alloc (x:Cx) (nw:Nat) (o:O) (c:Obj):Cx :=
 ⟨x.w.alloc c,upd x.ρ nw (x.w.heap.size,0),fun i=>i=nw∨x.K i,x.s.add nw o,x.B⟩

theorem wX (w:World) (c:Obj) {b:Nat} (h:b<w.heap.size):(w.alloc c).heap[b]?=w.heap[b]?:=Below.heap_alloc _ _ _ h
theorem yl (w:World) (c:Obj):(w.alloc c).heap[w.heap.size]?=some c:=by
 show (w.heap.push c)[w.heap.size]?=_
 simp

section
variable {x:Cx} {nw:Nat} {o:O} {c:Obj}

theorem get_none (hx:Rel x) (hn:¬x.K nw):x.s.get nw=none:=by
 cases h:x.s.get nw with
 | none=>rfl
 | some o=>exact absurd (hx.live nw o h).1 hn

theorem alloc_own (hx:Rel x) (hn:¬x.K nw) (b:Nat):(x.alloc nw o c).own b↔b=x.w.heap.size∨x.own b:=by
 constructor
 ·rintro ⟨i,p,hi,hb⟩
  simp only [Cx.alloc,S.get_add] at hi
  by_cases e:i=nw
  ·subst e; left; rw [← hb]; simp [Cx.alloc,upd]
  ·rw [if_neg e] at hi
   right; exact ⟨i,p,hi,by rw [← hb]; simp [Cx.alloc,upd,e]⟩
 ·rintro (rfl | ⟨i,p,hi,rfl⟩)
  ·exact ⟨nw,o,by simp [Cx.alloc,S.get_add],by simp [Cx.alloc,upd]⟩
  ·have e:i≠nw:=by rintro rfl; rw [get_none hx hn] at hi; cases hi
   exact ⟨i,p,by simp [Cx.alloc,S.get_add,e,hi],by simp [Cx.alloc,upd,e]⟩

theorem ux (hx:Rel x) (hn:¬x.K nw):x.le (x.alloc nw o c) where
 B:=rfl
 K:=fun i hi=>⟨.inr hi,by simp only [Cx.alloc,upd]; rw [if_neg]; rintro rfl; exact hn hi⟩
 size:=by simp [Cx.alloc]
 keep:=fun b hb _=>wX _ _ hb
 csz:=fun b n h=>by
  have hb:b<x.w.heap.size:=by
   apply Decidable.not_not.1; intro hlt
   simp [yZ,Array.getElem?_eq_none (show x.w.heap.size≤b by omega)] at h
  simpa [yZ,Cx.alloc,wX _ _ hb] using h
 own:=fun b hb ho=>by
  rcases (alloc_own hx hn b).1 ho with h | h
  ·omega
  ·exact h
 os:=rfl
 tape:=rfl
 output:=rfl

theorem ud (hx:Rel x) (hn:¬x.K nw) (ho:tU (x.alloc nw o c) x.w.heap.size 0 o):Rel (x.alloc nw o c) where
 lt:=fun i hi=>by
  simp only [Cx.alloc,S.next_add]
  rcases hi with rfl | hi
  ·omega
  ·have:=hx.lt i hi; omega
 live:=fun i p hi=>by
  simp only [Cx.alloc,S.get_add] at hi
  by_cases e:i=nw
  ·subst e
   rw [if_pos rfl] at hi; injection hi with hi; subst hi
   exact ⟨.inl rfl,by simpa [Cx.alloc,upd] using ho⟩
  ·rw [if_neg e] at hi
   have h:=hx.live i p hi
   refine ⟨.inr h.1,?_⟩
   have h2:=h.2.mono (ux (o:=o) (c:=c) hx hn) (wX _ _ h.2.lt)
   simpa [Cx.alloc,upd,e] using h2
 inj:=fun i j p q hi hj he=>by
  simp only [Cx.alloc,S.get_add] at hi hj
  simp only [Cx.alloc,upd] at he
  by_cases e:i=nw <;> by_cases e':j=nw
  ·omega
  ·rw [if_neg e'] at hj
   rw [if_pos e,if_neg e'] at he
   have:=(hx.live j q hj).2.lt
   simp only at he
   omega
  ·rw [if_neg e] at hi
   rw [if_neg e,if_pos e'] at he
   have:=(hx.live i p hi).2.lt
   simp only at he
   omega
  ·rw [if_neg e] at hi; rw [if_neg e'] at hj
   rw [if_neg e,if_neg e'] at he
   exact hx.inj i j p q hi hj he
 room:=fun b hb=>by
  have:=hx.room b hb
  simp [Cx.alloc]; omega
 apart:=fun i p hi hb=>by
  simp only [Cx.alloc,S.get_add] at hi hb
  simp only [upd] at hb
  by_cases e:i=nw
  ·rw [if_pos e] at hb
   have:=hx.room _ hb
   simp only at this
   omega
  ·rw [if_neg e] at hi hb
   exact hx.apart i p hi hb
end

/-- A new row of cells. -/
theorem wb {x:Cx} {nw frz:Nat} (hx:Rel x) (hn:¬x.K nw) {cs:List V} {C:Array Value} {ty:TypeId} {ex:Bool} {vs:List Value} (hl:RepL x cs vs)
  (hpre:∀(j:Nat) (c:Value),vs[j]?=some c→C[j]?=some c) (hex:ex=true→C.size=cs.length) :
  let y:=x.alloc nw (.cells cs frz ty ex) (.cells C ty)
  x.le y∧Rel y∧y.K nw∧y.ρ nw=(x.w.heap.size,0):=by
 have hle:=ux (o:=.cells cs frz ty ex) (c:=.cells C ty) hx hn
 refine ⟨hle,ud hx hn ⟨C,0,0,vs,yl _ _,hl.mono hle,by simpa using hpre,fun o _ _ h=>by omega,fun h=>⟨rfl,hex h⟩⟩,.inl rfl,by simp [Cx.alloc,upd]⟩

/-! something that is written -/
def Cx.putc (x:Cx) (i:Nat) (o:O) (w':World):Cx:=⟨w',x.ρ,x.K,x.s.put i o,x.B⟩

/-- w' is w but for the cells of a block. -/
structure Wrote (w w':World) (b:Nat):Prop where
 size:w'.heap.size=w.heap.size
 keep:∀k,k≠b→w'.heap[k]?=w.heap[k]?
 csz:∀k n,yZ w k=some n→yZ w' k=some n
 os:w'.os=w.os
 tape:w'.tape=w.tape
 output:w'.output=w.output

theorem Wrote.refl (w:World) (b:Nat):Wrote w w b:=⟨rfl,fun _ _=>rfl,fun _ _ h=>h,rfl,rfl,rfl⟩
theorem Wrote.trans {a b c:World} {k:Nat} (h:Wrote a b k) (g:Wrote b c k):Wrote a c k :=
 ⟨g.size.trans h.size,fun i hi=>(g.keep i hi).trans (h.keep i hi),fun i n hn=>g.csz i n (h.csz i n hn),g.os.trans h.os,g.tape.trans h.tape,g.output.trans h.output⟩

theorem wrote_setCell (w:World) (a:Addr) (v:Value):Wrote w (w.setCell a v) a.block where
 size:=by simp
 keep:=fun k hk=>Below.heap_setCell _ _ _ _ hk
 csz:=fun k n h=>by
  by_cases e:k=a.block
  ·subst e
   simp only [yZ] at h ⊢
   simp only [World.setCell,Array.getElem?_modify,if_true]
   cases hb:w.heap[a.block]? with
   | none=>simp [hb] at h
   | some o =>
    rw [hb] at h
    cases o <;> simp at h ⊢
    split <;> simp [h]
  ·simpa [yZ,Below.heap_setCell w a v k e] using h
 os:=rfl
 tape:=rfl
 output:=rfl

section
variable {x:Cx} {i:Nat} {o o':O} {w':World}
theorem putc_own (hi:x.s.get i=some o) (b:Nat):(x.putc i o' w').own b↔x.own b:=by
 constructor
 ·rintro ⟨j,p,hj,hb⟩
  simp only [Cx.putc,S.get_put] at hj hb
  by_cases e:j=i
  ·subst e; exact ⟨j,o,hi,hb⟩
  ·rw [if_neg e] at hj; exact ⟨j,p,hj,hb⟩
 ·rintro ⟨j,p,hj,hb⟩
  by_cases e:j=i
  ·subst e; exact ⟨j,o',by simp [Cx.putc,S.get_put],hb⟩
  ·exact ⟨j,p,by simp [Cx.putc,S.get_put,e,hj],hb⟩

theorem vJ (hi:x.s.get i=some o) (hw:Wrote x.w w' (x.ρ i).1):x.le (x.putc i o' w') where
 B:=rfl
 K:=fun j h=>⟨h,rfl⟩
 size:=by simp [Cx.putc,hw.size]
 keep:=fun b _ hn=>hw.keep b (by rintro rfl; exact hn ⟨i,o,hi,rfl⟩)
 csz:=hw.csz
 own:=fun b _ h=>(putc_own hi b).1 h
 os:=hw.os
 tape:=hw.tape
 output:=hw.output

theorem wR (hx:Rel x) (hi:x.s.get i=some o) (hw:Wrote x.w w' (x.ρ i).1) (ho:tU (x.putc i o' w') (x.ρ i).1 (x.ρ i).2 o'):Rel (x.putc i o' w') where
 lt:=hx.lt
 live:=fun j p hj=>by
  simp only [Cx.putc,S.get_put] at hj
  by_cases e:j=i
  ·subst e
   rw [if_pos rfl] at hj; injection hj with hj; subst hj
   exact ⟨(hx.live j o hi).1,ho⟩
  ·rw [if_neg e] at hj
   refine ⟨(hx.live j p hj).1,(hx.live j p hj).2.mono (vJ hi hw) (hw.keep _ fun h=>e (hx.inj j i p o hj hi h))⟩
 inj:=fun j k p q hj hk he=>by
  simp only [Cx.putc,S.get_put] at hj hk
  by_cases e:j=i <;> by_cases e':k=i
  ·omega
  ·rw [if_neg e'] at hk; subst e; exact hx.inj j k o q hi hk he
  ·rw [if_neg e] at hj; subst e'; exact hx.inj j k p o hj hi he
  ·rw [if_neg e] at hj; rw [if_neg e'] at hk; exact hx.inj j k p q hj hk he
 room:=fun b hb=>by simpa [Cx.putc,hw.size] using hx.room b hb
 apart:=fun j p hj=>by
  simp only [Cx.putc,S.get_put] at hj
  by_cases e:j=i
  ·subst e; exact hx.apart j o hi
  ·rw [if_neg e] at hj; exact hx.apart j p hj
end

/-! something that is given up -/
def Cx.delc (x:Cx) (i:Nat):Cx:={ x with s:=x.s.del i }

theorem delc_le (x:Cx) (i:Nat):x.le (x.delc i) where
 B:=rfl
 K:=fun j h=>⟨h,rfl⟩
 size:=Nat.le_refl _
 keep:=fun _ _ _=>rfl
 csz:=fun _ _ h=>h
 own:=fun b _ ⟨j,p,hj,hb⟩=>by
  simp only [Cx.delc,S.get_del] at hj
  by_cases e:j=i
  ·rw [if_pos e] at hj; cases hj
  ·rw [if_neg e] at hj; exact ⟨j,p,hj,hb⟩
 os:=rfl
 tape:=rfl
 output:=rfl

theorem delc_rel {x:Cx} (hx:Rel x) (i:Nat):Rel (x.delc i) where
 lt:=hx.lt
 live:=fun j p hj=>by
  simp only [Cx.delc,S.get_del] at hj
  by_cases e:j=i
  ·rw [if_pos e] at hj; cases hj
  ·rw [if_neg e] at hj
   exact ⟨(hx.live j p hj).1,(hx.live j p hj).2.mono (delc_le x i) rfl⟩
 inj:=fun j k p q hj hk he=>by
  simp only [Cx.delc,S.get_del] at hj hk
  by_cases e:j=i
  ·rw [if_pos e] at hj; cases hj
  ·by_cases e':k=i
   ·rw [if_pos e'] at hk; cases hk
   ·rw [if_neg e] at hj; rw [if_neg e'] at hk
    exact hx.inj j k p q hj hk he
 room:=hx.room
 apart:=fun j p hj=>by
  simp only [Cx.delc,S.get_del] at hj
  by_cases e:j=i
  ·rw [if_pos e] at hj; cases hj
  ·rw [if_neg e] at hj; exact hx.apart j p hj

theorem delc_notown {x:Cx} (hx:Rel x) {i:Nat} {o:O} (hi:x.s.get i=some o):¬(x.delc i).own (x.ρ i).1:=by
 rintro ⟨j,p,hj,hb⟩
 simp only [Cx.delc,S.get_del] at hj hb
 by_cases e:j=i
 ·rw [if_pos e] at hj; cases hj
 ·rw [if_neg e] at hj
  exact e (hx.inj j i p o hj hi hb)

/-! another name for a block that was given up -/
def Cx.take (x:Cx) (i nw:Nat) (base:Nat) (o:O) (w':World):Cx :=
 ⟨w',upd x.ρ nw ((x.ρ i).1,base),fun j=>j=nw∨x.K j,(x.s.del i).add nw o,x.B⟩

section
variable {x:Cx} {i nw base:Nat} {o o':O} {w':World}
theorem take_own (hx:Rel x) (hn:¬x.K nw) (hi:x.s.get i=some o) (b:Nat):(x.take i nw base o' w').own b↔x.own b:=by
 have hne:i≠nw:=by rintro rfl; exact hn (hx.live i o hi).1
 constructor
 ·rintro ⟨j,p,hj,hb⟩
  simp only [Cx.take,S.get_add,S.get_del,upd] at hj hb
  by_cases e:j=nw
  ·rw [if_pos e] at hb; exact ⟨i,o,hi,hb⟩
  ·rw [if_neg e] at hj hb
   by_cases e':j=i
   ·rw [if_pos e'] at hj; cases hj
   ·rw [if_neg e'] at hj; exact ⟨j,p,hj,hb⟩
 ·rintro ⟨j,p,hj,hb⟩
  by_cases e':j=i
  ·subst e'
   exact ⟨nw,o',by simp [Cx.take,S.get_add],by simp [Cx.take,upd,hb]⟩
  ·have e:j≠nw:=by rintro rfl; exact hn (hx.live j p hj).1
   exact ⟨j,p,by simp [Cx.take,S.get_add,S.get_del,e,e',hj],by simp [Cx.take,upd,e,hb]⟩

theorem take_le (hx:Rel x) (hn:¬x.K nw) (hi:x.s.get i=some o) (hw:Wrote x.w w' (x.ρ i).1):x.le (x.take i nw base o' w') where
 B:=rfl
 K:=fun j h=>⟨.inr h,by simp only [Cx.take,upd]; rw [if_neg]; rintro rfl; exact hn h⟩
 size:=by simp [Cx.take,hw.size]
 keep:=fun b _ hno=>hw.keep b (by rintro rfl; exact hno ⟨i,o,hi,rfl⟩)
 csz:=hw.csz
 own:=fun b _ h=>(take_own hx hn hi b).1 h
 os:=hw.os
 tape:=hw.tape
 output:=hw.output

theorem take_rel (hx:Rel x) (hn:¬x.K nw) (hi:x.s.get i=some o) (hw:Wrote x.w w' (x.ρ i).1) (ho:tU (x.take i nw base o' w') (x.ρ i).1 base o'):Rel (x.take i nw base o' w') where
 lt:=fun j hj=>by
  simp only [Cx.take,S.next_add,S.next_del]
  rcases hj with rfl | hj
  ·omega
  ·have:=hx.lt j hj; omega
 live:=fun j p hj=>by
  simp only [Cx.take,S.get_add,S.get_del] at hj
  by_cases e:j=nw
  ·subst e
   rw [if_pos rfl] at hj; injection hj with hj; subst hj
   exact ⟨.inl rfl,by simpa [Cx.take,upd] using ho⟩
  ·rw [if_neg e] at hj
   by_cases e':j=i
   ·rw [if_pos e'] at hj; cases hj
   ·rw [if_neg e'] at hj
    have h:=hx.live j p hj
    refine ⟨.inr h.1,?_⟩
    have h2:=h.2.mono (take_le (base:=base) (o':=o') hx hn hi hw) (hw.keep _ fun h=>e' (hx.inj j i p o hj hi h))
    simpa [Cx.take,upd,e] using h2
 inj:=fun j k p q hj hk he=>by
  simp only [Cx.take,S.get_add,S.get_del] at hj hk
  simp only [Cx.take,upd] at he
  by_cases e:j=nw <;> by_cases e':k=nw
  ·omega
  ·rw [if_neg e'] at hk
   rw [if_pos e,if_neg e'] at he
   by_cases e'':k=i
   ·rw [if_pos e''] at hk; cases hk
   ·rw [if_neg e''] at hk
    exact absurd (hx.inj i k o q hi hk he).symm e''
  ·rw [if_neg e] at hj
   rw [if_neg e,if_pos e'] at he
   by_cases e'':j=i
   ·rw [if_pos e''] at hj; cases hj
   ·rw [if_neg e''] at hj
    exact absurd (hx.inj j i p o hj hi he) e''
  ·rw [if_neg e] at hj; rw [if_neg e'] at hk
   rw [if_neg e,if_neg e'] at he
   by_cases e1:j=i
   ·rw [if_pos e1] at hj; cases hj
   ·by_cases e2:k=i
    ·rw [if_pos e2] at hk; cases hk
    ·rw [if_neg e1] at hj; rw [if_neg e2] at hk
     exact hx.inj j k p q hj hk he
 room:=fun b hb=>by simpa [Cx.take,hw.size] using hx.room b hb
 apart:=fun j p hj=>by
  simp only [Cx.take,S.get_add,S.get_del,upd] at hj ⊢
  by_cases e:j=nw
  ·rw [if_pos e]; exact hx.apart i o hi
  ·rw [if_neg e] at hj ⊢
   by_cases e':j=i
   ·rw [if_pos e'] at hj; cases hj
   ·rw [if_neg e'] at hj; exact hx.apart j p hj
end

/-! stores -/
theorem getElem?_setCell (w:World) (b o:Nat) (v:Value) {C:Array Value} {t:TypeId} {fr:Nat×Nat} (h:w.heap[b]?=some (.cells C t fr)) :
  (w.setCell ⟨b,o,none⟩ v).heap[b]?=some (.cells (C.setIfInBounds o v) t fr):=by
 simp [World.setCell,Array.getElem?_modify,h]

/-- A list of cells stored side by side. -/
theorem ww {P:Program}:∀(vs:List Value) (w:World) (b o:Nat) (i:Nat) (C:Array Value) (t:TypeId) (lo hi:Nat),
  w.heap[b]?=some (.cells C t (lo,hi))→(∀c∈vs,c.oneCell'=true)→(∀k,k<vs.length→o+i+k<C.size∧¬(lo≤o+i+k∧o+i+k<hi)) →
  ∃w' C',(storeCells ⟨b,o,none⟩ vs i).run P w=.ok () w'∧Wrote w w' b∧w'.heap[b]?=some (.cells C' t (lo,hi))∧C'.size=C.size ∧
   ∀j,C'[j]?=if o+i≤j∧j<o+i+vs.length then vs[j - (o+i)]? else C[j]?
 | [],w,b,o,i,C,t,lo,hi,h,_,_=>⟨w,C,by simp [storeCells],.refl _ _,h,rfl,fun j=>by simp; omega⟩
 | v::vs,w,b,o,i,C,t,lo,hi,h,h1,h2=>by
  have hk:=h2 0 (by simp)
  have ha:(⟨b,o,none⟩:Addr).add i=⟨b,o+i,none⟩:=by
   unfold Addr.add; split
   ·subst_vars; rfl
   ·rfl
  have hc:w.cell? ⟨b,o+i,none⟩=some (C[o+i]'(by omega)):=by
   have hlt:o+i<C.size:=by omega
   simp [World.cell?,h,Array.getElem?_eq_getElem hlt]
  have hf:w.frozen? ⟨b,o+i,none⟩=false:=by
   simp only [World.frozen?,h]
   simp only [Nat.add_zero] at hk
   rcases hk with ⟨_,hk⟩
   simp only [Bool.and_eq_false_iff,decide_eq_false_iff_not]
   omega
  have hw:=wrote_setCell w ⟨b,o+i,none⟩ v
  have hb:=getElem?_setCell w b (o+i) v h
  obtain ⟨w',C',hr,hw',hb',hs,hg⟩:=ww (P:=P) vs (w.setCell ⟨b,o+i,none⟩ v) b o (i+1) _ t lo hi hb
   (fun c hc=>h1 c (List.mem_cons_of_mem _ hc)) (fun k hk=>by
    have:=h2 (k+1) (by simpa using hk)
    simp only [Array.size_setIfInBounds]
    constructor
    ·omega
    ·have:=this.2; omega)
  refine ⟨w',C',?_,hw.trans hw',hb',by simpa using hs,fun j=>?_⟩
  ·simp only [storeCells,Sem.run_bind,ha]
   rw [run_store P w _ v .plain (h1 v (by simp))]
   simp only [hc,hf,Bool.false_eq_true,if_false,Result.andThen_ok]
   exact hr
  ·rw [hg j]
   by_cases e:j=o+i
   ·subst e
    have hlt:o+i<C.size:=by omega
    rw [if_neg (by omega),if_pos (by simp),Array.getElem?_setIfInBounds]
    simp [hlt]
   ·rw [Array.getElem?_setIfInBounds]
    by_cases e2:o+(i+1)≤j∧j<o+(i+1)+vs.length
    ·rw [if_pos e2,if_pos (by simp only [List.length_cons]; omega)]
     have:j - (o+i)=(j - (o+(i+1)))+1:=by omega
     rw [this,List.getElem?_cons_succ]
    ·have e3:¬(o+i≤j∧j<o+i+(v::vs).length):=by simp only [List.length_cons]; omega
     rw [if_neg e2,if_neg e3,if_neg (Ne.symm e)]

end Go.Proofs.YtchlfjhbijmdiaaGreatDoor.Ai

namespace Go.Proofs.YtchlfjhbijmdiaaGreatDoor.Ai
open Go.RowKit (Below)

structure TyOk (P:Program) (t:TypeId) (a:ATy):Prop where
 und:P.underlying t=some a.und
 info:∃i z,P.info? t=some i∧i.size=a.size∧i.bytes=a.bytes∧i.zero=some z∧(∃k,yf k z=some a.zero)∧z.cells.size=a.size
 flat:a.flat=true→flatT P t=true

/-- The package-level variables that are known. -/
def GOk (cfg:Cfg) (x:Cx):Prop:=∀g cs,cfg.glob g=some cs→∃vs,held x g 0 vs∧RepL x cs vs

/-- A function that gives this value for these arguments, and leaves all as it is. -/
def zx (P:Program) (cfg:Cfg) (f:FuncId) (args:List V) (v:V):Prop :=
 ∀(x:Cx) (cargs:List Value),GOk cfg x→Rel x→RepL x args cargs→Calls P f cargs.toArray x.w fun E w'=>∃y c,y.w=w'∧x.le y∧Rel y∧y.s=x.s∧y.K=x.K∧E=.returned c∧Rep y v c

/-- A method that is known. -/
def MethOk (P:Program) (t:TypeId) (name:String) (f:FuncId) (e:Option TypeId):Prop :=
 ∃i m u pr,P.info? t=some i∧i.methods.find? (·.name == name)=some m∧P.underlying t=some u∧m.path=#[]∧m.func=some (f,pr) ∧
  match e with
  | none=>(pr=true∧∃b,u=.pointer b)∨(pr=false∧∀b,u≠.pointer b)
  | some b=>pr=false∧u=.pointer b

/-- A function that gives something new, with a slice that nobody else has. -/
def yK (P:Program) (cfg:Cfg) (f:FuncId) (args:List V) (v:V):Prop :=
 ∀(x:Cx) (cargs:List Value) (nw:Nat) (v':V) (s':S),GOk cfg x→Rel x→¬x.K nw→RepL x args cargs→zA cfg nw f v x.s=some (v',s') →
  Calls P f cargs.toArray x.w fun E w'=>∃y c,y.w=w'∧x.le y∧Rel y∧y.s=s'∧(∀i,y.K i→x.K i∨i=nw)∧E=.returned c∧Rep y v' c

structure Cfg.Ok (P:Program) (cfg:Cfg):Prop where
 fn:∀f fn,cfg.fn f=some fn→P.funcs[f]?=some fn
 draws:∀f fn c,cfg.fn f=some fn→fn.body=some c→yb cfg c=true
 ty:∀t a,cfg.ty t=some a→TyOk P t a
 lies:∀e n off u,cfg.lies e n off u=true→liesAt P P.depth e (n / P.cellsOf e) off u 1=true
 mixed:P.follows .mixedOrders=true
 tab:∀f args v,cfg.tab f args=some v→zx P cfg f args v
 meth:∀t name f e,cfg.meth t name=some (f,e)→MethOk P t name f e
 ftab:∀f args v,cfg.ftab f args=some v→yK P cfg f args v
 gfree:∀g cs,cfg.glob g=some cs→V.freeL cs=true
 names:∀f fn,cfg.fn f=some fn→(fn.name == "runtime.NumGoroutine")=false
 ext10:∀f fn,cfg.fn f=some fn→fn.body=none→cfg.pure f=10→∀args w,(callFunc f args).run P w=((Extern.AbiNoEscape.same args).run P w).andThen fun v w=>.ok (.value v) w
 ext11:∀f fn,cfg.fn f=some fn→fn.body=none→cfg.pure f=11→∀args w,(callFunc f args).run P w=((Extern.BytealgCompare.compare args).run P w).andThen fun v w=>.ok (.value v) w
 ext12:∀f fn,cfg.fn f=some fn→fn.body=none→cfg.pure f=12→∀args w,(callFunc f args).run P w=((Extern.BytealgIndexByte.indexByte args).run P w).andThen fun v w=>.ok (.value v) w

theorem GOk.mono {cfg:Cfg} {x y:Cx} (h:x.le y) (hg:GOk cfg x):GOk cfg y :=
 fun g cs hc=>let ⟨vs,h1,h2⟩:=hg g cs hc; ⟨vs,h1.mono h,h2.mono h⟩

theorem mapM_some {α β:Type} (f:α→Option β):∀(l:List α) (r:List β),l.mapM f=some r→l.length=r.length∧∀(j:Nat) (b:β),r[j]?=some b→∃a,l[j]?=some a∧f a=some b
 | [],r,h=>by simp at h; subst h; simp
 | a::l,r,h=>by
  simp only [List.mapM_cons,Option.bind_eq_bind,Option.bind_eq_some_iff,Option.pure_def,Option.some.injEq] at h
  obtain ⟨b,hb,r',hr,rfl⟩:=h
  obtain ⟨h1,h2⟩:=mapM_some f l r' hr
  refine ⟨by simp [h1],fun j c hj=>?_⟩
  cases j with
  | zero=>simp at hj; subst hj; exact ⟨a,by simp,hb⟩
  | succ j=>simpa using h2 j c (by simpa using hj)

theorem RepL.of_get {x:Cx}:∀{l:List V} {m:List Value},l.length=m.length→(∀(j:Nat) (v:V),l[j]?=some v→∃c,m[j]?=some c∧Rep x v c)→RepL x l m
 | [],[],_,_=>.nil
 | v::l,c::m,hl,h=>by
  obtain ⟨c',hc,hv⟩:=h 0 v (by simp)
  simp at hc; subst hc
  exact .cons hv (RepL.of_get (by simpa using hl) fun j v hj=>by simpa using h (j+1) v (by simpa using hj))

theorem wD {x:Cx}:∀(k:Nat) (c:Value) (v:V),yf k c=some v→Rep x v c
 | k,.bool b,v,h=>by cases k <;> (simp [yf] at h; subst h; exact .bool b)
 | k,.int i n,v,h=>by cases k <;> (simp [yf] at h; subst h; exact .int i n)
 | k,.string s,v,h=>by cases k <;> (simp [yf] at h; subst h; exact .str s)
 | k,.pointer none,v,h=>by cases k <;> (simp [yf] at h; subst h; exact .nilp)
 | k,.pointer (some a),v,h=>by cases k <;> simp [yf] at h
 | k,.slice a n c,v,h=>by
  cases k <;> (unfold yf at h; split at h <;> simp_all) <;> (obtain ⟨rfl,rfl,rfl⟩:=‹_∧_›; subst_vars; exact .nils)
 | k,.map none,v,h=>by cases k <;> (simp [yf] at h; subst h; exact .nilm)
 | k,.map (some r),v,h=>by cases k <;> simp [yf] at h
 | k,.nilFunc,v,h=>by cases k <;> (simp [yf] at h; subst h; exact .nilf)
 | k,.nilIface,v,h=>by cases k <;> (simp [yf] at h; subst h; exact .nili)
 | 0,.agg _,v,h=>by simp [yf] at h
 | k+1,.agg cs,v,h=>by
  simp only [yf,Option.map_eq_some_iff] at h
  obtain ⟨l,hl,rfl⟩:=h
  obtain ⟨h1,h2⟩:=mapM_some _ _ _ hl
  exact .agg (RepL.of_get h1.symm fun j v hj=>let ⟨a,ha,hf⟩:=h2 j v hj; ⟨a,ha,wD k a v hf⟩)
 | 0,.tuple _,v,h=>by simp [yf] at h
 | k+1,.tuple cs,v,h=>by
  simp only [yf,Option.map_eq_some_iff] at h
  obtain ⟨l,hl,rfl⟩:=h
  obtain ⟨h1,h2⟩:=mapM_some _ _ _ hl
  exact .tup (RepL.of_get h1.symm fun j v hj=>let ⟨a,ha,hf⟩:=h2 j v hj; ⟨a,ha,wD k a v hf⟩)
 | 0,.iface _ _,v,h=>by simp [yf] at h
 | k+1,.iface t c,v,h=>by
  simp only [yf,Option.map_eq_some_iff] at h
  obtain ⟨l,hl,rfl⟩:=h
  exact .iface t (wD k c l hl)
 | k,.float _ _,v,h=>by cases k <;> simp [yf] at h
 | k,.complex _ _ _,v,h=>by cases k <;> simp [yf] at h
 | k,.chan _,v,h=>by cases k <;> simp [yf] at h
 | k,.func _ _ _,v,h=>by cases k <;> simp [yf] at h

/-! operands -/
theorem xo {P:Program} {cfg:Cfg} {x:Cx} (hg:GOk cfg x) {tmps:List V} {a:Act} (ht:RepL x tmps a.tmps.toList) {o:Operand} {v:V} (h:ev cfg tmps o=some v):Rep x v (a.eval o):=by
 cases o with
 | tmp t =>
  simp only [ev,vL] at h
  obtain ⟨c,hc,hr⟩:=ht.get t v h
  have:a.tmps.getD t undef=c:=by
   rw [Array.getElem?_toList] at hc
   simp [hc]
  simpa [Act.eval,this] using hr
 | const c=>exact wD 3 c v h
 | global g =>
  simp only [ev,Option.map_eq_some_iff] at h
  obtain ⟨cs,hc,rfl⟩:=h
  obtain ⟨vs,h1,h2⟩:=hg g cs hc
  exact .cptr g 0 0 h1 h2
 | func f =>
  simp only [ev,Option.some.injEq] at h
  subst h
  exact .func (.func f) .nil .nil

theorem uZ {P:Program} {cfg:Cfg} {x:Cx} (hg:GOk cfg x) {tmps:List V} {a:Act} (ht:RepL x tmps a.tmps.toList):∀{os:List Operand} {vs:List V},evL cfg tmps os=some vs→RepL x vs (os.map a.eval)
 | [],vs,h=>by simp [evL] at h; subst h; exact .nil
 | o::os,vs,h=>by
  simp only [evL] at h
  split at h
  ·rename_i v r h1 h2
   injection h with h; subst h
   exact .cons (xo (P:=P) hg ht h1) (uZ (P:=P) hg ht h2)
  ·cases h

/-! types -/
section
variable {P:Program} {t:TypeId} {a:ATy} (w:World)
theorem TyOk.run_und (h:TyOk P t a):(underlying t).run P w=.ok a.und w:=run_underlying h.und w
theorem TyOk.run_size (h:TyOk P t a):(sizeOf t).run P w=.ok a.size w:=by
 obtain ⟨i,z,h1,h2,_⟩:=h.info
 simp [sizeOf,typeInfo,h1,h2]
theorem TyOk.run_info (h:TyOk P t a):∃i,(typeInfo t).run P w=.ok i w∧i.size=a.size∧i.bytes=a.bytes∧P.info? t=some i:=by
 obtain ⟨i,z,h1,h2,h3,_⟩:=h.info
 exact ⟨i,by simp [typeInfo,h1],h2,h3,h1⟩
theorem TyOk.run_zero (h:TyOk P t a):∃z,(zeroValue t).run P w=.ok z w∧(∀x,Rep x a.zero z)∧z.cells.size=a.size:=by
 obtain ⟨i,z,h1,h2,h3,h4,⟨k,h5⟩,h6⟩:=h.info
 exact ⟨z,by simp [zeroValue,typeInfo,h1,h4],fun x=>wD k z _ h5,h6⟩
theorem TyOk.run_agg (h:TyOk P t a):(isAgg t).run P w=.ok (zS a.und) w:=by
 simp only [isAgg,Sem.run_bind,h.run_und w,Result.andThen_ok]
 cases a.und <;> simp [zS]
end

/-! loads -/
theorem yG (b o n:Nat):(⟨b,o,none⟩:Addr).add n=⟨b,o+n,none⟩:=by
 unfold Addr.add; split
 ·subst_vars; rfl
 ·rfl

/-- What stands at an address. -/
def at_ (w:World) (b o:Nat) (vs:List Value):Prop:=∀(j:Nat) (c:Value),vs[j]?=some c→w.cell? ⟨b,o+j,none⟩=some c

theorem at_.drop {w:World} {b o:Nat} {vs:List Value} (h:at_ w b o vs) (n:Nat):at_ w b (o+n) (vs.drop n):=fun j c hj=>by
 rw [List.getElem?_drop] at hj
 have:=h (n+j) c hj
 rwa [show o+n+j=o+(n+j) by omega]

theorem at_.take {w:World} {b o:Nat} {vs:List Value} (h:at_ w b o vs) (n:Nat):at_ w b o (vs.take n):=fun j c hj=>by
 rw [List.getElem?_take] at hj
 split at hj
 ·exact h j c hj
 ·cases hj

theorem held.at {x:Cx} {b o:Nat} {vs:List Value} (h:held x b o vs):at_ x.w b o vs:=h.2.2

theorem uM {x:Cx} {b base:Nat} {cs:List V} {frz:Nat} {ty:TypeId} {ex:Bool} (h:tU x b base (.cells cs frz ty ex)):∃vs,RepL x cs vs∧at_ x.w b base vs:=by
 obtain ⟨C,lo,hi,vs,h1,h2,h3,_⟩:=h
 exact ⟨vs,h2,fun j c hj=>by simp [World.cell?,h1,h3 j c hj]⟩

theorem run_loadAt {P:Program} {x:Cx} {t:TypeId} {a:ATy} (ht:TyOk P t a) {cs:List V} {vs:List Value} {b o off:Nat} {v:V} (hl:RepL x cs vs) (hat:at_ x.w b o vs)
  (h:sub cs off a.size (zS a.und)=some v):∃c,(Instr.loadAt t (.pointer (some ⟨b,o+off,none⟩))).run P x.w=.ok c x.w∧Rep x v c:=by
 simp only [Instr.loadAt,Instr.sureAddr,Sem.run_bind,Sem.run_pure,Result.andThen_ok,loadVar,ht.run_agg]
 unfold sub at h
 split at h
 ·rename_i hag
  split at h
  ·rename_i hle
   injection h with h; subst h
   have hl2:=(hl.drop off).take a.size
   have hlen:((vs.drop off).take a.size).length=a.size:=by
    have:=hl.length
    rw [List.length_take,List.length_drop]; omega
   have hr:=run_loadCells_list (P:=P) x.w ⟨b,o+off,none⟩ ((vs.drop off).take a.size) (fun j c hj=>by rw [yG]; exact ((hat.drop off).take a.size) j c hj)
   rw [hlen] at hr
   refine ⟨.agg ((vs.drop off).take a.size).toArray,?_,.agg (by simpa using hl2)⟩
   simp [hag,ht.run_size,hr]
  ·cases h
 ·rename_i hag
  obtain ⟨c,hc,hv⟩:=hl.get off v h
  refine ⟨c,?_,hv⟩
  have:=hat off c hc
  simp [hag,this]

theorem aLoad_ok {P:Program} {x:Cx} (hx:Rel x) {t:TypeId} {a:ATy} (ht:TyOk P t a) {p v:V} {c:Value} (hp:Rep x p c) (h:zt x.s a.size (zS a.und) p=some v) :
  ∃c',(Instr.loadAt t c).run P x.w=.ok c' x.w∧Rep x v c':=by
 unfold zt at h
 split at h
 ·rename_i id off
  split at h
  ·rename_i cs _ _ _ hg
   cases hp
   obtain ⟨vs,hl,hat⟩:=uM (hx.live id _ hg).2
   exact run_loadAt ht hl hat h
  ·cases h
 ·rename_i cs off
  cases hp with
  | cptr b o _ hh hl=>exact run_loadAt ht hl hh.at h
 ·cases h

/-! stores -/
theorem splice_rep {x:Cx} {cs:List V} {vs:List Value} (hl:RepL x cs vs) {off:Nat} {us:List V} {ws:List Value} (hu:RepL x us ws):RepL x (zl cs off us) (vs.take off++ws++vs.drop (off+ws.length)):=by
 unfold zl
 rw [hu.length]
 exact ((hl.take off).append hu).append (hl.drop _)

/-- Cells of an object written. -/
theorem write_ok {P:Program} {x:Cx} (hx:Rel x) {id off frz:Nat} {cs:List V} {ty:TypeId} {ex:Bool} (hg:x.s.get id=some (.cells cs frz ty ex)) {us:List V} {ws:List Value} (hu:RepL x us ws)
  (h1:us.all V.one=true) (h2:off+us.length≤cs.length) (h3:frz≤off) :
  ∃w',(storeCells ⟨(x.ρ id).1,(x.ρ id).2+off,none⟩ ws).run P x.w=.ok () w'∧x.le (x.putc id (.cells (zl cs off us) frz ty ex) w')∧Rel (x.putc id (.cells (zl cs off us) frz ty ex) w'):=by
 obtain ⟨C,lo,hi,vs,hb,hl,hpre,hfr,hex⟩:=(hx.live id _ hg).2
 have hlen:=hl.length
 have hlen2:=hu.length
 have hC:∀k,k<cs.length→(x.ρ id).2+k<C.size:=fun k hk=>by
  have h:vs[k]?=some (vs[k]'(by omega)):=List.getElem?_eq_getElem (by omega)
  have:=hpre k _ h
  exact (Array.getElem?_eq_some_iff.1 this).1
 obtain ⟨w',C',hr,hw,hb',hs,hgj⟩:=ww (P:=P) ws x.w (x.ρ id).1 ((x.ρ id).2+off) 0 C ty lo hi hb (hu.ones h1) (fun k hk=>by
  have hlt:=hC (off+k) (by omega)
  refine ⟨by omega,fun ⟨ha,hb⟩=>?_⟩
  have:=hfr _ (by omega) ha hb
  omega)
 have hle:=vJ (o':=.cells (zl cs off us) frz ty ex) hg hw
 refine ⟨w',hr,hle,wR hx hg hw ⟨C',lo,hi,vs.take off++ws++vs.drop (off+ws.length),hb',(splice_rep hl hu).mono hle,fun j c hj=>?_,fun o ho=>by rw [hs] at ho; exact hfr o ho,fun he=>?_⟩⟩
 ·rw [hgj]
  simp only [Nat.add_zero]
  have hto:(vs.take off).length=off:=by rw [List.length_take]; omega
  by_cases e1:j<off
  ·rw [if_neg (by omega)]
   apply hpre
   rw [List.append_assoc,List.getElem?_append_left (by omega)] at hj
   rw [List.getElem?_take] at hj
   simpa [e1] using hj
  ·by_cases e2:j<off+ws.length
   ·rw [if_pos (by omega)]
    rw [List.append_assoc,List.getElem?_append_right (by omega),List.getElem?_append_left (by omega),hto] at hj
    rw [← hj]; congr 1; omega
   ·rw [if_neg (by omega)]
    apply hpre
    rw [List.getElem?_append_right (by rw [List.length_append]; omega),List.getElem?_drop] at hj
    rw [← hj]; congr 1; rw [List.length_append]; omega
 ·obtain ⟨h5,h6⟩:=hex he
  refine ⟨h5,?_⟩
  rw [hs,h6]
  simp only [zl,List.length_append,List.length_take,List.length_drop]
  omega

theorem aStore_ok {P:Program} {x:Cx} (hx:Rel x) {t:TypeId} {a:ATy} (ht:TyOk P t a) {p v:V} {cp cv:Value} (hp:Rep x p cp) (hv:Rep x v cv) {s':S} (h:zr x.s a.size p v=some s') :
  ∃y,(Instr.storeAt t cp cv).run P x.w=.ok () y.w∧x.le y∧Rel y∧y.s=s'∧y.K=x.K:=by
 unfold zr at h
 split at h
 ·rename_i id off
  split at h
  ·rename_i cs frz ty ex hg
   split at h
   ·rename_i hc
    obtain ⟨h1,h2,h3,h4⟩:=hc
    injection h with h; subst h
    cases hp
    have hcl:=hv.cells
    obtain ⟨w',hr,hle,hrel⟩:=write_ok (P:=P) hx hg hcl h4 (by omega) h3
    refine ⟨_,?_,hle,hrel,rfl,rfl⟩
    have hsz:cv.cells.size=a.size:=by
     have h6:=hcl.length
     simp only [Array.length_toList] at h6
     exact h6.symm.trans h1
    simp only [Instr.storeAt,Instr.sureAddr,Sem.run_bind,Sem.run_pure,Result.andThen_ok,storeVar,ht.run_size,hsz]
    simpa [Cx.putc] using hr
   ·cases h
  ·cases h
 ·cases h

end Go.Proofs.YtchlfjhbijmdiaaGreatDoor.Ai

