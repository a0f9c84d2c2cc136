/- Part of a reckoning of a Go program over abstract values, proved sound against the model. -/
import Derived.Test.YtchlfjhbijmdiaaGreatDoorAiT6
set_option linter.unusedSimpArgs false
set_option linter.unusedVariables false
namespace Go.Proofs.YtchlfjhbijmdiaaGreatDoor.Ai
noncomputable section
open Go.RowKit (Below)
set_option maxRecDepth 100000

/-- What is known of a program, by tables. -/
noncomputable def stg (P:Program) (mask:Nat) (glob:Nat→Option (List V)) (pure:List (Nat×Nat)) (raw:List Nat) (fresh:FuncId→Option (TypeId×Option Nat)) (e f:List (FuncId×(List V→Option V))):Cfg:=(wc P mask glob pure raw (xi e)).withF fresh (xi f)

theorem stg_ok {P:Program} {mask:Nat} {glob:Nat→Option (List V)} {pure:List (Nat×Nat)} {raw:List Nat} {fresh:FuncId→Option (TypeId×Option Nat)} {e f:List (FuncId×(List V→Option V))} {c0:Cfg} (hm:P.follows .mixedOrders=true) (hg:∀g cs,glob g=some cs→V.freeL cs=true)
  (hf:vc P (wc P mask glob pure raw (fun _ _=>none))=true) (hx:xN P pure=true) (h0:c0.glob=glob) (he:xa P c0 e) (hfr:FtOk P (stg P mask glob pure raw fresh [] []) f):(stg P mask glob pure raw fresh e f).Ok P:=by
 refine withF_ok (mkCfg_tab hm hg hf hx (he.cfg h0.symm)) fun g args v h=>?_
 exact (hfr.at h).cfg rfl rfl rfl

section
variable {P:Program} {cfg:Cfg} {cf:CF} {sl:Bool} {sp:List (FuncId×SpE)}
theorem fresh_run (hc:cfg.Ok P) (hcf:wv P cfg cf) (hsp:∀f e,(f,e)∈sp→tR P cfg f e) {n:Nat} {f:FuncId} {fn:Func} {c:AC} {args:List V} {v:V} {t:TypeId} {pos:Option Nat} {b:ATy} (hf:P.funcs[f]?=some fn) (hb:fn.body=some c.code) (hn:fn.ntmps=n) (hfit:c.fits n=true) (ha:args.length≤n)
  (hfr:cfg.fresh f=some (t,pos)) (ht:cfg.ty t=some b)
  (h:∀s,s.wf→yd cfg cf sl sp n c (argsE 0 args) s (FinK cfg fn.results.toList (fun v0 s0=>s.keeps s0∧FreshV t b pos s s0 v v0) fun _ _=>False)):yK P cfg f args v:=by
 subst hn
 refine fresh_of hfr ht fun x cargs hg hx hargs=>?_
 have hw:x.s.wf:=fun i hi=>by
  cases ho:x.s.get i with
  | none=>rfl
  | some o=>have:=hx.lt i (hx.live i o ho).1; omega
 refine callW_ok (k:=0) (sl:=sl) hc hcf (spAt_ok hsp) hf hb hg hx hargs ?_
 exact runC_ok c _ _ _ hfit (h x.s hw) [] (initT args fn.ntmps) _ (wV _ _ ha) (has_args _ _ ha) fun e E' tm' s' h1 h2 h3=>fin_ok h2 h3
end

theorem FreshV_list {t:TypeId} {b:ATy} {s s0:S} {es:List V} {v0:V}:FreshV t b none s s0 (.list es) v0=(Own t s s0 v0 (es.flatMap V.cells) es.length b.size (zS b.und)∧V.freeL es=true):=rfl
@[simp] theorem flatv_int (k:IntKind) (n:Int):(V.int k n).flatv=true:=rfl
@[simp] theorem flatv_vI (n:Int):(vI n).flatv=true:=rfl
@[simp] theorem flatv_bool (b:Bool):(V.bool b).flatv=true:=rfl
@[simp] theorem flatv_str (b:ByteArray):(V.str b).flatv=true:=rfl
end
end Go.Proofs.YtchlfjhbijmdiaaGreatDoor.Ai

namespace Go.Proofs.YtchlfjhbijmdiaaGreatDoor.Ai
noncomputable section
open Go.RowKit (Below)
set_option maxRecDepth 100000

/-! what a call leaves behind is forgotten, but for what is told -/
mutual
/-- All that is named here lies below a number. -/
def V.bel (n:Nat):V→Bool
 | .ptr id _=>decide (id<n)
 | .arr id _ _ _ _ _=>decide (id<n)
 | .map id=>decide (id<n)
 | .yield id=>decide (id<n)
 | .cptr cs _=>V.belL n cs
 | .list es=>V.belL n es
 | .func _ a b=>V.belL n a && V.belL n b
 | .iface _ v=>V.bel n v
 | .agg cs=>V.belL n cs
 | .tup cs=>V.belL n cs
 | _=>true
def V.belL (n:Nat):List V→Bool
 | []=>true
 | v::l=>V.bel n v && V.belL n l
end
def O.bel (n:Nat):O→Bool
 | .cells cs _ _ _=>V.belL n cs
 | .map es _=>es.all fun e=>e.1.bel n && e.2.1.bel n
 | .iter (some id) _ _ _=>decide (id<n)
 | .loop _ _ tm _ _ _=>V.belL n tm
 | _=>true
theorem belL_append (n:Nat):∀(l m:List V),V.belL n (l++m)=(V.belL n l && V.belL n m)
 | [],m=>by simp [V.belL]
 | v::l,m=>by simp [V.belL,belL_append n l m,Bool.and_assoc]
theorem bel_cells (n:Nat) (v:V):V.belL n v.cells=v.bel n:=by
 cases v <;> simp [V.cells,V.belL,V.bel]
theorem belL_flat (n:Nat):∀(es:List V),V.belL n (es.flatMap V.cells)=V.belL n es
 | []=>rfl
 | v::l=>by rw [List.flatMap_cons,belL_append,bel_cells,belL_flat n l]; simp [V.belL]
theorem belL_map {α:Type} (g:α→V) (n:Nat) (h:∀a,(g a).bel n=true):∀l:List α,V.belL n (l.map g)=true
 | []=>rfl
 | a::l=>by simp [V.belL,h a,belL_map g n h l]

mutual
theorem Rep.bel {x:Cx} {n:Nat} (hk:∀i,x.K i→i<n) {v:V} {c:Value}:Rep x v c→v.bel n=true
 | .bool b=>rfl
 | .int k n=>rfl
 | .str s=>rfl
 | .nilp=>rfl
 | .ptr id off h=>by simp [V.bel,hk id h]
 | .cptr b o off hh hl=>by simp [V.bel,RepL.bel hk hl]
 | .list b o cap sz hh hl hc he=>by
  have:=RepL.bel hk hl
  rw [belL_flat] at this
  simpa [V.bel] using this
 | .lempty a cap=>rfl
 | .nils=>rfl
 | .arr id off len sz ag cp o cap n h h1 h2 h3 h4 h5=>by simp [V.bel,hk id h]
 | .map id h=>by simp [V.bel,hk id h]
 | .nilm=>rfl
 | .yield id h=>by simp [V.bel,hk id h]
 | .func fn ha hb=>by simp [V.bel,RepL.bel hk ha,RepL.bel hk hb]
 | .nilf=>rfl
 | .iface t hv=>by simp [V.bel,Rep.bel hk hv]
 | .nili=>rfl
 | .agg hl=>by simp [V.bel,RepL.bel hk hl]
 | .tup hl=>by simp [V.bel,RepL.bel hk hl]
theorem RepL.bel {x:Cx} {n:Nat} (hk:∀i,x.K i→i<n) {l:List V} {m:List Value}:RepL x l m→V.belL n l=true
 | .nil=>rfl
 | .cons hv hl=>by simp [V.belL,Rep.bel hk hv,RepL.bel hk hl]
end

def Cx.cut (y:Cx) (n:Nat) (s:S):Cx:=⟨y.w,y.ρ,fun i=>y.K i∧i<n,s,y.B⟩
theorem held.cut {y:Cx} {n:Nat} {s:S} (ho:∀b,(y.cut n s).own b→y.own b) {b o:Nat} {vs:List Value} (h:held y b o vs):held (y.cut n s) b o vs :=
 ⟨h.1,fun k=>h.2.1 (k.imp id (ho b)),h.2.2⟩
mutual
theorem Rep.cut {y:Cx} {n:Nat} {s:S} (ho:∀b,(y.cut n s).own b→y.own b) {v:V} {c:Value}:Rep y v c→v.bel n=true→Rep (y.cut n s) v c
 | .bool b,_=>.bool b
 | .int k n,_=>.int k n
 | .str s,_=>.str s
 | .nilp,_=>.nilp
 | .ptr id off hk,h=>by
  simp only [V.bel,decide_eq_true_eq] at h
  exact Rep.ptr (x:=y.cut n s) id off ⟨hk,h⟩
 | .cptr b o off hh hl,h=>.cptr b o off (hh.cut ho) (RepL.cut ho hl (by simpa [V.bel] using h))
 | .list (es:=es) b o cap sz hh hl hc he,h=>.list b o cap sz (hh.cut ho) (RepL.cut ho hl (by rw [belL_flat]; simpa [V.bel] using h)) hc he
 | .lempty a cap,_=>.lempty a cap
 | .nils,_=>.nils
 | .arr id off len sz ag cp o cap m hk h1 h2 h3 h4 h5,h=>by
  simp only [V.bel,decide_eq_true_eq] at h
  exact Rep.arr (x:=y.cut n s) id off len sz ag cp o cap m ⟨hk,h⟩ h1 h2 h3 h4 h5
 | .map id hk,h=>by
  simp only [V.bel,decide_eq_true_eq] at h
  exact Rep.map (x:=y.cut n s) id ⟨hk,h⟩
 | .nilm,_=>.nilm
 | .yield id hk,h=>by
  simp only [V.bel,decide_eq_true_eq] at h
  exact Rep.yield (x:=y.cut n s) id ⟨hk,h⟩
 | .func fn ha hb,h=>by
  simp only [V.bel,Bool.and_eq_true] at h
  exact .func fn (RepL.cut ho ha h.1) (RepL.cut ho hb h.2)
 | .nilf,_=>.nilf
 | .iface t hv,h=>.iface t (Rep.cut ho hv (by simpa [V.bel] using h))
 | .nili,_=>.nili
 | .agg hl,h=>.agg (RepL.cut ho hl (by simpa [V.bel] using h))
 | .tup hl,h=>.tup (RepL.cut ho hl (by simpa [V.bel] using h))
theorem RepL.cut {y:Cx} {n:Nat} {s:S} (ho:∀b,(y.cut n s).own b→y.own b) {l:List V} {m:List Value}:RepL y l m→V.belL n l=true→RepL (y.cut n s) l m
 | .nil,_=>.nil
 | .cons hv hl,h=>by
  simp only [V.belL,Bool.and_eq_true] at h
  exact .cons (Rep.cut ho hv h.1) (RepL.cut ho hl h.2)
end
theorem uA.bel {x:Cx} {n:Nat} (hk:∀i,x.K i→i<n) {es:List (V×V×Nat)} {E:List MapEntry} (h:uA x es E):(es.all fun e=>e.1.bel n && e.2.1.bel n)=true:=by
 refine List.all_eq_true.2 fun e he=>?_
 obtain ⟨j,hj⟩:=List.getElem?_of_mem he
 obtain ⟨m,_,h1,h2,_⟩:=h.2 j e hj
 simp [h1.bel hk,h2.bel hk]
theorem uA.cut {y:Cx} {n:Nat} {s:S} (ho:∀b,(y.cut n s).own b→y.own b) {es:List (V×V×Nat)} {E:List MapEntry} (h:uA y es E) (hb:(es.all fun e=>e.1.bel n && e.2.1.bel n)=true):uA (y.cut n s) es E:=by
 refine ⟨h.1,fun j e hj=>?_⟩
 obtain ⟨m,hm,h1,h2,h3⟩:=h.2 j e hj
 have:=List.all_eq_true.1 hb e (List.mem_of_getElem? hj)
 simp only [Bool.and_eq_true] at this
 exact ⟨m,hm,h1.cut ho this.1,h2.cut ho this.2,h3⟩
theorem tU.bel {x:Cx} {n:Nat} (hk:∀i,x.K i→i<n) {b base:Nat} {o:O} (h:tU x b base o):o.bel n=true:=by
 cases o with
 | cells cs frz ty ex=>obtain ⟨C,lo,hi,vs,h1,h2,_⟩:=h; exact h2.bel hk
 | map es clock=>obtain ⟨E,h1,h2⟩:=h; exact h2.bel hk
 | iter m since seen last =>
  cases m with
  | none=>rfl
  | some id=>simp [O.bel,hk id h.2.1]
 | siter s pos=>rfl
 | dblk up=>rfl
 | loop st pd tm ps asg bd=>obtain ⟨h0,r,h1,h2,h3,h4,h5,h6,h7⟩:=h; exact h7.bel hk
theorem tU.cut {y:Cx} {n:Nat} {s:S} (ho:∀b,(y.cut n s).own b→y.own b) {b base:Nat} {o:O} (h:tU y b base o) (hb:o.bel n=true):tU (y.cut n s) b base o:=by
 cases o with
 | cells cs frz ty ex=>obtain ⟨C,lo,hi,vs,h1,h2,h3⟩:=h; exact ⟨C,lo,hi,vs,h1,h2.cut ho hb,h3⟩
 | map es clock=>obtain ⟨E,h1,h2⟩:=h; exact ⟨E,h1,h2.cut ho hb⟩
 | iter m since seen last =>
  cases m with
  | none=>exact h
  | some id=>exact ⟨h.1,⟨h.2.1,by simpa [O.bel] using hb⟩,h.2.2⟩
 | siter s pos=>exact h
 | dblk up=>exact h
 | loop st pd tm ps asg bd=>obtain ⟨h0,r,h1,h2,h3,h4,h5,h6,h7⟩:=h; exact ⟨h0,r,h1,h2,h3,h4,h5,h6,h7.cut ho hb⟩

/-- What is kept of a store: it lies below, and is as it was or names only what lies below. -/
def DropK (s s2 t:S):Prop:=s.next≤s2.next∧∀i o,s2.get i=some o→t.get i=some o∧i<s2.next∧(s.get i=some o∨o.bel s2.next=true)
theorem went_cut {x y:Cx} {nw:Nat} {s1 s2:S} (hx:Rel x) (h:Went x nw s1 y) (hd:DropK x.s s2 s1):∃z,z.w=y.w∧Went x nw s2 z∧∀v c,v.bel s2.next=true→Rep y v c→Rep z v c:=by
 obtain ⟨hn,hs⟩:=hd
 have hlt:∀i,x.K i→i<s2.next:=fun i hi=>Nat.lt_of_lt_of_le (hx.lt i hi) hn
 have hys:=h.s
 subst hys
 have ho:∀b,(y.cut s2.next s2).own b→y.own b:=fun b ⟨i,o,hi,hb⟩=>⟨i,o,(hs i o hi).1,hb⟩
 have hb:∀i o,s2.get i=some o→o.bel s2.next=true:=fun i o hi=>(hs i o hi).2.2.elim (fun h=>(hx.live i o h).2.bel hlt) id
 refine ⟨y.cut s2.next s2,rfl,⟨?_,?_,rfl,fun i hi=>h.grow i hi.1⟩,fun v c hv hr=>hr.cut ho hv⟩
 ·exact ⟨h.le.B,fun i hi=>⟨⟨(h.le.K i hi).1,hlt i hi⟩,(h.le.K i hi).2⟩,h.le.size,h.le.keep,h.le.csz,fun b hb' hob=>h.le.own b hb' (ho b hob),h.le.os,h.le.tape,h.le.output⟩
 ·exact ⟨fun i hi=>hi.2,fun i o hi=>⟨⟨(h.rel.live i o (hs i o hi).1).1,(hs i o hi).2.1⟩,(h.rel.live i o (hs i o hi).1).2.cut ho (hb i o hi)⟩,fun i j o p hi hj e=>h.rel.inj i j o p (hs i o hi).1 (hs j p hj).1 e,h.rel.room,fun i o hi=>h.rel.apart i o (hs i o hi).1⟩

/-- Calls of one function that changes the store as is told. -/
def CF1 (f:FuncId) (F:List V→S→Option (V×S)):CF:=⟨fun g args s=>if g=f then (F args s).map fun p=>(.ret p.1,p.2) else none,fun _ _ _=>none⟩
section
variable {cfg:Cfg} {cf:CF} {sl:Bool} {sp:List (FuncId×SpE)}
theorem cf_of {P:Program} (hc:cfg.Ok P) {n:Nat} (hcf:wv P cfg cf) (hsp:∀f e,(f,e)∈sp→tR P cfg f e) {f:FuncId} {fn:Func} {c:AC} {F:List V→S→Option (V×S)} (hf:P.funcs[f]?=some fn) (hb:fn.body=some c.code) (hn:fn.ntmps=n) (hfit:c.fits n=true)
  (h:∀args s v s2,F args s=some (v,s2)→s.wf→args.length≤n∧v.flatv=true∧yd cfg cf sl sp n c (argsE 0 args) s (FinK cfg fn.results.toList (fun w t=>w=v∧DropK s s2 t) fun _ _=>False)):wv P cfg (CF1 f F):=by
 subst hn
 refine ⟨fun x g fn' args cargs e s' hfn hg hx ha hcall=>?_,fun x id args cargs e s' _ _ _ _ hcall=>by cases hcall⟩
 simp only [CF1] at hcall
 split at hcall
 case isFalse=>cases hcall
 rename_i hgf
 subst hgf
 cases hF:F args x.s with
 | none=>rw [hF] at hcall; cases hcall
 | some p =>
  rw [hF] at hcall
  simp only [Option.map_some,Option.some.injEq,Prod.mk.injEq] at hcall
  obtain ⟨rfl,rfl⟩:=hcall
  have hw:x.s.wf:=fun i hi=>by
   cases ho:x.s.get i with
   | none=>rfl
   | some o=>have:=hx.lt i (hx.live i o ho).1; omega
  obtain ⟨hlen,hfl,h⟩:=h args x.s p.1 p.2 hF hw
  refine (callW_ok (k:=0) (sl:=sl) hc hcf (spAt_ok hsp) hf hb hg hx ha (runC_ok c _ _ _ hfit h [] (initT args fn.ntmps) _ (wV _ _ hlen) (has_args _ _ hlen) fun e E' tm' s' h1 h2 h3=>fin_ok h2 h3)).mono ?_
  rintro E w' ⟨y,rfl,he⟩
  cases E with
  | returned cv =>
   obtain ⟨v,t,hw,hn,hv,rfl,hd⟩:=he
   obtain ⟨z,hz,hwz,_⟩:=went_cut hx hw hd
   exact ⟨z,hz,hwz,hv.flatv hfl⟩
  | panicked d=>obtain ⟨ch,t,hw,hn,hv,hd⟩:=he; exact hd.elim
  | outgrown=>exact he.elim
end
end
end Go.Proofs.YtchlfjhbijmdiaaGreatDoor.Ai

