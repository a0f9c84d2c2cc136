/- Part of a reckoning of a Go program over abstract values, proved sound against the model. -/
import Derived.Test.YtchlfjhbijmdiaaGreatDoorAiB14
import Derived.Orders
import Derived.WalkSmall
import Derived.RangeFuncLeaves
import Derived.OrdersIn
import Derived.LoopNIn
set_option linter.unusedSimpArgs false
set_option linter.unusedVariables false
namespace Go.Proofs.YtchlfjhbijmdiaaGreatDoor.Ai
open Go.RowKit (Below)

/-- What holds of the context after an operation. -/
structure Went (x:Cx) (nw:Nat) (s':S) (y:Cx):Prop where
 le:x.le y
 rel:Rel y
 s:y.s=s'
 grow:∀i,y.K i→x.K i∨i=nw∨x.s.next≤i

theorem Went.same {x:Cx} (hx:Rel x) (nw:Nat):Went x nw x.s x:=⟨.refl x,hx,rfl,fun _ h=>.inl h⟩

def PRep (x:Cx) (c:List AP) (d:List PanicEntry):Prop :=
 c.length=d.length∧∀(j:Nat) (p:AP),c[j]?=some p→∃q:PanicEntry,d[j]?=some q∧Rep x p.v q.v∧q.recovered=p.rcv∧q.goexit=false

def DRep (x:Cx):DF→Deferred→Prop
 | .fn fn cp ar,d'=>∃cap args,d'.target=.fn fn cap∧d'.args=args∧RepL x cp cap.toList∧RepL x ar args.toList
 | .mark id,d'=>x.K id∧d'={ target:=.collected (x.ρ id).1,args:=#[] }

def EndOk (x:Cx):AE→Ending→Prop
 | .ret v,.returned c=>Rep x v c
 | .pan ch,.panicked d=>PRep x ch d
 | _,_=>False

def CallOk (P:Program) (cfg:Cfg) (cf:CallF):Prop :=
 ∀(x:Cx) (f:FuncId) (fn:Func) (args:List V) (cargs:List Value) (e:AE) (s':S),cfg.fn f=some fn→GOk cfg x→Rel x→RepL x args cargs→cf f args x.s=some (e,s') →
  Calls P f cargs.toArray x.w fun E w'=>∃y:Cx,y.w=w'∧Went x x.s.next s' y∧EndOk y e E

/-- A round of a range over a function. -/
def RoundOk (P:Program) (cfg:Cfg) (rd:Nat→List V→S→Option (AE×S)):Prop :=
 ∀(x:Cx) (id:Nat) (args:List V) (cargs:List Value) (e:AE) (s':S),GOk cfg x→Rel x→x.K id→RepL x args cargs→rd id args x.s=some (e,s') →
  ∃r:Loop,x.w.heap[(x.ρ id).1]?=some (.loop r)∧cargs.toArray.size=r.params.size ∧
   ∀n,RoundIn Fence.wide n P (x.ρ id).1 r.fn ((r.params.zip cargs.toArray).foldl (fun tmps (t,a)=>tmps.setIfInBounds t a) r.tmps) r.assign r.body x.w fun E w'=>∃y:Cx,y.w=w'∧Went x x.s.next s' y∧EndOk y e E

def wv (P:Program) (cfg:Cfg) (cf:CF):Prop:=CallOk P cfg cf.fn∧RoundOk P cfg cf.rd

/-- What must hold after an operation. -/
def Post (x:Cx) (nw:Nat) (a:Act) (dst:Option Tmp) (next:Act→World→Prop) (Q:Exit→Act→World→Prop):R→Prop
 | .val v s'=>∀y c,Went x nw s' y→Rep y v c→next (a.put dst c) y.w
 | .dfr d s'=>s'=x.s→∀d',DRep x d d'→next ({ a with defers:=d'::a.defers }.put dst undef) x.w
 | .pan ch s'=>∀y d,Went x nw s' y→PRep y ch d→Q (.panic d) a y.w

section
variable {P:Program} {cfg:Cfg} {x:Cx} {o:Oper} {a:Act} {next:Act→World→Prop} {Q:Exit→Act→World→Prop} {nw:Nat}

theorem wp_val {c:Value} {w w':World} (h:(execOp a.eval o).run P w=.ok (.value c) w') (k:next (a.put o.dst c) w'):o.wp P a w next Q:=by
 simpa [Oper.wp,h,Oper.upon] using k

theorem wp_skip {w w':World} (h:(execOp a.eval o).run P w=.ok .skip w') (k:next (a.put o.dst undef) w'):o.wp P a w next Q:=by
 simpa [Oper.wp,h,Oper.upon] using k

theorem freeL_append:∀(l m:List V),V.freeL l=true→V.freeL m=true→V.freeL (l++m)=true
 | [],m,_,h=>h
 | v::l,m,h,h'=>by
  simp only [V.freeL,Bool.and_eq_true,List.cons_append] at h ⊢
  exact ⟨h.1,freeL_append l m h.2 h'⟩

theorem free_cells (v:V) (h:v.free=true):V.freeL v.cells=true:=by
 cases v <;> simp_all [V.cells,V.freeL,V.free]

theorem um:∀(es:List V),V.freeL es=true→V.freeL (es.flatMap V.cells)=true
 | [],_=>rfl
 | v::l,h=>by
  simp only [V.freeL,Bool.and_eq_true] at h
  rw [List.flatMap_cons]
  exact freeL_append _ _ (free_cells v h.1) (um l h.2)

mutual
theorem Rep.free {x x':Cx} (hw:x'.w=x.w) (hno:∀b,x'.no b→x.no b) {v:V} {c:Value}:Rep x v c→v.free=true→Rep x' v c
 | .bool b,_=>.bool b
 | .int k n,_=>.int k n
 | .str s,_=>.str s
 | .nilp,_=>.nilp
 | .ptr id off hk,h=>by simp [V.free] at h
 | .cptr b o off hh hl,h=>.cptr b o off ⟨by rw [hw]; exact hh.1,fun k=>hh.2.1 (hno _ k),by rw [hw]; exact hh.2.2⟩ (RepL.free hw hno hl (by simpa [V.free] using h))
 | .list (es:=es) b o cap sz hh hl hc he,h=>.list b o cap sz ⟨by rw [hw]; exact hh.1,fun k=>hh.2.1 (hno _ k),by rw [hw]; exact hh.2.2⟩ (RepL.free hw hno hl (by
   have h':V.freeL es=true:=by simpa [V.free] using h
   exact um es h')) hc he
 | .lempty a cap,_=>.lempty a cap
 | .nils,_=>.nils
 | .arr id off len sz ag cp o cap n hk h1 h2 h3 h4 h5,h=>by simp [V.free] at h
 | .map id hk,h=>by simp [V.free] at h
 | .yield id hk,h=>by simp [V.free] at h
 | .nilm,_=>.nilm
 | .func fn ha hb,h=>by
  simp only [V.free,Bool.and_eq_true] at h
  exact .func fn (RepL.free hw hno ha h.1) (RepL.free hw hno hb h.2)
 | .nilf,_=>.nilf
 | .iface t hv,h=>.iface t (Rep.free hw hno hv (by simpa [V.free] using h))
 | .nili,_=>.nili
 | .agg hl,h=>.agg (RepL.free hw hno hl (by simpa [V.free] using h))
 | .tup hl,h=>.tup (RepL.free hw hno hl (by simpa [V.free] using h))
theorem RepL.free {x x':Cx} (hw:x'.w=x.w) (hno:∀b,x'.no b→x.no b) {l:List V} {m:List Value}:RepL x l m→V.freeL l=true→RepL x' l m
 | .nil,_=>.nil
 | .cons hv hl,h=>by
  simp only [V.freeL,Bool.and_eq_true] at h
  exact .cons (Rep.free hw hno hv h.1) (RepL.free hw hno hl h.2)
end

mutual
theorem Rep.flatv {x x':Cx} {v:V} {c:Value}:Rep x v c→v.flatv=true→Rep x' v c
 | .bool b,_=>.bool b
 | .int k n,_=>.int k n
 | .str s,_=>.str s
 | .nilp,_=>.nilp
 | .ptr id off hk,h=>by simp [V.flatv] at h
 | .cptr b o off hh hl,h=>by simp [V.flatv] at h
 | .list b o cap sz hh hl hc he,h=>by simp [V.flatv] at h
 | .lempty a cap,h=>by simp [V.flatv] at h
 | .nils,h=>by simp [V.flatv] at h
 | .arr id off len sz ag cp o cap n hk h1 h2 h3 h4 h5,h=>by simp [V.flatv] at h
 | .map id hk,h=>by simp [V.flatv] at h
 | .yield id hk,h=>by simp [V.flatv] at h
 | .nilm,_=>.nilm
 | .func fn ha hb,h=>by simp [V.flatv] at h
 | .nilf,_=>.nilf
 | .iface t hv,h=>.iface t (Rep.flatv hv (by simpa [V.flatv] using h))
 | .nili,_=>.nili
 | .agg hl,h=>.agg (RepL.flatv hl (by simpa [V.flatv] using h))
 | .tup hl,h=>.tup (RepL.flatv hl (by simpa [V.flatv] using h))
theorem RepL.flatv {x x':Cx} {l:List V} {m:List Value}:RepL x l m→V.flatvL l=true→RepL x' l m
 | .nil,_=>.nil
 | .cons hv hl,h=>by
  simp only [V.flatvL,Bool.and_eq_true] at h
  exact .cons (Rep.flatv hv h.1) (RepL.flatv hl h.2)
end

/-! a call that is run alone -/
def Cx.alone (x:Cx) (B:Nat→Prop):Cx:=⟨x.w,x.ρ,fun _=>False,S.empty,B⟩

theorem alone_own (x:Cx) (B:Nat→Prop) (b:Nat):¬(x.alone B).own b:=fun ⟨i,o,h,_⟩=>by simp [Cx.alone] at h

theorem alone_no (x:Cx) (B:Nat→Prop) (b:Nat) (h:(x.alone B).no b):B b:=h.resolve_right (alone_own x B b)

theorem alone_rel {B:Nat→Prop} (hB:∀b,B b→b<x.w.heap.size):Rel (x.alone B) where
 lt:=fun i h=>h.elim
 live:=fun i o h=>by simp [Cx.alone] at h
 inj:=fun i j o p h=>by simp [Cx.alone] at h
 room:=hB
 apart:=fun i o h=>by simp [Cx.alone] at h

theorem tO {B:Nat→Prop} {y:Cx} (h:(x.alone B).le y):x.le { x with w:=y.w } where
 B:=rfl
 K:=fun i h=>⟨h,rfl⟩
 size:=h.size
 keep:=fun b hb _=>h.keep b hb (alone_own x B b)
 csz:=h.csz
 own:=fun b _ h=>h
 os:=h.os
 tape:=h.tape
 output:=h.output

theorem uw {B:Nat→Prop} {y:Cx} (hx:Rel x) (h:(x.alone B).le y):Rel { x with w:=y.w } where
 lt:=hx.lt
 live:=fun i o hi=>⟨(hx.live i o hi).1,(hx.live i o hi).2.mono (tO h) (h.keep _ (hx.live i o hi).2.lt (alone_own x B _))⟩
 inj:=hx.inj
 room:=fun b hb=>Nat.lt_of_lt_of_le (hx.room b hb) h.size
 apart:=hx.apart

theorem alone_gok (hc:cfg.Ok P) (hg:GOk cfg x) {B:Nat→Prop} (hB:∀b,B b→x.no b):GOk cfg (x.alone B):=fun g cs h=>by
 obtain ⟨vs,h1,h2⟩:=hg g cs h
 have hle:∀b,(x.alone B).no b→x.no b:=fun b hb=>hB b (alone_no x _ b hb)
 exact ⟨vs,⟨h1.1,fun k=>h1.2.1 (hle _ k),h1.2.2⟩,h2.free (x:=x) (x':=x.alone B) rfl hle (hc.gfree g cs h)⟩

theorem see_ok {x':Cx} (hx:Rel x) (hw:x'.w=x.w) (hno2:∀b,x'.no b→x.no b∧¬x.own b):∀(k:Nat),(∀(v v':V) (c:Value),Rep x v c→see k x.s v=some v'→v'.free=true→Rep x' v' c) ∧
  (∀(l l':List V) (m:List Value),RepL x l m→vy k x.s l=some l'→V.freeL l'=true→RepL x' l' m)
 | 0=>⟨fun v v' c _ h=>by simp [see] at h,fun l l' m _ h=>by simp [vy] at h⟩
 | k+1=>by
  obtain ⟨ih1,ih2⟩:=see_ok hx hw hno2 k
  have hno:∀b,x'.no b→x.no b:=fun b hb=>(hno2 b hb).1
  have hownd:∀i o,x.s.get i=some o→¬x'.no (x.ρ i).1:=fun i o hi hb=>(hno2 _ hb).2 ⟨i,o,hi,rfl⟩
  have hat':∀{b o:Nat} {vs:List Value},at_ x.w b o vs→at_ x'.w b o vs:=fun h=>by rw [hw]; exact h
  have hlt':∀i o,x.s.get i=some o→(x.ρ i).1<x'.w.heap.size:=fun i o hi=>by rw [hw]; exact (hx.live i _ hi).2.lt
  have triv:∀(v v':V) (c:Value),Rep x v c→some v=some v'→v'.free=true→Rep x' v' c:=by
   intro v v' c hr h hf
   injection h with h; subst h
   exact hr.free (x:=x) (x':=x') hw hno hf
  refine ⟨fun v v' c hr h hf=>?_,fun l l' m hl h hf=>?_⟩
  ·cases hr with
   | bool b=>exact triv _ _ _ (.bool b) (by simpa [see] using h) hf
   | int i n=>exact triv _ _ _ (.int i n) (by simpa [see] using h) hf
   | str b=>exact triv _ _ _ (.str b) (by simpa [see] using h) hf
   | nilp=>exact triv _ _ _ .nilp (by simpa [see] using h) hf
   | cptr b o off hh hl=>exact triv _ _ _ (.cptr b o off hh hl) (by simpa [see] using h) hf
   | list b o cap sz hh hl hc he=>exact triv _ _ _ (.list b o cap sz hh hl hc he) (by simpa [see] using h) hf
   | lempty a cap=>exact triv _ _ _ (.lempty a cap) (by simpa [see] using h) hf
   | map i hk=>exact triv _ _ _ (.map i hk) (by simpa [see] using h) hf
   | nilm=>exact triv _ _ _ .nilm (by simpa [see] using h) hf
   | yield i hk=>exact triv _ _ _ (.yield i hk) (by simpa [see] using h) hf
   | nilf=>exact triv _ _ _ .nilf (by simpa [see] using h) hf
   | nili=>exact triv _ _ _ .nili (by simpa [see] using h) hf
   | nils =>
    simp only [see,Option.some.injEq] at h
    subst h
    exact .lempty _ _
   | iface t hv =>
    simp only [see] at h
    split at h
    ·rename_i v1 h1
     injection h with h; subst h
     exact .iface t (ih1 _ _ _ hv h1 (by simpa [V.free] using hf))
    ·cases h
   | agg hl =>
    simp only [see] at h
    split at h
    ·rename_i v1 h1
     injection h with h; subst h
     exact .agg (ih2 _ _ _ hl h1 (by simpa [V.free] using hf))
    ·cases h
   | tup hl =>
    simp only [see] at h
    split at h
    ·rename_i v1 h1
     injection h with h; subst h
     exact .tup (ih2 _ _ _ hl h1 (by simpa [V.free] using hf))
    ·cases h
   | func f ha hb =>
    simp only [see] at h
    split at h
    ·rename_i a' b' h1 h2
     injection h with h; subst h
     simp only [V.free,Bool.and_eq_true] at hf
     exact .func f (ih2 _ _ _ ha h1 hf.1) (ih2 _ _ _ hb h2 hf.2)
    ·cases h
   | ptr id off hk =>
    simp only [see] at h
    split at h
    ·rename_i cs frz ty ex hg
     split at h
     ·rename_i cs' h1
      injection h with h; subst h
      obtain ⟨vs,hvl,hat⟩:=uM (hx.live id _ hg).2
      exact .cptr (x.ρ id).1 (x.ρ id).2 off ⟨hlt' id _ hg,hownd id _ hg,hat' hat⟩ (ih2 _ _ _ hvl h1 (by simpa [V.free] using hf))
     ·cases h
    ·cases h
   | arr id off len sz ag cp o cap n hk hoff hlc hcs hroom hcp =>
    simp only [see] at h
    split at h
    ·rename_i cs frz ty ex hg
     split at h
     ·rename_i hcond
      split at h
      ·rename_i cs' h1
       split at h
       ·rename_i hone
        injection h with h; subst h
        obtain ⟨vs,hvl,hat⟩:=uM (hx.live id _ hg).2
        have hlen0:cs'.length=len*sz:=by
         have:∀(k:Nat) (l l':List V),vy k x.s l=some l'→l'.length=l.length:=by
          intro k
          induction k with
          | zero=>intro l l' h; simp [vy] at h
          | succ k ih =>
           intro l l' h
           cases l with
           | nil=>simp [vy] at h; subst h; rfl
           | cons v l =>
            simp only [vy] at h
            split at h
            ·split at h
             ·rename_i l1 h1
              injection h with h; subst h
              simp [ih _ _ h1]
             ·cases h
            ·cases h
         rw [this _ _ _ h1,List.length_take,List.length_drop]; omega
        obtain ⟨c1,c2,c3⟩:=chunk_flat ag sz len cs' hlen0 hcond.2 hone
        have hfree:V.freeL cs'=true:=by
         have:=um (vo ag sz len cs') (by simpa [V.free] using hf)
         rwa [c1] at this
        have hvl2:RepL x ((cs.drop off).take (len*sz)) ((vs.drop off).take (len*sz)):=(hvl.drop off).take _
        have hr:=ih2 _ _ _ hvl2 h1 hfree
        by_cases hz:len=0
        ·subst hz
         simp only [vo]
         exact .lempty _ _
        ·have hcap:cap≠0:=by omega
         have ho:o=(x.ρ id).2+off:=by
          rcases hoff with h | h
          ·omega
          ·exact h
         subst ho
         have:=Rep.list (x:=x') (es:=vo ag sz len cs') (vs:=(vs.drop off).take (len*sz)) (x.ρ id).1 ((x.ρ id).2+off) cap sz ⟨hlt' id _ hg,hownd id _ hg,hat' ((at_.drop hat off).take _)⟩ (by rw [c1]; exact hr) (by rw [c3]; exact hlc) c2
         rwa [c3] at this
       ·cases h
      ·cases h
     ·cases h
    ·cases h
  ·cases hl with
   | nil =>
    simp only [vy,Option.some.injEq] at h
    subst h; exact .nil
   | cons hv hl =>
    simp only [vy] at h
    split at h
    ·rename_i v1 h1
     split at h
     ·rename_i l1 h2
      injection h with h; subst h
      simp only [V.freeL,Bool.and_eq_true] at hf
      exact .cons (ih1 _ _ _ hv h1 hf.1) (ih2 _ _ _ hl h2 hf.2)
     ·cases h
    ·cases h

theorem uD (hc:cfg.Ok P) {cf:CallF} (hcf:CallOk P cfg cf) (hg:GOk cfg x) (hx:Rel x) {f:FuncId} {fn:Func} (hfn:cfg.fn f=some fn) {args:List V} {cargs:List Value} (ha:RepL x args cargs) {v:V} (h:uf cf f args=some v) :
  Calls P f cargs.toArray x.w fun E w'=>∃y:Cx,y.w=w'∧x.le y∧Rel y∧y.s=x.s∧y.K=x.K∧EndOk y (.ret v) E:=by
 unfold uf at h
 split at h
 case isFalse=>cases h
 rename_i hfree
 split at h
 case h_2=>cases h
 rename_i v1 s1 hcall
 split at h
 case h_2=>cases h
 rename_i v2 hsee
 split at h
 case isFalse=>cases h
 rename_i hfree2
 injection h with h; subst h
 have hroom:∀b,x.no b→b<x.w.heap.size:=fun b hb=>hb.elim (hx.room b) hx.own_lt
 have hle:∀b,(x.alone x.no).no b→x.no b:=fun b hb=>alone_no x _ b hb
 refine (hcf (x.alone x.no) f fn args cargs _ _ hfn (alone_gok hc hg fun _ h=>h) (alone_rel hroom) (ha.free (x:=x) (x':=x.alone x.no) rfl hle hfree) hcall).mono ?_
 ·rintro E w' ⟨y,rfl,hw,he⟩
  refine ⟨{ x with w:=y.w },rfl,tO hw.le,uw hx hw.le,rfl,rfl,?_⟩
  cases E with
  | returned c =>
   simp only [EndOk] at he ⊢
   have hs:=hw.s
   subst hs
   refine (see_ok (x:=y) (x':={ x with w:=y.w }) hw.rel rfl (fun b hb=>?_) tV).1 _ _ _ he hsee hfree2
   have hB:y.B b:=by rw [hw.le.B]; exact hb
   refine ⟨.inl hB,?_⟩
   rintro ⟨i,o,hi,rfl⟩
   exact hw.rel.apart i o hi hB
  | panicked ch=>exact he.elim
  | outgrown=>exact he.elim

theorem pureCall_ok (hc:cfg.Ok P) {cf:CallF} (hcf:CallOk P cfg cf) (hg:GOk cfg x) (hx:Rel x) {f:FuncId} {fn:Func} (hfn:cfg.fn f=some fn) {args:List V} {cargs:List Value} (ha:RepL x args cargs) {v:V} (h:uf cf f args=some v) :
  Calls P f cargs.toArray x.w fun E w'=>∃y:Cx,y.w=w'∧Went x nw x.s y∧EndOk y (.ret v) E:=by
 refine (uD hc hcf hg hx hfn ha h).mono ?_
 rintro E w' ⟨y,rfl,h1,h2,h3,h4,h5⟩
 exact ⟨y,rfl,⟨h1,h2,h3,fun i hi=>.inl (h4 ▸ hi)⟩,h5⟩

theorem lentCall_ok (hc:cfg.Ok P) {cf:CallF} (hcf:CallOk P cfg cf) (hg:GOk cfg x) (hx:Rel x) {f:FuncId} {fn:Func} (hfn:cfg.fn f=some fn) {args:List V} {cargs:List Value} (ha:RepL x args cargs) {v:V} (h:wU cfg cf f args x.s=some v) :
  Calls P f cargs.toArray x.w fun E w'=>∃y:Cx,y.w=w'∧Went x nw x.s y∧EndOk y (.ret v) E:=by
 unfold wU at h
 split at h
 case h_2=>cases h
 rename_i args' hsee
 split at h
 case isFalse=>cases h
 rename_i hfree
 have ha':=(see_ok (x':=x.alone fun _=>False) hx rfl (fun b hb=>(alone_no x _ b hb).elim) tV).2 _ _ _ ha hsee hfree
 have hga:GOk cfg (x.alone fun _=>False):=alone_gok hc hg fun _ h=>h.elim
 have hra:Rel (x.alone fun _=>False):=alone_rel fun _ h=>h.elim
 split at h
 ·rename_i v1 htab
  split at h
  case isFalse=>cases h
  rename_i hflat
  injection h with h; subst h
  refine (hc.tab f args' v1 htab (x.alone fun _=>False) cargs hga hra ha').mono ?_
  rintro E w' ⟨y,c,rfl,hle,hry,_,_,rfl,hrep⟩
  exact ⟨{ x with w:=y.w },rfl,⟨tO hle,uw hx hle,rfl,fun i hi=>.inl hi⟩,Rep.flatv hrep hflat⟩
 split at h
 case h_2=>cases h
 rename_i v1 s2 hcall
 split at h
 case isFalse=>cases h
 rename_i hflat
 injection h with h; subst h
 refine (hcf (x.alone fun _=>False) f fn args' cargs _ _ hfn hga hra ha' hcall).mono ?_
 rintro E w' ⟨y,rfl,hw,he⟩
 refine ⟨{ x with w:=y.w },rfl,⟨tO hw.le,uw hx hw.le,rfl,fun i hi=>.inl hi⟩,?_⟩
 cases E with
 | returned c=>exact Rep.flatv he hflat
 | panicked ch=>exact he.elim
 | outgrown=>exact he.elim

theorem extOp_ok (hc:cfg.Ok P) {f:FuncId} {fn:Func} (hfn:cfg.fn f=some fn) (hb:fn.body=none) {args:List V} {cargs:List Value} (ha:RepL x args cargs) {v:V} (h:extOp cfg f args=some v) :
  ∃c,(callFunc f cargs.toArray).run P x.w=.ok (.value c) x.w∧Rep x v c:=by
 unfold extOp at h
 split at h
 ·rename_i hp
  injection h with h; subst h
  cases ha with
  | cons hX hr =>
   cases hr
   exact ⟨_,by rw [hc.ext10 f fn hfn hb hp,Lib.run_noEscape]; rfl,hX⟩
 ·rename_i hp
  injection h with h; subst h
  cases ha with
  | cons hX hr =>
   cases hr with
   | cons hY hr =>
    cases hr
    cases hX; cases hY
    exact ⟨_,by rw [hc.ext11 f fn hfn hb hp]; rfl,.int _ _⟩
 ·rename_i s c hp
  injection h with h; subst h
  cases ha with
  | cons hX hr =>
   cases hr with
   | cons hY hr =>
    cases hr
    cases hX; cases hY
    refine ⟨.int .i64 (firstIdx s c.toNat.toUInt8),by rw [hc.ext12 f fn hfn hb hp,run_indexByte_string]; rfl,?_⟩
    unfold firstIdx
    exact .int _ _
 ·cases h

theorem xv (hc:cfg.Ok P) {f:FuncId} {fn:Func} (hfn:cfg.fn f=some fn) {c:Code} (hb:fn.body=some c) (args:Array Value) (w:World) :
  (callFunc f args).run P w=.ok (.enter f args) w:=by
 have h1:=hc.names f fn hfn
 have h2:=hc.fn f fn hfn
 have h3:fn.name≠ "runtime.NumGoroutine":=by simpa using h1
 simp [callFunc,h2,h3,hb]

theorem method_same {t:TypeId} {name:String} {f:FuncId} (h:MethOk P t name f none) (v:Value) (w:World):(method (P.types.size+Made.depth) t v name).run P w=.ok (f,v) w:=by
 obtain ⟨i,m,u,pr,h1,h2,h3,h4,h5,h6⟩:=h
 have hn:P.types.size+Made.depth=(P.types.size+99)+1:=rfl
 rw [hn]
 unfold method
 simp only [Sem.run_bind,typeInfo,run_program,Result.andThen_ok,h1,Sem.run_pure,h2,h4,follow,h5]
 unfold receiverAt
 simp only [Sem.run_bind,run_underlying h3,Result.andThen_ok]
 rcases h6 with ⟨rfl,b,rfl⟩ | ⟨rfl,hu⟩
 ·simp [Place.get]
 ·cases u <;> first | exact absurd rfl (hu _) | simp [Place.get]

theorem aLoad_var (hx:Rel x) {t:TypeId} {a:ATy} (ht:TyOk P t a) {p v:V} {c:Value} (hp:Rep x p c) (h:zt x.s a.size (zS a.und) p=some v) :
  ∃c',(do loadVar t (← asAddr c):Sem Value).run P x.w=.ok c' x.w∧Rep x v c':=by
 obtain ⟨c',h1,h2⟩:=aLoad_ok (P:=P) hx ht hp h
 refine ⟨c',?_,h2⟩
 rw [← h1]
 cases hp <;> first | rfl | simp [zt] at h

theorem method_load (hx:Rel x) {t:TypeId} {name:String} {f:FuncId} {e:TypeId} {a:ATy} (h:MethOk P t name f (some e)) (ht:TyOk P e a) {v r:V} {c:Value} (hv:Rep x v c) (hl:zt x.s a.size (zS a.und) v=some r) :
  ∃c',(method (P.types.size+Made.depth) t c name).run P x.w=.ok (f,c') x.w∧Rep x r c':=by
 obtain ⟨i,m,u,pr,h1,h2,h3,h4,h5,rfl,rfl⟩:=h
 obtain ⟨c',h6,h7⟩:=aLoad_var (P:=P) hx ht hv hl
 refine ⟨c',?_,h7⟩
 have hn:P.types.size+Made.depth=(P.types.size+99)+1:=rfl
 have hp:∃ad,c=.pointer (some ad):=by
  cases hv <;> first | exact ⟨_,rfl⟩ | simp [zt] at hl
 obtain ⟨ad,rfl⟩:=hp
 rw [hn]
 unfold method
 simp only [Sem.run_bind,typeInfo,run_program,Result.andThen_ok,h1,Sem.run_pure,h2,h4,follow,h5]
 unfold receiverAt
 have hw:∀(xt:TypeId) (n:String),Builtin.ssaWrapNilChk_ #[xt] xt #[.pointer (some ad),strVal "",strVal n]=pure (.pointer (some ad)):=fun xt n=>rfl
 simp only [Sem.run_bind,run_underlying h3,Result.andThen_ok,Place.get,Sem.run_pure,hw]
 simp only [Sem.run_bind] at h6
 simp [h6]

theorem callG_ok (hc:cfg.Ok P) {cf:CF} (hcf:wv P cfg cf) (hg:GOk cfg x) (hx:Rel x) {g:FuncId} {fn:Func} (hfn:cfg.fn g=some fn) (hbn:¬fn.body.isNone=true) {s:S} (hs:s=x.s) {args:List V} {cargs:List Value}
  (hrun:(execOp a.eval o).run P x.w=(callFunc g cargs.toArray).run P x.w) (hall:RepL x args cargs) {r:R} (hn:¬x.K nw) (h:xq cfg cf nw g args s=some r) (hp:Post x nw a o.dst next Q r):o.wp P a x.w next Q:=by
 subst hs
 obtain ⟨body,hbody⟩:∃body,fn.body=some body:=by
  cases hb:fn.body with
  | none=>simp [hb] at hbn
  | some b=>exact ⟨b,rfl⟩
 have hent:=xv hc hfn hbody cargs.toArray x.w
 unfold Oper.wp
 rw [hrun,hent,Oper.upon_enter]
 have key:∀(e:AE) (s':S),(∀y E,Went x nw s' y→EndOk y e E→match E with
   | .returned v=>next (a.put o.dst v) y.w
   | .panicked chain=>Q (.panic chain) a y.w
   | .outgrown=>LetsOut Q)→(Calls P g cargs.toArray x.w fun E w'=>∃y:Cx,y.w=w'∧Went x nw s' y∧EndOk y e E) →
   Calls P g cargs.toArray x.w (fun
    | .returned v,w''=>next (a.put o.dst v) w''
    | .panicked chain,w''=>Q (.panic chain) a w''
    | .outgrown,_=>LetsOut Q):=by
  intro e s' hh hC
  refine hC.mono ?_
  rintro E w' ⟨y,rfl,hw,he⟩
  have:=hh y E hw he
  cases E <;> exact this
 have keyV:∀(v:V) (s':S),Post x nw a o.dst next Q (.val v s')→(∀y E,Went x nw s' y→EndOk y (.ret v) E→match E with
   | .returned v=>next (a.put o.dst v) y.w
   | .panicked chain=>Q (.panic chain) a y.w
   | .outgrown=>LetsOut Q):=by
  intro v s' hp y E hw he
  cases E with
  | returned c=>exact hp y c hw he
  | panicked ch=>exact he.elim
  | outgrown=>exact he.elim
 unfold xq at h
 split at h
 ·split at h
  ·rename_i v hv
   simp only [Option.map_eq_some_iff] at h
   obtain ⟨⟨v',s'⟩,ht,rfl⟩:=h
   refine key _ _ (keyV v' s' hp) ((hc.ftab _ _ _ hv x _ nw v' s' hg hx hn hall ht).mono ?_)
   rintro E w' ⟨y,c,rfl,h1,h2,h3,h4,rfl,h5⟩
   exact ⟨y,rfl,⟨h1,h2,h3,fun i hi=>(h4 i hi).elim .inl fun h=>.inr (.inl h)⟩,h5⟩
  ·cases h
 unfold zF at h
 split at h
 ·rename_i v hv
  injection h with h; subst h
  refine key _ _ (keyV v _ hp) ((hc.tab _ _ _ hv x _ hg hx hall).mono ?_)
  rintro E w' ⟨y,c,rfl,h1,h2,h3,h4,rfl,h5⟩
  exact ⟨y,rfl,⟨h1,h2,h3,fun i hi=>.inl (h4 ▸ hi)⟩,h5⟩
 split at h
 ·simp only [Option.map_eq_some_iff] at h
  obtain ⟨v,hv,rfl⟩:=h
  exact key _ _ (keyV v _ hp) (pureCall_ok hc hcf.1 hg hx hfn hall hv)
 ·simp only [Option.map_eq_some_iff] at h
  obtain ⟨v,hv,rfl⟩:=h
  exact key _ _ (keyV v _ hp) (lentCall_ok hc hcf.1 hg hx hfn hall hv)
 ·simp only [Option.map_eq_some_iff] at h
  obtain ⟨v,hv,rfl⟩:=h
  exact key _ _ (keyV v _ hp) (lentCall_ok hc hcf.1 hg hx hfn hall hv)
 ·have grow:∀{e s'},(∃y:Cx,True)→(Calls P g cargs.toArray x.w fun E w'=>∃y:Cx,y.w=w'∧Went x x.s.next s' y∧EndOk y e E) →
    (Calls P g cargs.toArray x.w fun E w'=>∃y:Cx,y.w=w'∧Went x nw s' y∧EndOk y e E):=by
   intro e s' _ hC
   refine hC.mono ?_
   rintro E w' ⟨y,h1,hw,he⟩
   exact ⟨y,h1,⟨hw.le,hw.rel,hw.s,fun i hi=>(hw.grow i hi).elim .inl fun h=>.inr (.inr (h.elim (fun h=>Nat.le_of_eq h.symm) id))⟩,he⟩
  split at h
  ·rename_i v s' hcall
   injection h with h; subst h
   exact key _ _ (keyV v s' hp) (grow ⟨x,trivial⟩ (hcf.1 x g fn _ _ _ _ hfn hg hx hall hcall))
  ·rename_i ch s' hcall
   injection h with h; subst h
   refine key _ _ ?_ (grow ⟨x,trivial⟩ (hcf.1 x g fn _ _ _ _ hfn hg hx hall hcall))
   intro y E hw he
   cases E with
   | returned c=>exact he.elim
   | panicked ch=>exact hp y ch hw he
   | outgrown=>exact he.elim
  ·cases h

theorem doCall_ok (hc:cfg.Ok P) {cf:CF} (hcf:wv P cfg cf) (hg:GOk cfg x) (hx:Rel x) (hn:¬x.K nw) {sl:Bool} {tmps:List V} (ht:RepL x tmps a.tmps.toList) {c:Call} (hop:o.op=.call c) {r:R}
  (hy:∀fo id,c.callee=.value fo→ev cfg tmps fo≠some (.yield id)) (h:yY cfg cf sl nw c tmps x.s=some r) (hp:Post x nw a o.dst next Q r):o.wp P a x.w next Q:=by
 unfold yY at h
 split at h
 ·cases h
 rename_i args hargs
 have ha:=uZ (P:=P) hg ht hargs
 have hma:(c.args.map a.eval).toList=c.args.toList.map a.eval:=by simp
 have hexec:execOp a.eval o=(do let d ← resolve a.eval c o.type; invoke d.target d.args):=by
  simp only [execOp,hop]
 split at h
 ·rename_i b hb
  have hma2:(c.args.toList.map a.eval).toArray=c.args.map a.eval:=by apply Array.toList_inj.1; simp
  obtain ⟨consts,hcon⟩:∃consts,∀w,(execOp a.eval o).run P w=(builtin b c.argTypes o.type consts (c.args.map a.eval)).run P w :=
   ⟨_,fun w=>by rw [hexec]; simp only [resolve,hb,invoke,Sem.run_bind,Sem.run_pure,Result.andThen_ok]; rfl⟩
  obtain ⟨v,s',rfl,y,cv,h1,h2,h3,h4,h5,h6⟩:=builtinOp_ok hc hx hn ha h o.type consts
  rw [hma2] at h1
  exact wp_val (by rw [hcon,h1]) (hp y cv ⟨h2,h3,h4,fun i hi=>(h6 i hi).elim (fun h=>.inr (.inl h)) .inl⟩ h5)
 ·rename_i fo hcallee
  split at h
  case h_2=>rename_i id hev; exact absurd hev (hy fo id hcallee)
  case h_3=>cases h
  rename_i g first cap hev
  have hfr:=xo (P:=P) hg ht hev
  split at h
  case h_2=>cases h
  rename_i fn hfn
  generalize hfo:a.eval fo=F at hfr
  cases hfr with
  | func _ hA hB =>
   rename_i A B
   have hrun:∀w,(execOp a.eval o).run P w=(callFunc g (A++c.args.map a.eval++B)).run P w:=by
    intro w
    rw [hexec]
    simp [resolve,hcallee,hfo,Deferred.ofValue,invoke]
   have hall:=(hA.append ha).append hB
   have hargs':(A++c.args.map a.eval++B)=(A.toList++c.args.toList.map a.eval++B.toList).toArray:=by simp
   rw [hargs'] at hrun
   split at h
   ·rename_i hbn
    have hbn':fn.body=none:=by simpa using hbn
    simp only [Option.map_eq_some_iff] at h
    obtain ⟨v,hv,rfl⟩:=h
    obtain ⟨cv,h1,h2⟩:=extOp_ok hc hfn hbn' hall hv
    exact wp_val (by rw [hrun,h1]) (hp x cv (.same hx nw) h2)
   ·rename_i hbn
    exact callG_ok (cargs:=A.toList++c.args.toList.map a.eval++B.toList) hc hcf hg hx hfn hbn rfl (hrun x.w) hall hn h hp
 ·rename_i ro name hcallee
  split at h
  case h_2=>cases h
  rename_i t v hev
  have hfr:=xo (P:=P) hg ht hev
  generalize hro:a.eval ro=F at hfr
  cases hfr with
  | iface _ hv =>
   rename_i cv
   have hma:(c.args.map a.eval).toList=c.args.toList.map a.eval:=by simp
   have hargs':∀r:Value,(#[r]++c.args.map a.eval)=(r::c.args.toList.map a.eval).toArray:=fun r=>by simp
   have hrun:∀(f:FuncId) (r:Value),(method (P.types.size+Made.depth) t cv name).run P x.w=.ok (f,r) x.w→(execOp a.eval o).run P x.w=(callFunc f (r::c.args.toList.map a.eval).toArray).run P x.w:=by
    intro f r hm
    rw [hexec,← hargs']
    have hex:(#[Value.iface t cv]++c.args.map a.eval).extract 1 (#[Value.iface t cv]++c.args.map a.eval).size=c.args.map a.eval:=by
     apply Array.toList_inj.1; simp [List.take_of_length_le]
    have h0:(#[Value.iface t cv]++c.args.map a.eval)[0]?=some (Value.iface t cv):=by rw [← Array.getElem?_toList,Array.toList_append]; rfl
    have hcm:(callMethod (Value.iface t cv) name (c.args.map a.eval)).run P x.w=(callFunc f (#[r]++c.args.map a.eval)).run P x.w:=by
     simp only [callMethod,Sem.run_bind,run_program,Result.andThen_ok,hm]
    rw [← hcm]
    simp only [resolve,hcallee,hro,Sem.run_bind,Sem.run_pure,Result.andThen_ok,invoke,h0,hex]
   have enter:∀{g:FuncId} {args:List V} {cargs:List Value},(execOp a.eval o).run P x.w=(callFunc g cargs.toArray).run P x.w→RepL x args cargs→methOp cfg cf nw g args x.s=some r→o.wp P a x.w next Q:=by
    intro g args cargs h1 h2 h3
    unfold methOp at h3
    split at h3
    ·rename_i fn hfn
     split at h3
     ·cases h3
     ·rename_i hbn
      exact callG_ok hc hcf hg hx hfn hbn rfl h1 h2 hn h3 hp
    ·cases h3
   split at h
   ·rename_i g hm
    exact enter (hrun _ _ (method_same (hc.meth _ _ _ _ hm) cv x.w)) (.cons hv ha) h
   ·rename_i g e hm
    split at h
    ·rename_i i hi
     split at h
     ·rename_i r1 hl
      obtain ⟨c1,h1,h2⟩:=method_load hx (hc.meth _ _ _ _ hm) (hc.ty _ _ hi) hv hl
      exact enter (hrun _ _ h1) (.cons h2 ha) h
     ·cases h
    ·cases h
   ·cases h
end
end Go.Proofs.YtchlfjhbijmdiaaGreatDoor.Ai

namespace Go.Proofs.YtchlfjhbijmdiaaGreatDoor.Ai
open Go.RowKit (Below)

section
variable {P:Program} {cfg:Cfg} {x:Cx} {o:Oper} {a:Act} {next:Act→World→Prop} {Q:Exit→Act→World→Prop} {nw:Nat} {r:R} {v:V}

theorem zT (hx:Rel x) {c:Value} (hp:Post x nw a o.dst next Q (.val v x.s)) (h1:(execOp a.eval o).run P x.w=.ok (.value c) x.w) (h2:Rep x v c):o.wp P a x.w next Q :=
 wp_val h1 (hp x c (.same hx nw) h2)

theorem wS {y:Cx} {c:Value} {s':S} (hp:Post x nw a o.dst next Q (.val v s')) (h1:(execOp a.eval o).run P x.w=.ok (.value c) y.w) (h2:x.le y) (h3:Rel y) (h4:y.s=s') (h5:Rep y v c) (h6:∀i,y.K i→i=nw∨x.K i):o.wp P a x.w next Q :=
 wp_val h1 (hp y c ⟨h2,h3,h4,fun i hi=>(h6 i hi).elim (fun h=>.inr (.inl h)) .inl⟩ h5)

theorem post_skip {y:Cx} {s':S} (hp:Post x nw a o.dst next Q (.val yc s')) (h1:(execOp a.eval o).run P x.w=.ok .skip y.w) (h2:x.le y) (h3:Rel y) (h4:y.s=s') (h6:y.K=x.K):o.wp P a x.w next Q :=
 wp_skip h1 (hp y undef ⟨h2,h3,h4,fun i hi=>.inl (h6 ▸ hi)⟩ (.tup (C:=#[]) .nil))

theorem post_cells (hx:Rel x) (hn:¬x.K nw) {cs:List V} {C:Array Value} {t:TypeId} {ag:Bool} (hl:RepL x cs C.toList)
  (hp:Post x nw a o.dst next Q (.val (.ptr nw 0) (x.s.add nw (.cells cs 0 t true)))) (h1:(execOp a.eval o).run P x.w=.ok (.value (.pointer (some ⟨x.w.heap.size,0,none⟩))) (x.w.alloc (.cells C t))):o.wp P a x.w next Q:=by
 obtain ⟨hle,hrel,hk,hrho⟩:=wb (x:=x) (nw:=nw) (frz:=0) (C:=C) (ty:=t) (ex:=true) hx hn hl (fun j u hj=>by rw [← Array.getElem?_toList]; exact hj) (fun _=>by rw [hl.length,Array.length_toList])
 refine wS hp h1 hle hrel rfl ?_ fun i hi=>hi
 have:=Rep.ptr (x:=x.alloc nw (.cells cs 0 t true) (.cells C t)) nw 0 hk
 rw [hrho] at this
 exact this

theorem evO_rep {P:Program} (hg:GOk cfg x) {tmps:List V} (ht:RepL x tmps a.tmps.toList) {o:Option Operand} {v:Option V} (h:evO cfg tmps o=some v):RepO x v (o.map a.eval):=by
 cases o with
 | none=>simp [evO] at h; subst h; exact .none
 | some p =>
  simp only [evO,Option.map_eq_some_iff] at h
  obtain ⟨v,hv,rfl⟩:=h
  exact .some (xo (P:=P) hg ht hv)

theorem run_storeMap (hx:Rel x) (hn:¬x.K nw) {next:Act→World→Prop}
  (hp:Post x nw a o.dst next Q (.val (.map nw) (x.s.add nw (.map [] 0)))) (h1:(execOp a.eval o).run P x.w=.ok (.value (.map (some x.w.heap.size))) (x.w.alloc (.map #[] 0))):o.wp P a x.w next Q:=by
 have hle:=ux (o:=.map [] 0) (c:=.map #[] 0) hx hn
 refine wS (y:=x.alloc nw (.map [] 0) (.map #[] 0)) hp h1 hle (ud hx hn ?_) rfl ?_ fun i hi=>hi
 ·exact ⟨#[],yl _ _,rfl,fun j e h=>by simp at h⟩
 ·have:=Rep.map (x:=x.alloc nw (.map [] 0) (.map #[] 0)) nw (.inl rfl)
  simpa [Cx.alloc,upd] using this

theorem doOp_ok (hc:cfg.Ok P) {cf:CF} (hcf:wv P cfg cf) (hg:GOk cfg x) (hx:Rel x) (hn:¬x.K nw) {sl:Bool} {tmps:List V} (ht:RepL x tmps a.tmps.toList)
  (hy:∀c fo id,o.op=.call c→c.callee=.value fo→ev cfg tmps fo≠some (.yield id)) (h:yS cfg cf sl nw o tmps x.s=some r) (hp:Post x nw a o.dst next Q r):o.wp P a x.w next Q:=by
 have er:=fun {p:Operand} {v:V} (h:ev cfg tmps p=some v)=>xo (P:=P) hg ht h
 rw [xZ] at h
 unfold doOp0 at h
 split at h
 ·rename_i p e
  simp only [Option.map_eq_some_iff] at h
  obtain ⟨v,hv,rfl⟩:=h
  exact zT hx hp (by simp [execOp,e]) (er hv)
 ·rename_i p e
  simp only [Option.map_eq_some_iff] at h
  obtain ⟨v,hv,rfl⟩:=h
  exact zT hx hp (by simp [execOp,e]) (er hv)
 ·rename_i c p q e
  split at h
  case h_2=>cases h
  rename_i t htv
  simp only [Option.map_eq_some_iff] at h
  obtain ⟨v,hv,rfl⟩:=h
  have hb:=er htv
  generalize hcv:a.eval c=cv at hb
  cases hb
  cases t
  ·exact zT hx hp (by simp [execOp,e,hcv,asBool]) (er hv)
  ·exact zT hx hp (by simp [execOp,e,hcv,asBool]) (er hv)
 ·rename_i t e
  simp only [Option.bind_eq_bind,Option.bind_eq_some_iff] at h
  obtain ⟨b,hb,h⟩:=h
  injection h with h; subst h
  obtain ⟨z,h1,h2,h3⟩:=(hc.ty _ _ hb).run_zero (P:=P) x.w
  exact post_cells (ag:=true) hx hn (h2 x).cells hp (by simp [execOp,e,Instr.alloc,h1,newVar,newRow,newObj,Sem.run])
 ·rename_i t p e
  simp only [Option.bind_eq_bind,Option.bind_eq_some_iff] at h
  obtain ⟨v,hv,h⟩:=h
  split at h
  case isFalse=>cases h
  injection h with h; subst h
  exact post_cells (ag:=true) hx hn (er hv).cells hp (by simp [execOp,e,Instr.box,newVar,newRow,newObj,Sem.run])
 ·rename_i t ps e
  simp only [Option.bind_eq_bind,Option.bind_eq_some_iff,Option.map_eq_some_iff] at h
  obtain ⟨qs,hq,v,hv,rfl⟩:=h
  have hps:=uY (P:=P) hg ht hq
  obtain ⟨c,h1,h2⟩:=aBuild_ok (P:=P) hc (qs:=ps.map fun p=>(p.1,a.eval p.2)) (by simpa using hps) hv x.w
  exact zT hx hp (by simp [execOp,e,h1]) h2
 ·rename_i t n ps e
  simp only [Option.bind_eq_bind,Option.bind_eq_some_iff,Option.map_eq_some_iff] at h
  obtain ⟨qs,hq,⟨v,s'⟩,hv,rfl⟩:=h
  have hps:=uY (P:=P) hg ht hq
  obtain ⟨y,c,h1,h2,h3,h4,h5,h6⟩:=aBuildSlice_ok (P:=P) hc hx hn (qs:=ps.map fun p=>(p.1,a.eval p.2)) (by simpa using hps) hv
  exact wS hp (by simp [execOp,e,h1]) h2 h3 h4 h5 h6
 ·rename_i t p e
  simp only [Option.bind_eq_bind,Option.bind_eq_some_iff,Option.map_eq_some_iff] at h
  obtain ⟨b,hb,pv,hpv,v,hv,rfl⟩:=h
  obtain ⟨c,h1,h2⟩:=aLoad_ok (P:=P) hx (hc.ty _ _ hb) (er hpv) hv
  exact zT hx hp (by simp [execOp,e,h1]) h2
 ·rename_i t p q e
  simp only [Option.bind_eq_bind,Option.bind_eq_some_iff,Option.map_eq_some_iff] at h
  obtain ⟨b,hb,pv,hpv,qv,hqv,s',hs,rfl⟩:=h
  obtain ⟨y,h1,h2,h3,h4,h5⟩:=aStore_ok (P:=P) hx (hc.ty _ _ hb) (er hpv) (er hqv) hs
  exact post_skip hp (by simp [execOp,e,h1]) h2 h3 h4 h5
 ·rename_i p e
  split at h
  ·rename_i i off hv
   injection h with h; subst h
   have hr:=er hv
   generalize hcv:a.eval p=cv at hr
   cases hr with
   | ptr _ _ hk=>exact zT hx hp (by simp [execOp,e,hcv]) (.ptr _ _ hk)
  ·rename_i i off hv
   injection h with h; subst h
   have hr:=er hv
   generalize hcv:a.eval p=cv at hr
   cases hr with
   | cptr b o off hh hl=>exact zT hx hp (by simp [execOp,e,hcv]) (.cptr b o off hh hl)
  ·rename_i g aa bb hv
   injection h with h; subst h
   have hr:=er hv
   generalize hcv:a.eval p=cv at hr
   cases hr with
   | func _ hA hB=>exact zT hx hp (by simp [execOp,e,hcv]) (.func _ hA hB)
  ·rename_i id hv
   injection h with h; subst h
   have hr:=er hv
   generalize hcv:a.eval p=cv at hr
   cases hr with
   | yield _ hk=>exact zT hx hp (by simp [execOp,e,hcv]) (.yield _ hk)
  ·cases h
 ·rename_i op t p q pos e
  simp only [Option.bind_eq_bind,Option.bind_eq_some_iff,Option.map_eq_some_iff] at h
  obtain ⟨pv,hpv,qv,hqv,v,hv,rfl⟩:=h
  obtain ⟨c,h1,h2⟩:=aBin_ok (P:=P) hc (er hpv) (er hqv) hv p q x.w
  have h1':((do eqGuard op t p q (a.eval p) (a.eval q); binOp op t (a.eval p) (a.eval q)):Sem Value).run P x.w=.ok c x.w:=h1
  exact zT hx hp (by simp only [execOp,e]; rw [Sem.run_bind,h1']; rfl) h2
 ·rename_i op t p e
  simp only [Option.bind_eq_bind,Option.bind_eq_some_iff,Option.map_eq_some_iff] at h
  obtain ⟨pv,hpv,v,hv,rfl⟩:=h
  obtain ⟨c,h1,h2⟩:=aUn_ok (P:=P) (er hpv) hv x.w
  exact zT hx hp (by simp [execOp,e,h1]) h2
 ·rename_i t u p e
  simp only [Option.bind_eq_bind,Option.bind_eq_some_iff,Option.map_eq_some_iff] at h
  obtain ⟨pv,hpv,⟨v,s'⟩,hv,rfl⟩:=h
  obtain ⟨y,c,h1,h2,h3,h4,h5,h6⟩:=aConvert_ok (P:=P) hc hx hn (er hpv) hv
  exact wS hp (by simp [execOp,e,h1]) h2 h3 h4 h5 h6
 ·rename_i t p e
  simp only [Option.bind_eq_bind,Option.bind_eq_some_iff] at h
  obtain ⟨b,hb,pv,hpv,h⟩:=h
  have hu:=(hc.ty _ _ hb).und
  split at h
  ·cases h
  ·rename_i hni
   injection h with h; subst h
   refine zT hx hp (c:=.iface t (a.eval p)) ?_ (.iface t (er hpv))
   simp only [execOp,e,Instr.makeInterface,Sem.run_bind,run_underlying hu,Result.andThen_ok]
   cases hd:b.und <;> first | rfl | exact absurd hd (hni _)
 ·rename_i fn p q e
  simp only [Option.bind_eq_bind,Option.bind_eq_some_iff] at h
  obtain ⟨pv,hpv,qv,hqv,h⟩:=h
  injection h with h; subst h
  exact zT hx hp (c:=.func fn (p.map a.eval) (q.map a.eval)) (by simp [execOp,e,Instr.makeFunc]) (.func fn (by simpa using uZ (P:=P) hg ht hpv) (by simpa using uZ (P:=P) hg ht hqv))
 ·rename_i t e
  injection h with h; subst h
  exact run_storeMap hx hn hp (by simp [execOp,e,Instr.makeMap,newObj,Sem.run])
 ·rename_i t p e
  simp only [Option.bind_eq_bind,Option.bind_eq_some_iff] at h
  obtain ⟨b,hb,h⟩:=h
  have hu:=(hc.ty _ _ hb).und
  split at h
  ·rename_i kt et k n hm hv
   injection h with h; subst h
   have hr:=er hv
   generalize hcv:a.eval p=cv at hr
   cases hr
   rw [hm] at hu
   exact run_storeMap hx hn hp (by simp [execOp,e,Instr.makeMap,hcv,run_underlying hu,Go.asInt,asIntOf,newObj,Sem.run])
  ·cases h
 ·rename_i t p q e
  simp only [Option.bind_eq_bind,Option.bind_eq_some_iff,Option.map_eq_some_iff] at h
  obtain ⟨pv,hpv,qv,hqv,⟨v,s'⟩,hv,rfl⟩:=h
  obtain ⟨y,c,h1,h2,h3,h4,h5,h6⟩:=aMakeSlice_ok (P:=P) hc hx hn (er hpv) (er hqv) hv
  exact wS hp (by simp [execOp,e,h1]) h2 h3 h4 h5 h6
 ·rename_i t p lo hi mx e
  simp only [Option.bind_eq_bind,Option.bind_eq_some_iff,Option.map_eq_some_iff] at h
  obtain ⟨b,hb,pv,hpv,lv,hlv,hiv,hhiv,mv,hmv,v,hv,rfl⟩:=h
  obtain ⟨c,h1,h2⟩:=aSlice_ok (P:=P) hc hb (er hpv) (evO_rep (P:=P) hg ht hlv) (evO_rep (P:=P) hg ht hhiv) (evO_rep (P:=P) hg ht hmv) hv x.w
  exact zT hx hp (by simp [execOp,e,h1]) h2
 ·rename_i t p f e
  simp only [Option.bind_eq_bind,Option.bind_eq_some_iff,Option.map_eq_some_iff] at h
  obtain ⟨pv,hpv,v,hv,rfl⟩:=h
  obtain ⟨c,h1,h2⟩:=aFieldAddr_ok (P:=P) hc (er hpv) hv x.w
  exact zT hx hp (by simp [execOp,e,h1]) h2
 ·rename_i t p f e
  simp only [Option.bind_eq_bind,Option.bind_eq_some_iff,Option.map_eq_some_iff] at h
  obtain ⟨pv,hpv,v,hv,rfl⟩:=h
  obtain ⟨c,h1,h2⟩:=aField_ok (P:=P) hc (er hpv) hv x.w
  exact zT hx hp (by simp [execOp,e,h1]) h2
 ·rename_i t p q e
  simp only [Option.bind_eq_bind,Option.bind_eq_some_iff,Option.map_eq_some_iff] at h
  obtain ⟨pv,hpv,qv,hqv,v,hv,rfl⟩:=h
  obtain ⟨c,h1,h2⟩:=aIndexAddr_ok (P:=P) hc (er hpv) (er hqv) hv x.w
  exact zT hx hp (by simp [execOp,e,h1]) h2
 ·rename_i t p q e
  simp only [Option.bind_eq_bind,Option.bind_eq_some_iff,Option.map_eq_some_iff] at h
  obtain ⟨pv,hpv,qv,hqv,v,hv,rfl⟩:=h
  obtain ⟨c,h1,h2⟩:=aIndex_ok (P:=P) hc (er hpv) (er hqv) hv x.w
  exact zT hx hp (by simp [execOp,e,h1]) h2
 ·rename_i t p q ok e
  simp only [Option.bind_eq_bind,Option.bind_eq_some_iff,Option.map_eq_some_iff] at h
  obtain ⟨pv,hpv,qv,hqv,v,hv,rfl⟩:=h
  obtain ⟨c,h1,h2⟩:=aLookup_ok (P:=P) hc hx (er hpv) (er hqv) hv
  exact zT hx hp (by simp [execOp,e,h1]) h2
 ·rename_i t m k p e
  simp only [Option.bind_eq_bind,Option.bind_eq_some_iff,Option.map_eq_some_iff] at h
  obtain ⟨mv,hmv,kv,hkv,pv,hpv,s',hs,rfl⟩:=h
  obtain ⟨y,h1,h2,h3,h4,h5⟩:=tQ (P:=P) hc hx (er hmv) (er hkv) (er hpv) hs
  exact post_skip hp (by simp [execOp,e,h1]) h2 h3 h4 h5
 ·rename_i t m k p e
  simp only [Option.bind_eq_bind,Option.bind_eq_some_iff,Option.map_eq_some_iff] at h
  obtain ⟨mv,hmv,kv,hkv,pv,hpv,s',hs,rfl⟩:=h
  obtain ⟨y,h1,h2,h3,h4,h5⟩:=tQ (P:=P) hc hx (er hmv) (er hkv) (er hpv) hs
  exact post_skip hp (by simp [execOp,e,h1]) h2 h3 h4 h5
 ·rename_i p xt t ok e
  simp only [Option.bind_eq_bind,Option.bind_eq_some_iff] at h
  obtain ⟨b,hb,h⟩:=h
  have hty:=hc.ty _ _ hb
  split at h
  ·cases h
  ·rename_i t' v hv hni
   have hr:=er hv
   generalize hcv:a.eval p=cv at hr
   cases hr with
   | iface _ hr' =>
    rename_i c
    split at h
    ·rename_i htt
     injection h with h; subst h
     have hrun:(Instr.typeAssert (.iface t' c) xt t ok).run P x.w=.ok (if ok then .tuple #[c,.bool true] else c) x.w:=by
      simp only [Instr.typeAssert,Sem.run_bind,run_underlying hty.und,Result.andThen_ok]
      cases hd:b.und <;> first | exact absurd hd (hni _) | (simp [htt])
     refine zT hx hp (c:=if ok then .tuple #[c,.bool true] else c) ?_ ?_
     ·simp only [execOp,e,hcv,Sem.run_bind,hrun,Result.andThen_ok,Sem.run_pure]
     ·cases ok
      ·exact hr'
      ·exact .tup (.cons hr' (.cons (.bool true) .nil))
    ·rename_i htt
     split at h
     ·rename_i hok
      injection h with h; subst h
      obtain ⟨z,h1,h2,h3⟩:=hty.run_zero (P:=P) x.w
      have hrun:(Instr.typeAssert (.iface t' c) xt t ok).run P x.w=.ok (.tuple #[z,.bool false]) x.w:=by
       simp only [Instr.typeAssert,Sem.run_bind,run_underlying hty.und,Result.andThen_ok]
       cases hd:b.und <;> first | exact absurd hd (hni _) | (simp [htt,hok,h1])
      refine zT hx hp (c:=.tuple #[z,.bool false]) ?_ (.tup (.cons (h2 x) (.cons (.bool false) .nil)))
      simp only [execOp,e,hcv,Sem.run_bind,hrun,Result.andThen_ok,Sem.run_pure]
     ·cases h
  ·rename_i hv hni
   split at h
   case isFalse=>cases h
   rename_i hok
   injection h with h; subst h
   have hr:=er hv
   generalize hcv:a.eval p=cv at hr
   cases hr
   obtain ⟨z,h1,h2,h3⟩:=hty.run_zero (P:=P) x.w
   have hrun:(Instr.typeAssert .nilIface xt t ok).run P x.w=.ok (.tuple #[z,.bool false]) x.w:=by
    simp only [Instr.typeAssert,Sem.run_bind,run_underlying hty.und,Result.andThen_ok]
    cases hd:b.und <;> first | exact absurd hd (hni _) | simp [hok,h1]
   refine zT hx hp (c:=.tuple #[z,.bool false]) ?_ (.tup (.cons (h2 x) (.cons (.bool false) .nil)))
   simp only [execOp,e,hcv,Sem.run_bind,hrun,Result.andThen_ok,Sem.run_pure]
  ·cases h
 ·rename_i p i e
  split at h
  case h_2=>cases h
  rename_i vs hv
  simp only [Option.map_eq_some_iff] at h
  obtain ⟨v,hv',rfl⟩:=h
  have hr:=er hv
  generalize hcv:a.eval p=cv at hr
  cases hr with
  | tup hl =>
   obtain ⟨c,h1,h2⟩:=hl.get i v hv'
   exact zT hx hp (c:=c) (by
    rw [Array.getElem?_toList] at h1
    simp [execOp,e,hcv,Instr.extract,h1]) h2
 ·rename_i t p e
  simp only [Option.bind_eq_bind,Option.bind_eq_some_iff,Option.map_eq_some_iff] at h
  obtain ⟨v,hv,⟨r1,s1⟩,hr1,rfl⟩:=h
  obtain ⟨y,c,h1,h2,h3,h4,h5,h6⟩:=aRange_ok (P:=P) hc hx hn (er hv) hr1
  exact wS hp (by simp [execOp,e,h1]) h2 h3 h4 h5 h6
 ·rename_i p str e
  simp only [Option.bind_eq_bind,Option.bind_eq_some_iff,Option.map_eq_some_iff] at h
  obtain ⟨v,hv,⟨r1,s1⟩,hr1,rfl⟩:=h
  obtain ⟨y,c,h1,h2,h3,h4,h5,h6⟩:=aNext_ok (P:=P) (ty:=o.type) hx (er hv) hr1
  exact wS hp (by simp [execOp,e,h1]) h2 h3 h4 h6 (fun i hi=>.inr (h5 ▸ hi))
 ·rename_i p e
  simp only [Option.bind_eq_bind,Option.bind_eq_some_iff,Option.map_eq_some_iff] at h
  obtain ⟨v,hv,r1,hr1,rfl⟩:=h
  obtain ⟨c,h1,h2⟩:=aEntry_ok (P:=P) hx (er hv) hr1
  exact zT hx hp (by simp [execOp,e,h1]) h2
 ·rename_i c e
  exact doCall_ok hc hcf hg hx hn ht e (fun fo id h1=>hy c fo id e h1) h hp
 ·rename_i c e
  split at h
  case h_2=>cases h
  rename_i fo args hcal hargs
  split at h
  case h_2=>cases h
  rename_i g first cap hv
  injection h with h; subst h
  have hr:=er hv
  generalize hcv:a.eval fo=cv at hr
  cases hr with
  | func _ hA hB =>
   rename_i A B
   unfold Oper.wp
   have:(execOp a.eval o).run P x.w=.ok (.defer { target:=.fn g B,args:=A++c.args.map a.eval }) x.w:=by
    simp [execOp,e,resolve,hcal,hcv,Deferred.ofValue]
   rw [this,Oper.upon_defer]
   exact hp rfl _ ⟨B,_,rfl,rfl,hB,by simpa using hA.append (uZ (P:=P) hg ht hargs)⟩
 ·rename_i p e
  split at h
  case h_2=>cases h
  rename_i t v hv
  injection h with h; subst h
  have hr:=er hv
  generalize hcv:a.eval p=cv at hr
  cases hr with
  | iface _ hr' =>
   rename_i c
   unfold Oper.wp
   have:(execOp a.eval o).run P x.w=.halt (.panic (.iface t c)) x.w:=by
    simp [execOp,e,hcv,run_panic_iface]
   rw [this,Oper.upon_panic]
   refine hp x _ (.same hx nw) ⟨rfl,fun j p hj=>?_⟩
   cases j with
   | zero =>
    simp at hj; subst hj
    exact ⟨_,rfl,.iface t hr',rfl,rfl⟩
   | succ j=>simp at hj
 ·cases h
/-! in the fence of a round, or of none -/
def FW (lr:Option Nat):Fence:={ fn:=fun _=>True,depth:=none,alive:=false,round:=lr }

def RoOk (x:Cx):Option Nat→Option Nat→Prop
 | none,none=>True
 | some i,some l=>x.K i∧(x.ρ i).1=l
 | _,_=>False

theorem RoOk.mono {x y:Cx} (h:x.le y) {ro lr:Option Nat} (hr:RoOk x ro lr):RoOk y ro lr:=by
 cases ro with
 | none=>cases lr <;> first | exact trivial | exact hr.elim
 | some i =>
  cases lr with
  | none=>exact hr.elim
  | some l=>exact ⟨(h.K i hr.1).1,by rw [(h.K i hr.1).2]; exact hr.2⟩

theorem calls_in {lr:Option Nat} {n:Nat} {f:FuncId} {args:Array Value} {w:World} {R:Ending→World→Prop} (h:Calls P f args w R):CallsIn (FW lr) n P f args w R :=
 show CallsIn Fence.wide n P f args w R from callsIn_wide.2 h

theorem wpIn_of_wp {lr:Option Nat} {n:Nat} {w:World} (h:o.wp P a w next Q) (hd:lr=none∨∀c,o.op≠.defer c):o.wpIn (FW lr) n P a w next Q:=by
 refine ⟨fun _ _=>trivial,?_⟩
 have hs:o.semAt (FW lr).round a.eval=execOp a.eval o:=by
  rcases hd with rfl | hd
  ·rfl
  ·exact Oper.semAt_eq _ _ _ hd
 rw [hs]
 unfold Oper.wp at h
 generalize (execOp a.eval o).run P w=r at h
 cases r with
 | ok u w' =>
  have hno:(FW lr).depth.isSome=true→1≤n:=fun h=>by cases h
  cases u with
  | enter f args=>exact ⟨hno,calls_in (Calls.mono h fun e w'' he=>by cases e <;> exact he)⟩
  | row row args=>exact ⟨hno,fun c cs _=>let ⟨v,w'',r,st⟩:=h c cs; ⟨v,w'',r,stepsIn_wide.2 st⟩⟩
  | value v=>exact h
  | skip=>exact h
  | defer d=>exact h
  | _=>exact h.elim
 | halt u w'=>cases u <;> simp only [Oper.upon,Oper.uponIn] at h ⊢ <;> first | exact h | exact h.elim

theorem vX (hc:cfg.Ok P) {cf:CF} (hcf:wv P cfg cf) (hg:GOk cfg x) (hx:Rel x) (hn:¬x.K nw) {sl:Bool} {tmps:List V} (ht:RepL x tmps a.tmps.toList) {lr:Option Nat} {n:Nat} (hd:lr=none∨∀c,o.op≠.defer c)
  (h:yS cfg cf sl nw o tmps x.s=some r) (hp:Post x nw a o.dst next Q r):o.wpIn (FW lr) n P a x.w next Q:=by
 by_cases hy:∃c fo id,o.op=.call c∧c.callee=.value fo∧ev cfg tmps fo=some (.yield id)
 ·obtain ⟨c,fo,id,hop,hcal,hev⟩:=hy
  have hfr:=xo (P:=P) hg ht hev
  rw [xZ] at h
  unfold doOp0 at h
  rw [hop] at h
  simp only [yY] at h
  split at h
  ·cases h
  rename_i args hargs
  have ha:=uZ (P:=P) hg ht hargs
  rw [hcal] at h
  simp only [hev] at h
  split at h
  case h_2=>cases h
  rename_i v s' hrd
  injection h with h; subst h
  generalize hfo:a.eval fo=F at hfr
  cases hfr with
  | yield _ hk =>
   obtain ⟨rr,h1,h2,h3⟩:=hcf.2 x id args _ (.ret v) s' hg hx hk ha hrd
   refine ⟨fun _ _=>trivial,?_⟩
   have hs:o.semAt (FW lr).round a.eval=execOp a.eval o:=Oper.semAt_eq _ _ _ (by rw [hop]; intro c h; cases h)
   have hargs':(c.args.toList.map a.eval).toArray=c.args.map a.eval:=by apply Array.toList_inj.1; simp
   rw [hargs'] at h2 h3
   have hrun:(execOp a.eval o).run P x.w=.ok (.round (x.ρ id).1 rr.fn ((rr.params.zip (c.args.map a.eval)).foldl (fun tmps (t,a)=>tmps.setIfInBounds t a) rr.tmps) rr.assign rr.body) x.w:=by
    have hexec:execOp a.eval o=(do let d ← resolve a.eval c o.type; invoke d.target d.args):=by simp only [execOp,hop]
    rw [hexec]
    simp [resolve,hcal,hfo,Deferred.ofValue,invoke,Instr.yield,Instr.getLoop,getObj,Sem.run,h1] at h2 ⊢
    simp [h2,Sem.run]
   rw [hs,hrun,Oper.uponIn_round]
   refine ⟨fun h=>(by cases h),RoundIn.mono (h3 (n - 1)) ?_⟩
   rintro E w' ⟨y,rfl,hw,he⟩
   have hw':Went x nw s' y:=⟨hw.le,hw.rel,hw.s,fun i hi=>(hw.grow i hi).elim .inl fun h=>.inr (.inr (h.elim (fun h=>Nat.le_of_eq h.symm) _root_.id))⟩
   cases E with
   | returned c=>exact hp y c hw' he
   | panicked ch=>exact he.elim
   | outgrown=>exact he.elim
 ·exact wpIn_of_wp (doOp_ok hc hcf hg hx hn ht (fun c fo id h1 h2 h3=>hy ⟨c,fo,id,h1,h2,h3⟩) h hp) hd
end
end Go.Proofs.YtchlfjhbijmdiaaGreatDoor.Ai

