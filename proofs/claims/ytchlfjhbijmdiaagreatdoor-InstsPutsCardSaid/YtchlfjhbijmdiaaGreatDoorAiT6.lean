/- Part of a reckoning of a Go program over abstract values, proved sound against the model. -/
import Derived.Test.YtchlfjhbijmdiaaGreatDoorAiT3
set_option linter.unusedSimpArgs false
set_option linter.unusedVariables false
namespace Go.Proofs.YtchlfjhbijmdiaaGreatDoor.Ai
noncomputable section
set_option maxRecDepth 100000

/-! what is known of functions, as a list of tables -/
def xi:List (FuncId×(List V→Option V))→FuncId→List V→Option V
 | [],_,_=>none
 | p::r,f,args=>if Nat.beq p.1 f then p.2 args else xi r f args
@[simp] theorem tabAt_nil (f:FuncId) (args:List V):xi [] f args=none:=rfl
@[simp] theorem yB (g:FuncId) (h:List V→Option V) (r:List (FuncId×(List V→Option V))) (f:FuncId) (args:List V):xi ((g,h)::r) f args=if g=f then h args else xi r f args:=by
 show (if Nat.beq g f=true then h args else xi r f args)=_
 by_cases e:g=f
 ·subst e; simp
 ·rw [if_neg e,if_neg (by simpa using e)]

def xa (P:Program) (cfg:Cfg) (l:List (FuncId×(List V→Option V))):Prop:=∀f h,(f,h)∈l→∀args v,h args=some v→zx P cfg f args v
theorem xa.nil {P:Program} {cfg:Cfg}:xa P cfg []:=fun _ _ h=>by cases h
theorem xa.cons {P:Program} {cfg:Cfg} {l:List (FuncId×(List V→Option V))} {f:FuncId} {h:List V→Option V} (h1:∀args v,h args=some v→zx P cfg f args v) (h2:xa P cfg l):xa P cfg ((f,h)::l):=fun g k hm=>by
 rcases List.mem_cons.1 hm with e | hm
 ·injection e with e1 e2; subst e1 e2; exact h1
 ·exact h2 g k hm
theorem xa.at {P:Program} {cfg:Cfg}:∀{l:List (FuncId×(List V→Option V))} (_:xa P cfg l) {f:FuncId} {args:List V} {v:V},xi l f args=some v→zx P cfg f args v
 | [],_,_,_,_,e=>by cases e
 | (g,k)::r,h,f,args,v,e=>by
  rw [yB] at e
  by_cases he:g=f
  ·rw [if_pos he] at e; subst he; exact h g k (by simp) args v e
  ·rw [if_neg he] at e; exact xa.at (fun f' h' hm=>h f' h' (by simp [hm])) e
theorem xa.cfg {P:Program} {cfg cfg':Cfg} {l:List (FuncId×(List V→Option V))} (h:xa P cfg l) (e:cfg'.glob=cfg.glob):xa P cfg' l:=fun f k hm args v hv=>(h f k hm args v hv).cfg e

theorem yq {c c':Cfg} (h:zC c=zC c'):∀(x:Code),yb c x=yb c' x
 | .region _ ops true=>by unfold yb yg; rw [h]
 | .region _ ops false=>rfl
 | .seq a b=>by unfold yb; rw [yq h a,yq h b]
 | .cond _ a b=>by unfold yb; rw [yq h a,yq h b]
 | .block _ a=>by unfold yb; rw [yq h a]
 | .loop a=>by unfold yb; rw [yq h a]
 | .scope a=>by unfold yb; rw [yq h a]
 | .skip | .rangeFunc .. | .exit _ | .label _ | .goto _ | .ret | .refuse _=>rfl

theorem fns_tab {P:Program} {mask:Nat} {glob:Nat→Option (List V)} {pure:List (Nat×Nat)} {raw:List Nat} (t t':FuncId→List V→Option V) (h:vc P (wc P mask glob pure raw t)=true):vc P (wc P mask glob pure raw t')=true:=by
 have hk:zC (wc P mask glob pure raw t)=zC (wc P mask glob pure raw t'):=rfl
 rw [← h]
 unfold vc fnFine
 congr 1
 funext p
 show (match (wc P mask glob pure raw t).fn p.2 with | some _=>_ | none=>true)=_
 cases (wc P mask glob pure raw t).fn p.2 with
 | none=>rfl
 | some _ =>
  simp only
  cases p.1.body with
  | none=>rfl
  | some c=>simp only [yq hk]

theorem mkCfg_tab {P:Program} {mask:Nat} {glob:Nat→Option (List V)} {pure:List (Nat×Nat)} {raw:List Nat} {l:List (FuncId×(List V→Option V))} (hm:P.follows .mixedOrders=true) (hg:∀g cs,glob g=some cs→V.freeL cs=true)
  (hf:vc P (wc P mask glob pure raw (fun _ _=>none))=true) (he:xN P pure=true) (ht:xa P (wc P mask glob pure raw (fun _ _=>none)) l):(wc P mask glob pure raw (xi l)).Ok P :=
 mkCfg_ok hm hg (fns_tab _ _ hf) he fun f args v h=>(ht.at h).cfg rfl

theorem withF_ok {P:Program} {cfg:Cfg} (h:cfg.Ok P) {fresh:FuncId→Option (TypeId×Option Nat)} {ftab:FuncId→List V→Option V} (hf:∀f args v,ftab f args=some v→yK P (cfg.withF fresh ftab) f args v):(cfg.withF fresh ftab).Ok P where
 fn:=h.fn
 draws:=fun f fn c h1 h2=>by
  have hk:zC (cfg.withF fresh ftab)=zC cfg:=rfl
  rw [yq hk]; exact h.draws f fn c h1 h2
 ty:=h.ty
 lies:=h.lies
 mixed:=h.mixed
 tab:=fun f args v hv=>(h.tab f args v hv).cfg rfl
 meth:=h.meth
 ftab:=hf
 gfree:=h.gfree
 names:=h.names
 ext10:=h.ext10
 ext11:=h.ext11
 ext12:=h.ext12

def FtOk (P:Program) (cfg:Cfg) (l:List (FuncId×(List V→Option V))):Prop:=∀f h,(f,h)∈l→∀args v,h args=some v→yK P cfg f args v
theorem FtOk.nil {P:Program} {cfg:Cfg}:FtOk P cfg []:=fun _ _ h=>by cases h
theorem FtOk.cons {P:Program} {cfg:Cfg} {l:List (FuncId×(List V→Option V))} {f:FuncId} {h:List V→Option V} (h1:∀args v,h args=some v→yK P cfg f args v) (h2:FtOk P cfg l):FtOk P cfg ((f,h)::l):=fun g k hm=>by
 rcases List.mem_cons.1 hm with e | hm
 ·injection e with e1 e2; subst e1 e2; exact h1
 ·exact h2 g k hm
theorem FtOk.at {P:Program} {cfg:Cfg}:∀{l:List (FuncId×(List V→Option V))} (_:FtOk P cfg l) {f:FuncId} {args:List V} {v:V},xi l f args=some v→yK P cfg f args v
 | [],_,_,_,_,e=>by cases e
 | (g,k)::r,h,f,args,v,e=>by
  rw [yB] at e
  by_cases he:g=f
  ·rw [if_pos he] at e; subst he; exact h g k (by simp) args v e
  ·rw [if_neg he] at e; exact FtOk.at (fun f' h' hm=>h f' h' (by simp [hm])) e
theorem yK.cfg {P:Program} {cfg cfg':Cfg} {f:FuncId} {args:List V} {v:V} (h:yK P cfg f args v) (h1:cfg'.glob=cfg.glob) (h2:cfg'.fresh f=cfg.fresh f) (h3:cfg'.ty=cfg.ty):yK P cfg' f args v:=by
 intro x cargs nw v' s' hg hx hn ha ht
 refine h x cargs nw v' s' (fun g cs hc=>hg g cs (by rw [h1]; exact hc)) hx hn ha ?_
 unfold zA at ht ⊢
 rw [← h2,← h3]; exact ht
end
end Go.Proofs.YtchlfjhbijmdiaaGreatDoor.Ai

namespace Go.Proofs.YtchlfjhbijmdiaaGreatDoor.Ai
noncomputable section
set_option maxRecDepth 100000

/-! plain data as values -/
def vI (n:Int):V:=.int .i64 n
def eI (l:List Int):V:=.list (l.map vI)
def dIL:List V→Option (List Int)
 | []=>some []
 | .int .i64 n::l=>(dIL l).map (n::·)
 | _=>none
def dI:V→Option (List Int)
 | .list l=>dIL l
 | _=>none
theorem dIL_eq:∀{l:List V} {x:List Int},dIL l=some x→l=x.map vI
 | [],x,h=>by injection h with h; subst h; rfl
 | .int .i64 n::l,x,h=>by
  simp only [dIL,Option.map_eq_some_iff] at h
  obtain ⟨y,h1,rfl⟩:=h
  rw [dIL_eq h1]; rfl
theorem dI_eq {v:V} {x:List Int} (h:dI v=some x):v=eI x:=by
 cases v <;> simp [dI] at h
 rw [dIL_eq h]; rfl
@[simp] theorem dIL_map (x:List Int):dIL (x.map vI)=some x:=by
 induction x with
 | nil=>rfl
 | cons a l ih=>simp [dIL,vI,ih]
@[simp] theorem dI_eI (x:List Int):dI (eI x)=some x:=dIL_map x
@[simp] theorem free_int (k:IntKind) (n:Int):(V.int k n).free=true:=rfl
@[simp] theorem free_bool (b:Bool):(V.bool b).free=true:=rfl
@[simp] theorem free_str (b:ByteArray):(V.str b).free=true:=rfl
@[simp] theorem free_nils:V.nils.free=true:=rfl
@[simp] theorem free_list (l:List V):(V.list l).free=V.freeL l:=rfl
@[simp] theorem free_agg (l:List V):(V.agg l).free=V.freeL l:=rfl
@[simp] theorem free_tup (l:List V):(V.tup l).free=V.freeL l:=rfl
@[simp] theorem free_cptr (l:List V) (o:Nat):(V.cptr l o).free=V.freeL l:=rfl
@[simp] theorem free_func (f:Fn) (a b:List V):(V.func f a b).free=(V.freeL a && V.freeL b):=rfl
@[simp] theorem freeL_nil:V.freeL []=true:=rfl
@[simp] theorem freeL_cons (v:V) (l:List V):V.freeL (v::l)=(v.free && V.freeL l):=rfl
theorem vN {α:Type} (f:α→V) (h:∀a,(f a).free=true):∀l:List α,V.freeL (l.map f)=true
 | []=>rfl
 | a::l=>by simp [h a,vN f h l]
@[simp] theorem free_vI (n:Int):(vI n).free=true:=rfl
@[simp] theorem freeL_vI (l:List Int):V.freeL (l.map vI)=true:=vN vI (fun _=>rfl) l
@[simp] theorem free_eI (l:List Int):(eI l).free=true:=freeL_vI l

/-! what is laid -/
theorem laid_int {s:S} {k:IntKind} {n:Int} {v:V}:wL s (.int k n) v=(v=.int k n):=by
 simp only [wL,eq_iff_iff]
 constructor
 ·rintro ⟨h,_⟩
  have:see tV s (.int k n)=some (.int k n):=rfl
  rw [this] at h; injection h with h; exact h.symm
 ·rintro rfl; exact ⟨rfl,rfl⟩
theorem laid_bool {s:S} {b:Bool} {v:V}:wL s (.bool b) v=(v=.bool b):=by
 simp only [wL,eq_iff_iff]
 constructor
 ·rintro ⟨h,_⟩
  have:see tV s (.bool b)=some (.bool b):=rfl
  rw [this] at h; injection h with h; exact h.symm
 ·rintro rfl; exact ⟨rfl,rfl⟩
theorem laid_list {s:S} {l:List V} {v:V}:wL s (.list l) v=(v=.list l∧V.freeL l=true):=by
 simp only [wL,eq_iff_iff]
 have:see tV s (.list l)=some (.list l):=rfl
 constructor
 ·rintro ⟨h,hf⟩
  rw [this] at h; injection h with h; subst h; exact ⟨rfl,hf⟩
 ·rintro ⟨rfl,h⟩; exact ⟨rfl,h⟩
attribute [simp] laid_int laid_bool laid_list

/-- Numbers that do not overflow. -/
theorem zN {x:Int} (h0:-9223372036854775808≤x) (h1:x<9223372036854775808):IntKind.i64.wrap x=x:=wrap_id h0 h1
@[simp] theorem vI_one (n:Int):(vI n).one=true:=rfl
@[simp] theorem vI_cells (n:Int):(vI n).cells=[vI n]:=rfl
@[simp] theorem eI_one (l:List Int):(eI l).one=true:=rfl
@[simp] theorem eI_cells (l:List Int):(eI l).cells=[eI l]:=rfl
@[simp] theorem dI_list (x:List Int):dI (.list (x.map vI))=some x:=dIL_map x
@[simp] theorem dI_lnil:dI (.list [])=some []:=rfl
@[simp] theorem isLN_vI (n:Int):isLN (vI n)=false:=rfl
@[simp] theorem isLN_eI (l:List Int):isLN (eI l)=true:=rfl
def arg1 {α:Type} (d:V→Option α):List V→Option α
 | [a]=>d a
 | _=>none
@[simp] theorem arg1_one {α:Type} (d:V→Option α) (a:V):arg1 d [a]=d a:=rfl
theorem arg1_eq {α:Type} {d:V→Option α} {l:List V} {x:α} (h:arg1 d l=some x):∃a,l=[a]∧d a=some x:=by
 unfold arg1 at h
 split at h
 ·exact ⟨_,rfl,h⟩
 ·cases h
/-- A slice of the function's own, with these cells. -/
def Own (t:TypeId) (s s':S) (v:V) (cs:List V) (n sz:Nat) (ag:Bool):Prop :=
 ((v=.nils∨v=.list [])∧n=0∧cs=[])∨∃id cp ex,v=.arr id 0 n sz ag cp∧s.next≤id∧id<s'.next∧s'.get id=some (.cells cs 0 t ex)
/-! what is appended stays as it is -/
theorem wE {d:Nat} {s:S}:∀(l:List V) (k:Nat),(∀v∈l,∀k,d≤k→lay k s v=some (v,s))→l.length+d≤k→0<k→layL k s l=some (l,s)
 | [],k+1,_,_,_=>rfl
 | v::l,k+1,h,hk,_=>by
  simp only [List.length_cons] at hk
  unfold layL
  rw [h v (by simp) k (by omega)]
  simp only
  cases k with
  | zero =>
   have h0:=h v (by simp) 0 (by omega)
   simp [lay] at h0
  | succ k=>rw [wE l (k+1) (fun w hw=>h w (by simp [hw])) (by omega) (by omega)]
theorem lay_vI {s:S} (n:Int) (k:Nat) (h:1≤k):lay k s (vI n)=some (vI n,s):=by
 obtain ⟨k,rfl⟩:∃m,k=m+1:=⟨k - 1,by omega⟩
 rfl
theorem layIf_I {s:S} {sl:Bool} {x:List Int} (h:x.length≤90000):xD sl s (x.map vI)=some (x.map vI,s):=by
 unfold xD
 cases sl with
 | false=>rfl
 | true =>
  exact wE (d:=1) _ _ (fun v hv k hk=>by
   obtain ⟨n,_,rfl⟩:=List.mem_map.1 hv
   exact lay_vI n k hk) (by unfold tV; simp; omega) (by unfold tV; omega)
@[simp] theorem all_one_vI (x:List Int):(x.map vI).all V.one=true:=by simp [vI]
@[simp] theorem flat_vI (x:List Int):(x.map vI).flatMap V.cells=x.map vI:=by
 induction x with
 | nil=>rfl
 | cons a l ih=>simp [ih]
@[simp] theorem sz_vI (x:List Int):(x.map vI).all (fun e=>e.cells.length == 1)=true:=by simp
end
end Go.Proofs.YtchlfjhbijmdiaaGreatDoor.Ai

namespace Go.Proofs.YtchlfjhbijmdiaaGreatDoor.Ai
noncomputable section
open Go.RowKit (Below)
set_option maxRecDepth 100000

/-! functions that give something new -/
mutual
theorem Rep.along {x y z:Cx} (hw:z.w=y.w) (hno:∀b,z.no b→y.no b) (hK:∀i,x.K i→z.K i∧z.ρ i=y.ρ i) {v:V} {c c':Value}:Rep x v c→Rep y v c'→Rep z v c'
 | .bool b,.bool _=>.bool b
 | .int k n,.int _ _=>.int k n
 | .str s,.str _=>.str s
 | .nilp,.nilp=>.nilp
 | .ptr id off hk,.ptr _ _ hk'=>by
  have:=Rep.ptr (x:=z) id off (hK id hk).1
  rwa [(hK id hk).2] at this
 | .cptr _ _ _ _ h1,.cptr b o off hh h2=>.cptr b o off ⟨by rw [hw]; exact hh.1,fun k=>hh.2.1 (hno _ k),by rw [hw]; exact hh.2.2⟩ (RepL.along hw hno hK h1 h2)
 | .list _ _ _ _ _ h1 _ _,.list b o cap sz hh h2 hc he=>.list b o cap sz ⟨by rw [hw]; exact hh.1,fun k=>hh.2.1 (hno _ k),by rw [hw]; exact hh.2.2⟩ (RepL.along hw hno hK h1 h2) hc he
 | .lempty _ _,.list b o cap sz hh h2 hc he=>.list b o cap sz ⟨by rw [hw]; exact hh.1,fun k=>hh.2.1 (hno _ k),by rw [hw]; exact hh.2.2⟩ (by cases h2; exact .nil) hc he
 | .list _ _ _ _ _ _ _ _,.lempty a cap=>.lempty a cap
 | .lempty _ _,.lempty a cap=>.lempty a cap
 | .nils,.nils=>.nils
 | .arr id off len sz ag cp _ _ _ hk _ _ _ _ _,.arr _ _ _ _ _ _ o cap n _ h1 h2 h3 h4 h5=>by
  have:=Rep.arr (x:=z) id off len sz ag cp o cap n (hK id hk).1
  rw [(hK id hk).2] at this
  exact this h1 h2 (by unfold yZ at h3 ⊢; rw [hw]; exact h3) h4 h5
 | .map id hk,.map _ _=>by
  have:=Rep.map (x:=z) id (hK id hk).1
  rwa [(hK id hk).2] at this
 | .nilm,.nilm=>.nilm
 | .yield id hk,.yield _ _=>by
  have:=Rep.yield (x:=z) id (hK id hk).1
  rwa [(hK id hk).2] at this
 | .func fn a b,.func _ c d=>.func fn (RepL.along hw hno hK a c) (RepL.along hw hno hK b d)
 | .nilf,.nilf=>.nilf
 | .iface t a,.iface _ b=>.iface t (Rep.along hw hno hK a b)
 | .nili,.nili=>.nili
 | .agg a,.agg b=>.agg (RepL.along hw hno hK a b)
 | .tup a,.tup b=>.tup (RepL.along hw hno hK a b)
theorem RepL.along {x y z:Cx} (hw:z.w=y.w) (hno:∀b,z.no b→y.no b) (hK:∀i,x.K i→z.K i∧z.ρ i=y.ρ i) {l:List V} {m m':List Value}:RepL x l m→RepL y l m'→RepL z l m'
 | .nil,.nil=>.nil
 | .cons a b,.cons c d=>.cons (Rep.along hw hno hK a c) (RepL.along hw hno hK b d)
end

theorem tU.along {x y z:Cx} (hw:z.w=y.w) (hno:∀b,z.no b→y.no b) (hK:∀i,x.K i→z.K i∧z.ρ i=y.ρ i) {b b' n n':Nat} {o:O} (h1:tU x b n o) (h2:tU y b' n' o):tU z b' n' o:=by
 cases o with
 | cells cs frz ty ex =>
  obtain ⟨_,_,_,_,_,h1,_⟩:=h1
  obtain ⟨C,lo,hi,vs,h2,h3,h4⟩:=h2
  exact ⟨C,lo,hi,vs,by rw [hw]; exact h2,RepL.along hw hno hK h1 h3,h4⟩
 | map es clock =>
  obtain ⟨E1,_,h1⟩:=h1
  obtain ⟨E,h2,h3⟩:=h2
  refine ⟨E,by rw [hw]; exact h2,h3.1,fun j e hj=>?_⟩
  obtain ⟨m1,_,a1,a2,_⟩:=h1.2 j e hj
  obtain ⟨m,b0,b1,b2,b3⟩:=h3.2 j e hj
  exact ⟨m,b0,Rep.along hw hno hK a1 b1,Rep.along hw hno hK a2 b2,b3⟩
 | iter m since seen last =>
  cases m with
  | none=>exact ⟨h2.1,by rw [hw]; exact h2.2⟩
  | some id=>exact ⟨h2.1,(hK id h1.2.1).1,by rw [hw,(hK id h1.2.1).2]; exact h2.2.2⟩
 | siter s pos=>exact ⟨h2.1,by rw [hw]; exact h2.2⟩
 | dblk up=>exact ⟨h2.1,by rw [hw]; exact h2.2⟩
 | loop st pd tm ps asg bd =>
  obtain ⟨_,_,_,_,_,_,_,_,h1⟩:=h1
  obtain ⟨e0,r,e1,e2,e3,e4,e5,e6,h3⟩:=h2
  exact ⟨e0,r,by rw [hw]; exact e1,e2,e3,e4,e5,e6,RepL.along hw hno hK h1 h3⟩

/-- What was known, and nothing of what came. -/
theorem forget {x y:Cx} (hx:Rel x) {nw:Nat} {s0:S} (hw:Went x nw s0 y) (hk:x.s.keeps s0):x.le ⟨y.w,y.ρ,x.K,x.s,x.B⟩∧Rel ⟨y.w,y.ρ,x.K,x.s,x.B⟩:=by
 have hs:=hw.s
 subst hs
 have hle:x.le ⟨y.w,y.ρ,x.K,x.s,x.B⟩:=⟨rfl,fun i hi=>⟨hi,(hw.le.K i hi).2⟩,hw.le.size,hw.le.keep,hw.le.csz,fun b hb ⟨i,o,hi,hr⟩=>⟨i,o,hi,by
  have hK:=(hx.live i o hi).1
  rw [← (hw.le.K i hK).2]; exact hr⟩,hw.le.os,hw.le.tape,hw.le.output⟩
 have hat:∀i o,x.s.get i=some o→x.K i∧y.s.get i=some o∧y.ρ i=x.ρ i:=fun i o hi=>by
  have hK:=(hx.live i o hi).1
  exact ⟨hK,by rw [hk.at (hx.lt i hK)]; exact hi,(hw.le.K i hK).2⟩
 have hno:∀b,(⟨y.w,y.ρ,x.K,x.s,x.B⟩:Cx).no b→y.no b:=by
  rintro b (hb | ⟨i,o,hi,hb⟩)
  ·left; rw [hw.le.B]; exact hb
  ·exact .inr ⟨i,o,(hat i o hi).2.1,hb⟩
 refine ⟨hle,⟨hx.lt,fun i o hi=>⟨(hat i o hi).1,?_⟩,fun i j o p hi hj hb=>?_,fun b hb=>Nat.lt_of_lt_of_le (hx.room b hb) hw.le.size,fun i o hi=>?_⟩⟩
 ·exact tU.along (x:=x) (y:=y) (z:=⟨y.w,y.ρ,x.K,x.s,x.B⟩) rfl hno (fun i hi=>⟨hi,rfl⟩) (hx.live i o hi).2 (hw.rel.live i o (hat i o hi).2.1).2
 ·exact hw.rel.inj i j o p (hat i o hi).2.1 (hat j p hj).2.1 hb
 ·have:=hw.rel.apart i o (hat i o hi).2.1
  rw [hw.le.B] at this
  exact this

/-- What was known, and one slice that is new. -/
theorem adopt {x y:Cx} (hx:Rel x) {nw:Nat} (hn:¬x.K nw) {k:Nat} {s0:S} (hw:Went x k s0 y) (hk:x.s.keeps s0) {id:Nat} (hid:x.s.next≤id) {cs:List V} {t:TypeId} {ex:Bool} (hg:s0.get id=some (.cells cs 0 t ex)) (hfree:V.freeL cs=true)
  {len sz cp:Nat} {ag:Bool} {c:Value} (hr:Rep y (.arr id 0 len sz ag cp) c) :
  ∃z:Cx,z.w=y.w∧x.le z∧Rel z∧z.s=x.s.add nw (.cells cs 0 t false)∧(∀i,z.K i→x.K i∨i=nw)∧Rep z (.arr nw 0 len sz ag 0) c:=by
 have hs:=hw.s
 subst hs
 let z:Cx:=⟨y.w,fun i=>if i=nw then y.ρ id else y.ρ i,fun i=>x.K i∨i=nw,x.s.add nw (.cells cs 0 t false),x.B⟩
 have hat:∀i o,x.s.get i=some o→x.K i∧y.s.get i=some o∧y.ρ i=x.ρ i∧i≠nw∧i<x.s.next:=fun i o hi=>by
  have hK:=(hx.live i o hi).1
  exact ⟨hK,by rw [hk.at (hx.lt i hK)]; exact hi,(hw.le.K i hK).2,fun e=>hn (e ▸ hK),hx.lt i hK⟩
 have hz:∀i,z.s.get i=if i=nw then some (.cells cs 0 t false) else x.s.get i:=fun i=>S.get_add _ _ _ _
 have hρ:∀i,i≠nw→z.ρ i=y.ρ i:=fun i h=>if_neg h
 have hρn:z.ρ nw=y.ρ id:=if_pos rfl
 have hno:∀b,z.no b→y.no b:=by
  rintro b (hb | ⟨i,o,hi,hb⟩)
  ·left; rw [hw.le.B]; exact hb
  ·right
   rw [hz] at hi
   by_cases e:i=nw
   ·subst e; rw [hρn] at hb; exact ⟨id,_,hg,hb⟩
   ·rw [if_neg e] at hi; rw [hρ i e] at hb; exact ⟨i,o,(hat i o hi).2.1,hb⟩
 have hK:∀i,x.K i→z.K i∧z.ρ i=y.ρ i:=fun i hi=>⟨.inl hi,hρ i fun e=>hn (e ▸ hi)⟩
 have hle:x.le z:=⟨rfl,fun i hi=>⟨.inl hi,by rw [(hK i hi).2,(hw.le.K i hi).2]⟩,hw.le.size,hw.le.keep,hw.le.csz,fun b hb ⟨i,o,hi,hr⟩=>by
  rw [hz] at hi
  by_cases e:i=nw
  ·subst e; rw [hρn] at hr; exact hw.le.own b hb ⟨id,_,hg,hr⟩
  ·rw [if_neg e] at hi
   rw [hρ i e,(hat i o hi).2.2.1] at hr
   exact ⟨i,o,hi,hr⟩,hw.le.os,hw.le.tape,hw.le.output⟩
 refine ⟨z,rfl,hle,⟨fun i hi=>?_,fun i o hi=>?_,fun i j o p hi hj hb=>?_,fun b hb=>Nat.lt_of_lt_of_le (hx.room b hb) hw.le.size,fun i o hi=>?_⟩,rfl,fun i hi=>hi,?_⟩
 ·show i<(x.s.add nw _).next
  rw [S.next_add]
  rcases hi with hi | hi
  ·have:=hx.lt i hi; omega
  ·omega
 ·rw [hz] at hi
  by_cases e:i=nw
  ·subst e
   rw [if_pos rfl] at hi
   injection hi with hi
   subst hi
   refine ⟨.inr rfl,?_⟩
   rw [hρn]
   obtain ⟨C,lo,hi',vs,h1,h2,h3,h4,_⟩:=(hw.rel.live id _ hg).2
   exact ⟨C,lo,hi',vs,h1,h2.free (x:=y) (x':=z) rfl hno hfree,h3,h4,fun h=>by cases h⟩
  ·rw [if_neg e] at hi
   obtain ⟨a1,a2,a3,_⟩:=hat i o hi
   refine ⟨.inl a1,?_⟩
   rw [hρ i e]
   exact tU.along (x:=x) (y:=y) (z:=z) rfl hno hK (hx.live i o hi).2 (hw.rel.live i o a2).2
 ·rw [hz] at hi hj
  by_cases e:i=nw
  ·by_cases e':j=nw
   ·rw [e,e']
   ·exfalso
    subst e
    rw [if_neg e'] at hj
    obtain ⟨a1,a2,a3,_,a5⟩:=hat j p hj
    rw [hρn,hρ j e'] at hb
    have:=hw.rel.inj id j _ p hg a2 hb
    omega
  ·by_cases e':j=nw
   ·exfalso
    subst e'
    rw [if_neg e] at hi
    obtain ⟨a1,a2,a3,_,a5⟩:=hat i o hi
    rw [hρn,hρ i e] at hb
    have:=hw.rel.inj i id o _ a2 hg hb
    omega
   ·rw [if_neg e] at hi
    rw [if_neg e'] at hj
    rw [hρ i e,hρ j e'] at hb
    exact hw.rel.inj i j o p (hat i o hi).2.1 (hat j p hj).2.1 hb
 ·rw [hz] at hi
  by_cases e:i=nw
  ·subst e
   rw [hρn]
   have:=hw.rel.apart id _ hg
   rw [hw.le.B] at this
   exact this
  ·rw [if_neg e] at hi
   rw [hρ i e]
   have:=hw.rel.apart i o (hat i o hi).2.1
   rw [hw.le.B] at this
   exact this
 ·cases hr with
  | arr _ _ _ _ _ _ o cap n hk' h1 h2 h3 h4 h5 =>
   have:=Rep.arr (x:=z) nw 0 len sz ag 0 o cap n (.inr rfl)
   rw [hρn] at this
   exact this h1 h2 h3 h4 (.inl rfl)

/-- How a result fits what is told of it: the slice is the function's own, all else has no parts elsewhere. -/
def FreshV (t:TypeId) (b:ATy) (pos:Option Nat) (s s0:S) (v v0:V):Prop:=match pos,v with
 | none,.list es=>Own t s s0 v0 (es.flatMap V.cells) es.length b.size (zS b.und)∧V.freeL es=true
 | none,.nils=>v0=.nils
 | some k,.agg cs=>∃es l0,cs[k]?=some (.list es)∧v0=.agg (cs.set k l0)∧Own t s s0 l0 (es.flatMap V.cells) es.length b.size (zS b.und)∧V.freeL es=true∧∀j w,j≠k→cs[j]?=some w→w.flatv=true
 | _,_=>False

theorem own_rep {x y:Cx} (hx:Rel x) {nw:Nat} (hn:¬x.K nw) {k:Nat} {s0:S} (hw:Went x k s0 y) (hk:x.s.keeps s0) {t:TypeId} {b:ATy} {es:List V} {l0:V} (ho:Own t x.s s0 l0 (es.flatMap V.cells) es.length b.size (zS b.und)) (hf:V.freeL es=true)
  {l':V} {s':S} (ht:zw nw t b es x.s=some (l',s')) {c:Value} (hr:Rep y l0 c) :
  ∃z:Cx,z.w=y.w∧x.le z∧Rel z∧z.s=s'∧(∀i,z.K i→x.K i∨i=nw)∧Rep z l' c:=by
 unfold zw at ht
 split at ht
 ·rename_i he
  simp only [Option.some.injEq,Prod.mk.injEq] at ht
  obtain ⟨rfl,rfl⟩:=ht
  have he':es=[]:=by simpa using he
  subst he'
  obtain ⟨h1,h2⟩:=forget hx hw hk
  refine ⟨⟨y.w,y.ρ,x.K,x.s,x.B⟩,rfl,h1,h2,rfl,fun i hi=>.inl hi,?_⟩
  rcases ho with ⟨rfl | rfl,_,_⟩ | ⟨id,cp,ex,rfl,_⟩
  ·cases hr; exact .lempty _ _
  ·cases hr <;> first | exact .lempty _ _ | assumption
  ·cases hr; exact .lempty _ _
 ·rename_i he
  split at ht
  ·simp only [Option.some.injEq,Prod.mk.injEq] at ht
   obtain ⟨rfl,rfl⟩:=ht
   rcases ho with ⟨_,h0,_⟩ | ⟨id,cp,ex,rfl,h1,h2,h3⟩
   ·have:es=[]:=List.eq_nil_of_length_eq_zero h0
    simp [this] at he
   ·exact adopt hx hn hw hk h1 h3 (um es hf) hr
  ·cases ht

theorem fresh_of {P:Program} {cfg:Cfg} {f:FuncId} {args:List V} {v:V} {t:TypeId} {pos:Option Nat} {b:ATy} (hf:cfg.fresh f=some (t,pos)) (ht:cfg.ty t=some b)
  (h:∀(x:Cx) (cargs:List Value),GOk cfg x→Rel x→RepL x args cargs→Calls P f cargs.toArray x.w fun E w'=>∃y:Cx,y.w=w'∧EndW x (fun v0 s0=>x.s.keeps s0∧FreshV t b pos x.s s0 v v0) (fun _ _=>False) y E):yK P cfg f args v:=by
 intro x cargs nw v' s' hg hx hn ha hth
 refine (h x cargs hg hx ha).mono ?_
 rintro E w' ⟨y,rfl,he⟩
 cases E with
 | panicked d=>obtain ⟨_,_,_,_,_,h⟩:=he; exact h.elim
 | outgrown=>exact he.elim
 | returned c =>
  obtain ⟨v0,s0,hw,_,hr,hk,hv⟩:=he
  unfold zA at hth
  simp only [hf,ht] at hth
  unfold FreshV at hv
  split at hth
  ·rename_i es
   simp only at hv
   obtain ⟨z,h1,h2,h3,h4,h5,h6⟩:=own_rep hx hn hw hk hv.1 hv.2 hth hr
   exact ⟨z,c,h1,h2,h3,h4,h5,rfl,h6⟩
  ·simp only at hv
   subst hv
   simp only [Option.some.injEq,Prod.mk.injEq] at hth
   obtain ⟨rfl,rfl⟩:=hth
   obtain ⟨h1,h2⟩:=forget hx hw hk
   refine ⟨⟨y.w,y.ρ,x.K,x.s,x.B⟩,c,rfl,h1,h2,rfl,fun i hi=>.inl hi,rfl,?_⟩
   cases hr; exact .nils
  ·rename_i k cs
   simp only at hv
   obtain ⟨es,l0,e1,rfl,e3,e4,e5⟩:=hv
   simp only [e1] at hth
   split at hth
   ·rename_i l' s1 hth'
    simp only [Option.some.injEq,Prod.mk.injEq] at hth
    obtain ⟨rfl,rfl⟩:=hth
    cases hr with
    | agg hl =>
     rename_i C
     have hklt:k<cs.length:=(List.getElem?_eq_some_iff.1 e1).1
     obtain ⟨cl,hcl,hrl⟩:=hl.get k l0 (by simp [hklt])
     obtain ⟨z,h1,h2,h3,h4,h5,h6⟩:=own_rep hx hn hw hk e3 e4 hth' hrl
     refine ⟨z,_,h1,h2,h3,h4,h5,rfl,.agg (RepL.of_get ?_ fun j w hj=>?_)⟩
     ·have:=hl.length; simpa using this
     ·by_cases e:j=k
      ·subst e
       have:w=l':=by simpa [hklt] using hj.symm
       subst this
       exact ⟨cl,hcl,h6⟩
      ·have hj':cs[j]?=some w:=by simpa [List.getElem?_set,Ne.symm e] using hj
       obtain ⟨cw,hcw,hrw⟩:=hl.get j w (by simpa [List.getElem?_set,Ne.symm e] using hj')
       exact ⟨cw,hcw,hrw.flatv (e5 j w e hj')⟩
   ·cases hth
  ·cases hth
end
end Go.Proofs.YtchlfjhbijmdiaaGreatDoor.Ai

