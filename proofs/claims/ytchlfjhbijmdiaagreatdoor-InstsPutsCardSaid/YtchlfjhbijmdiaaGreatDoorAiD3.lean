/- Part of a reckoning of a Go program over abstract values, proved sound against the model. -/
import Derived.Test.YtchlfjhbijmdiaaGreatDoorAiD1
import Derived.Laws.Externs
import Derived.KernelRfl
import Derived.Lay
import Derived.Deep.DeepHandedRow
set_option linter.unusedSimpArgs false
set_option linter.unusedVariables false
namespace Go.Proofs.YtchlfjhbijmdiaaGreatDoor.Ai
open Go.RowKit (Below)

/-- What the kernel looks at, once for a table of functions. -/
def fnFine (cfg:Cfg) (fn:Func):Bool :=
 fn.name != "runtime.NumGoroutine" && (match fn.body with
  | some c=>yb cfg c
  | none=>true)

def vc (P:Program) (cfg:Cfg):Bool:=P.funcs.toList.zipIdx.all fun p=>match cfg.fn p.2 with
 | some _=>fnFine cfg p.1
 | none=>true

/-- A function without a body, by its name. -/
def vU (P:Program) (name:String) (f:Nat):Bool:=match P.funcs[f]? with
 | some fn=>fn.body.isNone && fn.name == name && (Extern.findNext fn).isNone
 | none=>true

def xN (P:Program):List (Nat×Nat)→Bool
 | []=>true
 | (f,k)::l=>(k != 10 || vU P "internal/abi.NoEscape" f) && (k != 11 || vU P "internal/bytealg.abigen_runtime_cmpstring" f) && (k != 12 || vU P "internal/bytealg.IndexByteString" f) && xN P l

theorem assoc_mem:∀(l:List (Nat×Nat)) (f:Nat),te l f≠0→(f,te l f)∈l
 | [],f,h=>by simp [te] at h
 | (a,b)::r,f,h=>by
  simp only [te] at h ⊢
  split
  ·rename_i e
   have:a=f:=by simpa using e
   subst this; simp
  ·rename_i e
   rw [if_neg e] at h
   exact List.mem_cons_of_mem _ (assoc_mem r f h)

theorem exts_mem {P:Program}:∀(l:List (Nat×Nat)),xN P l=true→∀f k,(f,k)∈l→(k=10→vU P "internal/abi.NoEscape" f=true)∧(k=11→vU P "internal/bytealg.abigen_runtime_cmpstring" f=true)∧(k=12→vU P "internal/bytealg.IndexByteString" f=true)
 | [],_,f,k,h=>by simp at h
 | (a,b)::r,h,f,k,hm=>by
  simp only [xN,Bool.and_eq_true,Bool.or_eq_true,bne_iff_ne] at h
  rcases List.mem_cons.1 hm with e | hm
  ·injection e with e1 e2; subst e1 e2
   exact ⟨fun hk=>h.1.1.1.resolve_left fun h=>h hk,fun hk=>h.1.1.2.resolve_left fun h=>h hk,fun hk=>h.1.2.resolve_left fun h=>h hk⟩
  ·exact exts_mem r h.2 f k hm

theorem find_noescape (fn:Func) (h:fn.name= "internal/abi.NoEscape"):Extern.find fn=some Extern.AbiNoEscape.same:=by
 obtain ⟨name,_⟩:=fn
 simp only at h
 subst h
 kernel_rfl

theorem find_cmpstring (fn:Func) (h:fn.name= "internal/bytealg.abigen_runtime_cmpstring"):Extern.find fn=some Extern.BytealgCompare.compare:=by
 obtain ⟨name,_⟩:=fn
 simp only at h
 subst h
 kernel_rfl

theorem find_indexbyte (fn:Func) (h:fn.name= "internal/bytealg.IndexByteString"):Extern.find fn=some Extern.BytealgIndexByte.indexByte:=by
 obtain ⟨name,_⟩:=fn
 simp only at h
 subst h
 kernel_rfl

theorem ext_run {P:Program} {name:String} {e:Array Value→Sem Value} (he:∀fn:Func,fn.name=name→Extern.find fn=some e) {f:FuncId} {fn:Func} (hf:P.funcs[f]?=some fn) (hn:(fn.name == "runtime.NumGoroutine")=false) (h:vU P name f=true)
  (args:Array Value) (w:World):(callFunc f args).run P w=((e args).run P w).andThen fun v w=>.ok (.value v) w:=by
 simp only [vU,hf,Bool.and_eq_true,beq_iff_eq] at h
 exact run_callFunc_extern hf hn h.1.1 (by simpa using h.2) (he fn h.1.2) args w

theorem mkTy_ok {P:Program} {t:TypeId} {a:ATy} (h:mkTy P t=some a):TyOk P t a:=by
 unfold mkTy at h
 simp only [Option.bind_eq_bind,Option.bind_eq_some_iff] at h
 obtain ⟨i,hi,u,hu,z,hz,zv,hzv,h⟩:=h
 split at h
 case isFalse=>cases h
 rename_i hs
 injection h with h
 subst h
 exact ⟨hu,⟨i,z,hi,rfl,rfl,hz,⟨3,hzv⟩,hs⟩,fun h=>h⟩

theorem mkMeth_ok {P:Program} {t:TypeId} {name:String} {f:FuncId} {e:Option TypeId} (h:mkMeth P t name=some (f,e)):MethOk P t name f e:=by
 unfold mkMeth at h
 simp only [Option.bind_eq_bind,Option.bind_eq_some_iff] at h
 obtain ⟨i,hi,m,hm,u,hu,h⟩:=h
 split at h
 case isFalse=>cases h
 rename_i hp
 have hp':m.path=#[]:=by simpa using hp
 split at h
 ·rename_i g hf
  split at h
  ·rename_i b
   simp only [Option.some.injEq,Prod.mk.injEq] at h
   obtain ⟨rfl,rfl⟩:=h
   exact ⟨i,m,_,true,hi,hm,hu,hp',hf,.inl ⟨rfl,b,rfl⟩⟩
  ·cases h
 ·rename_i g hf
  split at h
  ·rename_i b
   simp only [Option.some.injEq,Prod.mk.injEq] at h
   obtain ⟨rfl,rfl⟩:=h
   exact ⟨i,m,_,false,hi,hm,hu,hp',hf,rfl,rfl⟩
  ·rename_i hn
   simp only [Option.some.injEq,Prod.mk.injEq] at h
   obtain ⟨rfl,rfl⟩:=h
   exact ⟨i,m,u,false,hi,hm,hu,hp',hf,.inr ⟨rfl,fun b hb=>hn b hb⟩⟩
 ·cases h

theorem mkCfg_ok {P:Program} {mask:Nat} {glob:Nat→Option (List V)} {pure:List (Nat×Nat)} {raw:List Nat} {tab:FuncId→List V→Option V} (hm:P.follows .mixedOrders=true) (hg:∀g cs,glob g=some cs→V.freeL cs=true)
  (hf:vc P (wc P mask glob pure raw tab)=true) (he:xN P pure=true) (ht:∀f args v,tab f args=some v→zx P (wc P mask glob pure raw tab) f args v):(wc P mask glob pure raw tab).Ok P:=by
 have hfn:∀f fn,(wc P mask glob pure raw tab).fn f=some fn→P.funcs[f]?=some fn:=fun f fn h=>by
  simp only [wc] at h
  split at h
  ·exact h
  ·cases h
 have fine:∀f fn,(wc P mask glob pure raw tab).fn f=some fn→fnFine (wc P mask glob pure raw tab) fn=true:=fun f fn h=>by
  have h1:=hfn f fn h
  have h2:(fn,f)∈P.funcs.toList.zipIdx:=by
   rw [List.mem_zipIdx_iff_getElem?,Array.getElem?_toList]; exact h1
  have:=List.all_eq_true.1 hf _ h2
  simpa [h] using this
 have names:∀f fn,(wc P mask glob pure raw tab).fn f=some fn→(fn.name == "runtime.NumGoroutine")=false:=fun f fn h=>by
  have:=fine f fn h
  simp only [fnFine,Bool.and_eq_true,bne_iff_ne] at this
  simpa using this.1
 have ext:∀f k,te pure f=k→k≠0→(f,k)∈pure:=fun f k h h0=>by
  have:=assoc_mem pure f (by rw [h]; exact h0)
  rwa [h] at this
 refine ⟨hfn,fun f fn c h hb=>?_,fun t a h=>mkTy_ok h,fun _ _ _ _ h=>h,hm,ht,fun _ _ _ _ h=>mkMeth_ok h,(fun _ _ _ h=>by cases h),hg,names,fun f fn h hb hp=>?_,fun f fn h hb hp=>?_,fun f fn h hb hp=>?_⟩
 ·have:=fine f fn h
  simp only [fnFine,hb,Bool.and_eq_true] at this
  exact this.2
 ·exact ext_run find_noescape (hfn f fn h) (names f fn h) ((exts_mem pure he f 10 (ext f 10 hp (by simp))).1 rfl)
 ·exact ext_run find_cmpstring (hfn f fn h) (names f fn h) ((exts_mem pure he f 11 (ext f 11 hp (by simp))).2.1 rfl)
 ·exact ext_run find_indexbyte (hfn f fn h) (names f fn h) ((exts_mem pure he f 12 (ext f 12 hp (by simp))).2.2 rfl)

theorem zx.cfg {P:Program} {cfg cfg':Cfg} (h:cfg'.glob=cfg.glob) {f:FuncId} {args:List V} {v:V} (hp:zx P cfg f args v):zx P cfg' f args v :=
 fun x cargs hg hx ha=>hp x cargs (fun g cs hc=>hg g cs (by rw [h]; exact hc)) hx ha

/-- What is reckoned alone is so in every world. -/
theorem pure_ok {P:Program} {cfg:Cfg} (hc:cfg.Ok P) {n:Nat} {f:FuncId} {fn:Func} (hfn:cfg.fn f=some fn) {args:List V} {v:V} (h:uf (call cfg n) f args=some v):zx P cfg f args v:=by
 intro x cargs hg hx ha
 refine (uD hc (call_ok hc n) hg hx hfn ha h).mono ?_
 rintro E w' ⟨y,rfl,h1,h2,h3,h4,h5⟩
 cases E with
 | returned c=>exact ⟨y,c,rfl,h1,h2,h3,h4,rfl,h5⟩
 | panicked ch=>exact h5.elim
 | outgrown=>exact h5.elim

/-! a call from outside -/
def start (w:World):Cx:=⟨w,fun _=>(0,0),fun _=>False,S.empty,fun _=>False⟩

theorem start_own (w:World) (b:Nat):¬(start w).own b:=fun ⟨i,o,h,_⟩=>by simp [start] at h

theorem start_rel (w:World):Rel (start w) where
 lt:=fun i h=>h.elim
 live:=fun i o h=>by simp [start] at h
 inj:=fun i j o p h=>by simp [start] at h
 room:=fun b h=>h.elim
 apart:=fun i o h=>by simp [start] at h

theorem start_below {w:World} {y:Cx} (h:(start w).le y):Below w.heap.size w y.w :=
 ⟨h.os,h.tape,h.output,h.size,fun k hk=>h.keep k hk (start_own w k)⟩

end Go.Proofs.YtchlfjhbijmdiaaGreatDoor.Ai

namespace Go.Proofs.YtchlfjhbijmdiaaGreatDoor.Ai

/-- There is an input that fits: a world that lays the row's list. -/
theorem witness_zip {H:Type} {enc:TypeId×Value→H} {C:Checked} {os:Os} {f:FuncId} {fn:Func} {s:OpenSpec} {conds:List PathCond} {apart:Bool} {laid:List (String×DataW Unit)} (modest:Bool) (w0:World) (args:Array Value) (hos:w0.os=os)
  (hsh:(w0.forCall (fun _ _=>0) ⟨#[],args,[]⟩).Shaped C.prog)
  (hok:Input.okWideB C.prog (w0.forCall (fun _ _=>0) ⟨#[],args,[]⟩) f ⟨#[],args,[]⟩=true)
  (hrow:s.preRow enc C.prog fn conds apart laid (w0.forCall (fun _ _=>0) ⟨#[],args,[]⟩).memory args) :
  ∃(w:World) (tape:Tape) (i:Input),w.os=os∧(w.forCall tape i).Shaped C.prog∧i.vars=[]∧Input.okWide C.prog (w.forCall tape i) .any w.heap.size f i ∧
   s.preRow enc C.prog fn conds apart laid (w.forCall tape i).memory i.args∧({ modest:=modest }:Assume).holds C.prog (lone (Frame.enter C.prog f i.args .normal) [] (w.forCall tape i)) :=
 ⟨w0,fun _ _=>0,⟨#[],args,[]⟩,hos,hsh,(Input.okWide_of_okWideB (base:=0) hok).1,(Input.okWide_of_okWideB hok).2,hrow,by
  simp only [Assume.holds]
  exact ⟨by simp,by simp,fun _=>Modest.zero,by simp,by simp⟩⟩
end Go.Proofs.YtchlfjhbijmdiaaGreatDoor.Ai

