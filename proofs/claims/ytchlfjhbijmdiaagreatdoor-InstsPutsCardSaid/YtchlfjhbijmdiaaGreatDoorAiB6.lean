/- Part of a reckoning of a Go program over abstract values, proved sound against the model. -/
import Derived.Test.YtchlfjhbijmdiaaGreatDoorAiB3
import Derived.Laws.StructEq
import Derived.ChangeKeysEq
import Derived.Laws.Shifts
import Derived.Laws.Build
import Derived.Laws.Rows
set_option linter.unusedSimpArgs false
set_option linter.unusedVariables false
namespace Go.Proofs.YtchlfjhbijmdiaaGreatDoor.Ai
open Go.RowKit (Below)

theorem eqAt_ok {P:Program} {x:Cx} {t:TypeId} {d:TypeDesc} (hu:P.underlying t=some d) {a b:V} {c c':Value} {r:Bool} (ha:Rep x a c) (hb:Rep x b c') (h:eqAt d a b=some r) (n:Nat) (w:World) :
  (Op.equalIn (n+1) t c c').run P w=.ok r w:=by
 unfold eqAt at h
 split at h
 ·cases ha; cases hb
  injection h with h; subst h
  simp [Op.equalIn,run_underlying hu]
 ·rename_i k a' l b'
  cases ha; cases hb
  split at h
  ·rename_i e; subst e; injection h with h; subst h
   simp [Op.equalIn,run_underlying hu]
  ·cases h
 ·cases ha; cases hb
  injection h with h; subst h
  simp [Op.equalIn,run_underlying hu,beq_toListBytes]
 ·cases h

theorem eqAt_scalar {d:TypeDesc} {a b:V} {r:Bool} (h:eqAt d a b=some r):zS d=false:=by
 unfold eqAt at h
 split at h <;> first | rfl | cases h

theorem eqFs_ok {P:Program} {cfg:Cfg} (hc:cfg.Ok P) {x:Cx} {xs ys:List V} {X Y:Array Value} (hx:RepL x xs X.toList) (hy:RepL x ys Y.toList) (n:Nat) (w:World) :
  ∀{fs:List Field} {r:Bool},eqFs cfg xs ys fs=some r→(Op.eqFields (n+1) X Y fs).run P w=.ok r w
 | [],r,h=>by simp [eqFs] at h; subst h; simp [Op.eqFields]
 | f::fs,r,h=>by
  unfold eqFs at h
  split at h
  ·cases h
  ·rename_i a hty
   split at h
   ·cases h
   ·rename_i hname
    split at h
    ·rename_i v u q h1 h2 h3
     split at h
     ·rename_i b h4
      injection h with h; subst h
      have ht:=hc.ty _ _ hty
      obtain ⟨c,hc1,hc2⟩:=hx.get _ _ h1
      obtain ⟨c',hc1',hc2'⟩:=hy.get _ _ h2
      rw [Array.getElem?_toList] at hc1 hc1'
      have hag:=eqAt_scalar h4
      have ih:=eqFs_ok hc hx hy n w h3
      have he:=eqAt_ok ht.und hc2 hc2' h4 n w
      have hp1:(part f.type X f.offset).run P w=.ok c w:=by simp [part,ht.run_agg,hag,hc1]
      have hp2:(part f.type Y f.offset).run P w=.ok c' w:=by simp [part,ht.run_agg,hag,hc1']
      simp only [Op.eqFields,ne_eq,hname,not_false_eq_true,if_true,Sem.run_bind,hp1,hp2,Result.andThen_ok,he,Sem.run_ite,ih]
      cases b <;> simp
     ·cases h
    ·cases h

theorem eqIs_ok {P:Program} {x:Cx} {e:TypeId} {a:ATy} (ht:TyOk P e a) (hs:a.size=1) (hag:zS a.und=false) (n:Nat) (w:World) {X Y:Array Value} :
  ∀{xs ys:List V} {r:Bool} (k:Nat),eqIs a.und xs ys=some r→RepL x xs (X.toList.drop k)→RepL x ys (Y.toList.drop k) →
   (Op.eqItems (n+1) e 1 X Y (List.range' k xs.length)).run P w=.ok r w
 | [],[],r,k,h,_,_=>by simp [eqIs] at h; subst h; simp [Op.eqItems]
 | [],_::_,r,k,h,_,_=>by simp [eqIs] at h
 | _::_,[],r,k,h,_,_=>by simp [eqIs] at h
 | u::xs,v::ys,r,k,h,hx,hy=>by
  unfold eqIs at h
  split at h
  ·rename_i b q h1 h2
   injection h with h; subst h
   obtain ⟨c,hc1,hc2⟩:=hx.get 0 u (by simp)
   obtain ⟨c',hc1',hc2'⟩:=hy.get 0 v (by simp)
   rw [List.getElem?_drop,Nat.add_zero,Array.getElem?_toList] at hc1 hc1'
   have hx2:=hx.drop 1
   have hy2:=hy.drop 1
   simp only [List.drop_drop,List.drop_succ_cons,List.drop_zero] at hx2 hy2
   have ih:=eqIs_ok ht hs hag n w (X:=X) (Y:=Y) (k+1) h2 hx2 hy2
   have he:=eqAt_ok ht.und hc2 hc2' h1 n w
   have hp1:(part e X (k*1)).run P w=.ok c w:=by simp [part,ht.run_agg,hag,hc1]
   have hp2:(part e Y (k*1)).run P w=.ok c' w:=by simp [part,ht.run_agg,hag,hc1']
   simp only [List.length_cons,List.range'_succ,Op.eqItems,Sem.run_bind,hp1,hp2,Result.andThen_ok,he,Sem.run_ite,ih]
   cases b <;> simp
  ·cases h

theorem flat_struct {P:Program} {t:TypeId} {fs:Array Field} (hu:P.underlying t=some (.struct fs)) (h:flatT P t=true):P.stoodInHeld t=false∧P.eqGuardType P.depth t=false:=by
 simpa [flatT,hu] using h
theorem flat_array {P:Program} {t e:TypeId} {n:Nat} (hu:P.underlying t=some (.array n e)) (h:flatT P t=true):P.eqGuardType P.depth t=false:=by
 simpa [flatT,hu] using h

theorem aEq_agg {P:Program} {cfg:Cfg} (hc:cfg.Ok P) {x:Cx} {t:TypeId} {ty:ATy} (hty:cfg.ty t=some ty) (hag:zS ty.und=true) {a b:V} {ca cb:Value} {r:Bool} (ha:Rep x a ca) (hb:Rep x b cb) (h:aEq cfg t a b=some r) (w:World) (m:Nat) :
  (Op.equalIn (m+1+1) t ca cb).run P w=.ok r w:=by
 have ht:=hc.ty _ _ hty
 have hu:=ht.und
 unfold aEq at h
 rw [hty] at h
 simp only at h
 cases hd:ty.und <;> rw [hd] at hag h hu <;> simp [zS] at hag
 ·rename_i n el
  split at h <;> first | contradiction | skip
  rename_i e
  cases e
  rename_i xs ys _
  split at h
  ·rename_i b hel
   split at h
   ·rename_i hf
    obtain ⟨h1,h2,h3,h4,h5⟩:=hf
    cases ha with
    | agg hX=>cases hb with
     | agg hY =>
      have hte:=hc.ty _ _ hel
      obtain ⟨i,hi1,hi2,hi3,hi4⟩:=hte.run_info w
      have hco:P.cellsOf el=1:=by simp [Program.cellsOf,hi4,hi2,h2]
      rw [run_equalIn_array w (m+1) _ _ hu hi4,hco,List.range_eq_range',← h4]
      exact eqIs_ok hte h2 h3 m w 0 h (by simpa using hX) (by simpa using hY)
   ·cases h
  ·cases h
 ·rename_i fs
  split at h <;> first | contradiction | skip
  rename_i e
  cases e
  split at h
  ·rename_i hf
   cases ha with
   | agg hX=>cases hb with
    | agg hY =>
     have hfl:=flat_struct hu (ht.flat hf)
     have hfo:P.fieldsOf t=fs:=by simp [Program.fieldsOf,hu]
     rw [run_equalIn_struct w (m+1) t _ _ (by rw [hfo]; exact hu) hfl.1,hfo]
     exact eqFs_ok hc hX hY m w h
  ·cases h

theorem aEq_one {P:Program} {cfg:Cfg} (hc:cfg.Ok P) {x:Cx} {t:TypeId} {ty:ATy} (hty:cfg.ty t=some ty) (hag:zS ty.und=false) {a b:V} {ca cb:Value} {r:Bool} (ha:Rep x a ca) (hb:Rep x b cb) (h:aEq cfg t a b=some r) (w:World) (m:Nat) :
  (Op.equalIn (m+1) t ca cb).run P w=.ok r w:=by
 have ht:=hc.ty _ _ hty
 simp only [Op.equalIn,Sem.run_bind,run_underlying ht.und,Result.andThen_ok]
 unfold aEq at h
 rw [hty] at h
 simp only at h
 generalize ty.und=d at hag h
 clear ht
 split at h
 ·cases ha; cases hb; injection h with h; subst h; rfl
 ·cases ha; cases hb
  split at h
  ·rename_i e; subst e; injection h with h; subst h; simp
  ·cases h
 ·cases ha; cases hb; injection h with h; subst h; simp [beq_toListBytes]
 ·cases ha; cases hb; injection h with h; subst h; rfl
 ·cases ha; cases hb; injection h with h; subst h; rfl
 ·cases ha; cases hb; injection h with h; subst h; rfl
 ·cases ha; cases hb; injection h with h; subst h; rfl
 ·cases ha; cases hb; injection h with h; subst h; rfl
 ·rename_i el i o j p
  split at h
  ·rename_i hij
   obtain ⟨rfl,hsz⟩:=hij
   cases ha; cases hb
   injection h with h; subst h
   cases hel:cfg.ty el with
   | none=>simp [hel] at hsz
   | some el' =>
    have hte:=hc.ty _ _ hel
    simp only [hel,Option.any_some,bne_iff_ne,ne_eq] at hsz
    simp only [Sem.run_bind,hte.run_size,Result.andThen_ok]
    simp [hsz,sameAddr]
    rw [Bool.eq_iff_iff]; simp
  ·cases h
 ·cases ha; cases hb; injection h with h; subst h; rfl
 ·cases ha; cases hb; injection h with h; subst h; rfl
 ·split at h
  ·cases ha; cases hb; injection h with h; subst h; rfl
  ·cases h
 ·simp [zS] at hag
 ·simp [zS] at hag
 ·cases ha; cases hb; injection h with h; subst h; rfl
 ·cases ha; cases hb; injection h with h; subst h; rfl
 ·cases ha; cases hb; injection h with h; subst h; rfl
 ·rename_i es
  split at h
  ·cases h
  ·rename_i hne
   injection h with h; subst h
   cases ha
   cases hb with
   | list b o cap sz hh hl hcap he=>rfl
   | lempty=>simp at hne
 ·rename_i es
  split at h
  ·cases h
  ·rename_i hne
   injection h with h; subst h
   cases hb
   cases ha with
   | list b o cap sz hh hl hcap he=>rfl
   | lempty=>simp at hne
 ·cases ha; cases hb; injection h with h; subst h; rfl
 ·cases ha; cases hb; injection h with h; subst h; rfl
 ·cases ha; cases hb; injection h with h; subst h; rfl
 ·cases ha; cases hb; injection h with h; subst h; rfl
 ·cases ha; cases hb; injection h with h; subst h; rfl
 ·cases ha; cases hb; injection h with h; subst h; rfl
 ·cases h

theorem aEq_ok {P:Program} {cfg:Cfg} (hc:cfg.Ok P) {x:Cx} {t:TypeId} {a b:V} {ca cb:Value} {r:Bool} (ha:Rep x a ca) (hb:Rep x b cb) (h:aEq cfg t a b=some r) (w:World) :
  (Op.equal t ca cb).run P w=.ok r w:=by
 cases hty:cfg.ty t with
 | none=>simp [aEq,hty] at h
 | some ty =>
  show (Op.equalIn (9998+1+1) t ca cb).run P w=_
  generalize 9998=m
  cases hag:zS ty.und with
  | true=>exact aEq_agg hc hty hag ha hb h w m
  | false=>exact aEq_one hc hty hag ha hb h w (m+1)

end Go.Proofs.YtchlfjhbijmdiaaGreatDoor.Ai

namespace Go.Proofs.YtchlfjhbijmdiaaGreatDoor.Ai
open Go.RowKit (Below)

/-- A comparison's guard says nothing here. -/
theorem guard_ok {P:Program} {cfg:Cfg} (hc:cfg.Ok P) {x:Cx} {t:TypeId} {a b:V} {ca cb:Value} {r:Bool} (ha:Rep x a ca) (hb:Rep x b cb) (h:aEq cfg t a b=some r) (op:BinOp) (ox oy:Operand) (w:World) :
  (eqGuard op t ox oy ca cb).run P w=.ok () w:=by
 unfold aEq at h
 split at h
 ·cases h
 ·rename_i ty hty
  have ht:=hc.ty _ _ hty
  have hu:=ht.und
  cases ha <;> try (simp only [eqGuard_at_bool,eqGuard_at_int,eqGuard_at_string,eqGuard_at_pointer,eqGuard_at_slice,eqGuard_at_map,eqGuard_at_func,eqGuard_at_nilFunc,eqGuard_at_iface,eqGuard_at_tuple]; rfl)
  ·cases hb <;> try (first | (rw [eqGuard_nil_iface]; rfl) | (cases op <;> rfl))
   ·split at h <;> simp_all
    rename_i ms he
    have hu':P.underlying t=some (.interface #[]):=by rw [ht.und,he]
    have hin:(Op.eqGuardIn Op.maxDepth t .nilIface .nilIface).run P w=.ok false w:=by
     have key:∀m,(Op.eqGuardIn (m+1) t .nilIface .nilIface).run P w=.ok false w:=fun m=>by
      simp only [Op.eqGuardIn,Sem.run_bind,run_underlying hu',Result.andThen_ok]
      rfl
     exact key 9999
    cases op <;> first | rfl | (simp [eqGuard,hin])
  ·cases hb with
   | agg hY =>
    split at h <;> simp_all
    ·rename_i e; exact run_eqGuard_agg w op t ox oy _ _ (flat_struct hu (ht.flat h.1)).2
    ·rename_i n el xs ys h1 h2 e
     split at h
     ·split at h
      ·rename_i hf; exact run_eqGuard_agg w op t ox oy _ _ (flat_array hu (ht.flat hf.1))
      ·cases h
     ·cases h
   | _=>cases op <;> rfl

theorem intOp_ok {P:Program} {op:BinOp} {k:IntKind} {a b:Int} {v:V} (h:intOp op k a b=some v) (t:TypeId) (w:World) :
  ∃c,(binOp op t (.int k a) (.int k b)).run P w=.ok c w∧∀x,Rep x v c:=by
 cases op <;> simp only [intOp,cmpB,Option.map_some,Option.some.injEq,reduceCtorEq] at h
 case add=>subst h; exact ⟨_,by simp [binOp,Op.intArith],fun x=>.int _ _⟩
 case sub=>subst h; exact ⟨_,by simp [binOp,Op.intArith],fun x=>.int _ _⟩
 case mul=>subst h; exact ⟨_,by simp [binOp,Op.intArith],fun x=>.int _ _⟩
 case quo =>
  split at h
  ·cases h
  ·rename_i hb; injection h with h; subst h; exact ⟨_,by simp [binOp,Op.intDiv,hb],fun x=>.int _ _⟩
 case rem =>
  split at h
  ·cases h
  ·rename_i hb; injection h with h; subst h; exact ⟨_,by simp [binOp,Op.intDiv,hb],fun x=>.int _ _⟩
 case and=>subst h; exact ⟨_,by simp [binOp,Op.intBits],fun x=>.int _ _⟩
 case or=>subst h; exact ⟨_,by simp [binOp,Op.intBits],fun x=>.int _ _⟩
 case xor=>subst h; exact ⟨_,by simp [binOp,Op.intBits],fun x=>.int _ _⟩
 case andNot=>subst h; exact ⟨_,by simp [binOp,Op.intBits],fun x=>.int _ _⟩
 case eql=>subst h; exact ⟨_,by simp [binOp,Op.intCmp],fun x=>.bool _⟩
 case neq=>subst h; exact ⟨_,by simp [binOp,Op.intCmp],fun x=>.bool _⟩
 case lss =>
  subst h
  have e:(!leI b a)=decide (a<b):=by rw [leI_eq,Bool.eq_iff_iff]; simp
  exact ⟨.bool (decide (a<b)),by simp [binOp,Op.intCmp],fun x=>by rw [e]; exact .bool _⟩
 case leq =>
  subst h
  exact ⟨.bool (decide (a≤b)),by simp [binOp,Op.intCmp],fun x=>by rw [leI_eq]; exact .bool _⟩
 case gtr =>
  subst h
  have e:(!leI a b)=decide (a > b):=by rw [leI_eq,Bool.eq_iff_iff]; simp
  exact ⟨.bool (decide (a > b)),by simp [binOp,Op.intCmp],fun x=>by rw [e]; exact .bool _⟩
 case geq =>
  subst h
  exact ⟨.bool (decide (a≥b)),by simp [binOp,Op.intCmp],fun x=>by rw [leI_eq]; exact .bool _⟩

theorem shiftOp_ok {P:Program} {op:BinOp} {k l:IntKind} {a b:Int} {v:V} (h:shiftOp op k a b=some v) (t:TypeId) (w:World) :
  ∃c,(binOp op t (.int k a) (.int l b)).run P w=.ok c w∧∀x,Rep x v c:=by
 unfold shiftOp at h
 split at h
 ·cases h
 ·rename_i hb
  cases op <;> simp only [Option.some.injEq,reduceCtorEq] at h
  case shl=>subst h; exact ⟨_,by simp [binOp,Op.shift,hb],fun x=>.int _ _⟩
  case shr=>subst h; exact ⟨_,by simp [binOp,Op.shift,hb],fun x=>.int _ _⟩

theorem strOp_ok {P:Program} {op:BinOp} {a b:ByteArray} {v:V} (h:strOp op a b=some v) (t:TypeId) (w:World) :
  ∃c,(binOp op t (.string a) (.string b)).run P w=.ok c w∧∀x,Rep x v c:=by
 cases op <;> simp only [strOp,Option.some.injEq,reduceCtorEq] at h
 case add =>
  split at h
  ·rename_i hs
   injection h with h; subst h
   have:¬(9223372036854775807<(a.size:Int)+(b.size:Int)):=by omega
   exact ⟨_,by simp [binOp,Op.stringOp,this],fun x=>.str _⟩
  ·cases h
 case eql=>subst h; exact ⟨_,by simp [binOp,Op.stringOp],fun x=>.bool _⟩
 case neq=>subst h; exact ⟨_,by simp [binOp,Op.stringOp],fun x=>.bool _⟩
 case lss=>subst h; exact ⟨_,by simp [binOp,Op.stringOp],fun x=>.bool _⟩
 case leq=>subst h; exact ⟨_,by simp [binOp,Op.stringOp],fun x=>.bool _⟩
 case gtr=>subst h; exact ⟨_,by simp [binOp,Op.stringOp],fun x=>.bool _⟩
 case geq=>subst h; exact ⟨_,by simp [binOp,Op.stringOp],fun x=>.bool _⟩

theorem aBin_ok {P:Program} {cfg:Cfg} (hc:cfg.Ok P) {x:Cx} {op:BinOp} {t:TypeId} {a b v:V} {ca cb:Value} (ha:Rep x a ca) (hb:Rep x b cb) (h:wN cfg op t a b=some v) (ox oy:Operand) (w:World) :
  ∃c,(do eqGuard op t ox oy ca cb; binOp op t ca cb:Sem Value).run P w=.ok c w∧Rep x v c:=by
 unfold wN at h
 split at h
 ·rename_i k i l j
  cases ha; cases hb
  have key:∃c,(binOp op t (.int k i) (.int l j)).run P w=.ok c w∧Rep x v c:=by
   split at h
   ·obtain ⟨c,h1,h2⟩:=shiftOp_ok (P:=P) (l:=l) h t w; exact ⟨c,h1,h2 x⟩
   ·obtain ⟨c,h1,h2⟩:=shiftOp_ok (P:=P) (l:=l) h t w; exact ⟨c,h1,h2 x⟩
   ·split at h
    ·rename_i e; subst e
     obtain ⟨c,h1,h2⟩:=intOp_ok (P:=P) h t w; exact ⟨c,h1,h2 x⟩
    ·cases h
  obtain ⟨c,h1,h2⟩:=key
  exact ⟨c,by simp only [eqGuard_at_int,Sem.run_bind,Sem.run_pure,Result.andThen_ok,h1],h2⟩
 ·cases ha; cases hb
  obtain ⟨c,h1,h2⟩:=strOp_ok (P:=P) h t w
  exact ⟨c,by simp only [eqGuard_at_string,Sem.run_bind,Sem.run_pure,Result.andThen_ok,h1],h2 x⟩
 ·rename_i hni hns
  have key:∀r,aEq cfg t a b=some r→(op=.eql∨op=.neq)→(binOp op t ca cb).run P w=.ok (.bool (if op=.eql then r else !r)) w:=by
   intro r hr hop
   have he:=aEq_ok hc ha hb hr w
   have hne:∀op',op'=.eql∨op'=.neq→binOp op' t ca cb=(if op'=.eql then (do pure (.bool (← Op.equal t ca cb)):Sem Value) else do pure (.bool (!(← Op.equal t ca cb)))):=by
    intro op' hop'
    cases ha <;> cases hb <;> first
     | exact absurd rfl (hni _ _ _ _ rfl)
     | exact absurd rfl (hns _ _ rfl)
     | (rcases hop' with rfl | rfl <;> rfl)
   rw [hne op hop]
   rcases hop with rfl | rfl
   ·simp [he]
   ·simp [he]
  split at h
  ·simp only [Option.map_eq_some_iff] at h
   obtain ⟨r,hr,rfl⟩:=h
   refine ⟨.bool r,?_,.bool r⟩
   have:=key r hr (.inl rfl)
   simp only [Sem.run_bind,guard_ok hc ha hb hr,Result.andThen_ok]
   simpa using this
  ·simp only [Option.map_eq_some_iff] at h
   obtain ⟨r,hr,rfl⟩:=h
   refine ⟨.bool !r,?_,.bool _⟩
   have:=key r hr (.inr rfl)
   simp only [Sem.run_bind,guard_ok hc ha hb hr,Result.andThen_ok]
   simpa using this
  ·cases h

theorem aUn_ok {P:Program} {x:Cx} {op:UnOp} {a v:V} {ca:Value} (ha:Rep x a ca) (h:aUn op a=some v) (w:World):∃c,(Op.unary op ca).run P w=.ok c w∧Rep x v c:=by
 unfold aUn at h
 split at h
 ·cases ha; injection h with h; subst h
  exact ⟨_,by simp [Op.unary,Op.intArith],.int _ _⟩
 ·cases ha; injection h with h; subst h
  exact ⟨_,by simp [Op.unary],.bool _⟩
 ·cases ha
  simp only [intOp,Option.some.injEq] at h
  subst h
  exact ⟨_,by simp [Op.unary,Op.intBits],.int _ _⟩
 ·cases h

end Go.Proofs.YtchlfjhbijmdiaaGreatDoor.Ai

namespace Go.Proofs.YtchlfjhbijmdiaaGreatDoor.Ai
open Go.RowKit (Below)

/-! fields -/
theorem fieldOf_ok {P:Program} {cfg:Cfg} (hc:cfg.Ok P) {t:TypeId} {f off sz:Nat} {ag:Bool} (h:yC cfg t f=some (off,sz,ag)) :
  ∃fs fd b,P.underlying t=some (.struct fs)∧fs[f]?=some fd∧TyOk P fd.type b∧off=fd.offset∧sz=b.size∧ag=zS b.und:=by
 unfold yC at h
 simp only [Option.bind_eq_bind,Option.bind_eq_some_iff] at h
 obtain ⟨a,ha,h⟩:=h
 split at h
 ·rename_i fs e
  simp only [Option.bind_eq_some_iff] at h
  obtain ⟨fd,hfd,b,hb,h⟩:=h
  simp only [Option.some.injEq,Prod.mk.injEq] at h
  exact ⟨fs,fd,b,by rw [(hc.ty _ _ ha).und,e],hfd,hc.ty _ _ hb,h.1.symm,h.2.1.symm,h.2.2.symm⟩
 ·cases h

theorem aFieldAddr_ok {P:Program} {cfg:Cfg} (hc:cfg.Ok P) {x:Cx} {t:TypeId} {p v:V} {cp:Value} {f:Nat} (hp:Rep x p cp) (h:ze cfg t p f=some v) (w:World) :
  ∃c,(Instr.fieldAt t cp f).run P w=.ok c w∧Rep x v c:=by
 unfold ze at h
 simp only [Option.bind_eq_bind,Option.bind_eq_some_iff] at h
 obtain ⟨⟨off,sz,ag⟩,hf,h⟩:=h
 obtain ⟨fs,fd,b,h1,h2,h3,rfl,rfl,rfl⟩:=fieldOf_ok hc hf
 simp only at h
 split at h
 ·cases h
 ·rename_i hsz
  have hrun:∀ad:Addr,(Instr.fieldAt t (.pointer (some ad)) f).run P w=.ok (.pointer (some (ad.add fd.offset))) w:=by
   intro ad
   simp [Instr.fieldAt,run_underlying h1,h2,Instr.sureAddr,fieldPlace,h3.run_size,hsz]
  split at h
  ·cases hp; injection h with h; subst h
   rename_i hk
   refine ⟨_,hrun _,?_⟩
   rw [yG,Nat.add_assoc]
   exact .ptr _ _ hk
  ·injection h with h; subst h
   cases hp with
   | cptr bb o _ hh hl =>
    refine ⟨_,hrun _,?_⟩
    rw [yG,Nat.add_assoc]
    exact .cptr _ _ _ hh hl
  ·cases h

theorem sub_part {P:Program} {x:Cx} {cs:List V} {C:Array Value} (hl:RepL x cs C.toList) {t:TypeId} {b:ATy} (ht:TyOk P t b) {off:Nat} {v:V} (h:sub cs off b.size (zS b.und)=some v) (w:World) :
  ∃c,(part t C off).run P w=.ok c w∧Rep x v c:=by
 unfold sub at h
 split at h
 ·rename_i hag
  split at h
  ·injection h with h; subst h
   refine ⟨.agg (C.extract off (off+b.size)),by simp [part,ht.run_agg,hag,ht.run_size],.agg ?_⟩
   have:=(hl.drop off).take b.size
   rw [Array.toList_extract]
   simpa [List.extract_eq_take_drop] using this
  ·cases h
 ·rename_i hag
  obtain ⟨c,hc1,hc2⟩:=hl.get _ _ h
  rw [Array.getElem?_toList] at hc1
  exact ⟨c,by simp [part,ht.run_agg,hag,hc1],hc2⟩

theorem aField_ok {P:Program} {cfg:Cfg} (hc:cfg.Ok P) {x:Cx} {t:TypeId} {p v:V} {cp:Value} {f:Nat} (hp:Rep x p cp) (h:zq cfg t p f=some v) (w:World) :
  ∃c,(Instr.field t cp f).run P w=.ok c w∧Rep x v c:=by
 unfold zq at h
 simp only [Option.bind_eq_bind,Option.bind_eq_some_iff] at h
 obtain ⟨⟨off,sz,ag⟩,hf,h⟩:=h
 obtain ⟨fs,fd,b,h1,h2,h3,rfl,rfl,rfl⟩:=fieldOf_ok hc hf
 simp only at h
 split at h
 ·cases hp with
  | agg hl =>
   obtain ⟨c,hr,hv⟩:=sub_part hl h3 h w
   exact ⟨c,by simp [Instr.field,run_underlying h1,h2,asAgg,hr],hv⟩
 ·cases h

/-! elements -/
theorem tN {x:Cx} {i:V} {ci:Value} (hi:Rep x i ci) {n:Int} (h:asInt i=some n):∃k,ci=.int k n:=by
 unfold asInt at h
 split at h
 ·cases hi; injection h with h; subst h; exact ⟨_,rfl⟩
 ·cases h

theorem flat_get {es:List V} {n:Nat} (hsz:∀e∈es,e.cells.length=n):∀(j:Nat) (v:V),es[j]?=some v→(es.flatMap V.cells).drop (j*n)=v.cells++((es.drop (j+1)).flatMap V.cells):=by
 induction es with
 | nil=>intro j v h; simp at h
 | cons e es ih =>
  intro j v h
  cases j with
  | zero=>simp at h; subst h; simp
  | succ j =>
   have h1:=hsz e (by simp)
   have:=ih (fun e he=>hsz e (List.mem_cons_of_mem _ he)) j v (by simpa using h)
   rw [List.flatMap_cons,List.drop_append,List.drop_eq_nil_of_le (by rw [h1,Nat.add_mul]; omega),List.nil_append,show (j+1)*n - e.cells.length=j*n by rw [h1,Nat.add_mul]; omega,this]
   simp

theorem flat_len {es:List V} {n:Nat} (hsz:∀e∈es,e.cells.length=n):(es.flatMap V.cells).length=es.length*n:=by
 induction es with
 | nil=>simp
 | cons e es ih =>
  rw [List.flatMap_cons,List.length_append,ih (fun e he=>hsz e (List.mem_cons_of_mem _ he)),hsz e (by simp),List.length_cons,Nat.add_mul]
  omega

theorem held.drop {x:Cx} {b o:Nat} {vs:List Value} (h:held x b o vs) (n:Nat):held x b (o+n) (vs.drop n):=⟨h.1,h.2.1,h.at.drop n⟩
theorem held.take {x:Cx} {b o:Nat} {vs:List Value} (h:held x b o vs) (n:Nat):held x b o (vs.take n):=⟨h.1,h.2.1,h.at.take n⟩

theorem aIndexAddr_ok {P:Program} {cfg:Cfg} (hc:cfg.Ok P) {x:Cx} {t:TypeId} {p i v:V} {cp ci:Value} (hp:Rep x p cp) (hi:Rep x i ci) (h:zd cfg t p i=some v) (w:World) :
  ∃c,(Instr.indexAt t cp ci).run P w=.ok c w∧Rep x v c:=by
 unfold zd at h
 simp only [Option.bind_eq_bind,Option.bind_eq_some_iff] at h
 obtain ⟨a,hta,n,hn,h⟩:=h
 have ht:=hc.ty _ _ hta
 obtain ⟨k,rfl⟩:=tN hi hn
 have hu:=ht.und
 split at h
 ·rename_i e id off len sz ag cp' he
  rw [he] at hu
  simp only [Option.bind_eq_some_iff] at h
  obtain ⟨b,hb,h⟩:=h
  split at h
  ·rename_i hcond
   obtain ⟨rfl,h0,h1⟩:=hcond
   injection h with h; subst h
   have hb':=hc.ty _ _ hb
   cases hp with
   | arr _ _ _ _ _ _ o cap m hk hoff hlc hcs hroom hcp =>
    have ho:o=(x.ρ id).2+off:=by
     rcases hoff with rfl | ho
     ·omega
     ·exact ho
    subst ho
    refine ⟨.pointer (some ⟨(x.ρ id).1,(x.ρ id).2+(off+n.toNat*b.size),none⟩),?_,.ptr id _ hk⟩
    have hlt:n<(len:Int):=h1
    simp [Instr.indexAt,run_underlying hu,asIntOf,h0,hlt,hb'.run_size,yG,Nat.add_assoc]
  ·cases h
 ·rename_i e es he
  rw [he] at hu
  simp only [Option.bind_eq_some_iff] at h
  obtain ⟨b,hb,h⟩:=h
  have hb':=hc.ty _ _ hb
  split at h
  ·rename_i h0
   split at h
   ·rename_i u hget
    split at h
    ·rename_i hlen
     injection h with h; subst h
     have hlt:n.toNat<es.length:=(List.getElem?_eq_some_iff.1 hget).1
     cases hp with
     | lempty=>simp at hlt
     | list bb o cap sz hh hl hcap heven =>
      have hsz:sz=b.size:=by rw [← hlen]; exact (heven u (List.mem_of_getElem? hget)).symm
      subst hsz
      have hfl:=flat_get heven n.toNat u hget
      have hl2:=hl.drop (n.toNat*b.size)
      rw [hfl] at hl2
      have hl3:=hl2.take u.cells.length
      rw [List.take_left'] at hl3
      ·refine ⟨.pointer (some ⟨bb,o+n.toNat*b.size,none⟩),?_,?_⟩
       ·have hlt':n<(es.length:Int):=by omega
        simp [Instr.indexAt,run_underlying hu,asIntOf,h0,hlt',hb'.run_size,yG]
       ·exact .cptr bb (o+n.toNat*b.size) 0 ((hh.drop _).take _) hl3
      ·rfl
    ·cases h
   ·cases h
  ·cases h
 ·rename_i len e id off he
  rw [he] at hu
  simp only [Option.bind_eq_some_iff] at h
  obtain ⟨b,hb,h⟩:=h
  have hb':=hc.ty _ _ hb
  split at h
  ·rename_i hcond
   obtain ⟨h0,h1⟩:=hcond
   injection h with h; subst h
   cases hp with
   | ptr _ _ hk =>
    refine ⟨.pointer (some ⟨(x.ρ id).1,(x.ρ id).2+(off+n.toNat*b.size),none⟩),?_,.ptr id _ hk⟩
    simp [Instr.indexAt,run_underlying hu,asIntOf,h0,h1,hb'.run_size,yG,Nat.add_assoc,Instr.sureAddr]
  ·cases h
 ·rename_i len e cs off he
  rw [he] at hu
  simp only [Option.bind_eq_some_iff] at h
  obtain ⟨b,hb,h⟩:=h
  have hb':=hc.ty _ _ hb
  split at h
  ·rename_i hcond
   obtain ⟨h0,h1⟩:=hcond
   injection h with h; subst h
   cases hp with
   | cptr bb o _ hh hl =>
    refine ⟨.pointer (some ⟨bb,o+(off+n.toNat*b.size),none⟩),?_,.cptr bb o _ hh hl⟩
    simp [Instr.indexAt,run_underlying hu,asIntOf,h0,h1,hb'.run_size,yG,Nat.add_assoc,Instr.sureAddr]
  ·cases h
 ·cases h

theorem aIndex_ok {P:Program} {cfg:Cfg} (hc:cfg.Ok P) {x:Cx} {t:TypeId} {p i v:V} {cp ci:Value} (hp:Rep x p cp) (hi:Rep x i ci) (h:zp cfg t p i=some v) (w:World) :
  ∃c,(Instr.index t cp ci).run P w=.ok c w∧Rep x v c:=by
 unfold zp at h
 simp only [Option.bind_eq_bind,Option.bind_eq_some_iff] at h
 obtain ⟨a,hta,n,hn,h⟩:=h
 have ht:=hc.ty _ _ hta
 obtain ⟨k,rfl⟩:=tN hi hn
 have hu:=ht.und
 split at h
 ·rename_i len e cs he
  rw [he] at hu
  simp only [Option.bind_eq_some_iff] at h
  obtain ⟨b,hb,h⟩:=h
  have hb':=hc.ty _ _ hb
  split at h
  ·rename_i hcond
   cases hp with
   | agg hl =>
    obtain ⟨c,hr,hv⟩:=sub_part hl hb' h w
    exact ⟨c,by simp [Instr.index,run_underlying hu,asIntOf,hcond.1,hcond.2,hb'.run_size,hr],hv⟩
  ·cases h
 ·rename_i s he
  rw [he] at hu
  split at h
  ·rename_i h0
   simp only [Option.map_eq_some_iff] at h
   obtain ⟨b,hb,rfl⟩:=h
   cases hp
   exact ⟨_,by simp [Instr.index,run_underlying hu,asIntOf,h0,hb],.int _ _⟩
  ·cases h
 ·cases h

end Go.Proofs.YtchlfjhbijmdiaaGreatDoor.Ai

