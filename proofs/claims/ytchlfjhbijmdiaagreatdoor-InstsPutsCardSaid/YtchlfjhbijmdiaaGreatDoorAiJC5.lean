/- Part of a reckoning of a Go program over abstract values, proved sound against the model. -/
import Derived.Test.YtchlfjhbijmdiaaGreatDoorAiJC2
set_option linter.unusedSimpArgs false
set_option linter.unusedVariables false
namespace Go.Proofs.YtchlfjhbijmdiaaGreatDoor.Ai
open Go.Proofs
set_option maxRecDepth 100000
set_option maxHeartbeats 4000000

def eT:List (FuncId×(List V→Option V)):=[(43,e35),(44,e36),(45,e37),(80,e64)]
theorem eT_ok:xa Tryz.prog zB eT:=.cons t35 (.cons t36 (.cons t37 (.cons t64 .nil)))
theorem hcT:(st eT []).Ok Tryz.prog:=yn eT_ok .nil
def zJ (x:Inst):List V:=[vI x.kind,.list (x.alts.map eA),.list (x.modes.map eM),vI x.det]
def ya (l:List Inst):Env:=[(0,.list (l.map eX)),(3,.ptr 0 0)]
def c1 (x:Inst):Bool:=decide (x.kind<0) || decide (6<x.kind)
def c2 (x:Inst):Bool:=(!decide (x.kind=4) && decide (0<x.alts.length)) || (!decide (x.kind=5) && (decide (0<x.modes.length) || !decide (x.det=0)))
def c3 (x:Inst):Bool:=decide (x.kind=4) && decide (x.alts.length=0)
def c4 (x:Inst):Bool:=decide (64<x.alts.length) || decide (32<x.modes.length)
def c5 (x:Inst):Bool:=decide (x.det<0) || decide (8≤x.det)
section
variable {e:List (FuncId×(List V→Option V))} {cf:CF} {N:Nat} {l:List Inst} {x:Inst} {s:S} {E:Env} {P:AX→Env→S→Prop} {R A B C:AC} {t d:Nat} {b:Bool} {core:Env} {v:V}
/-- Code that gives a value. -/
def tS (e:List (FuncId×(List V→Option V))) (cf:CF) (N:Nat) (A:AC) (d:Nat) (v:V):Prop:=∀E s (P:AX→Env→S→Prop),(∀E',yw E' d=some v→P .ret E' s)→yd (st e []) cf true [] N A E s P
/-- A region that tests. -/
def Tst (e:List (FuncId×(List V→Option V))) (cf:CF) (N:Nat) (R:AC) (E core:Env) (s:S) (t:Nat) (b:Bool):Prop:=∀Q:AX→Env→S→Prop,(∀E',zI core E'→yw E' t=some (.bool b)→Q .normal E' s)→yd (st e []) cf true [] N R E s Q
/-- A test, and what follows. -/
theorem test_seq (hR:Tst e cf N R E core s t b)
  (hA:b=true→∀E',zI core E'→yd (st e []) cf true [] N A E' s P) (hB:b=false→∀E',zI core E'→yd (st e []) cf true [] N B E' s P):yd (st e []) cf true [] N (.seq R (.cond (.tmp t) A B)) E s P:=by
 rw [yN]
 refine hR _ fun E' h1 h2=>?_
 rw [zK,RunC_cond]
 show CondK (yw E' t) _ _
 rw [h2]
 exact ⟨fun h=>hA h E' h1,fun h=>hB h E' h1⟩
theorem xb (hR:Tst e cf N R E core s t b) (hA:tS e cf N A d v) (hr:b=true→∀E',yw E' d=some v→P .ret E' s) (hB:b=false→∀E',zI core E'→yd (st e []) cf true [] N B E' s P):yd (st e []) cf true [] N (.seq R (.cond (.tmp t) A B)) E s P :=
 test_seq hR (fun h E' _=>hA E' s P (hr h)) hB
theorem yO (hR:Tst e cf N R E core s t b) (hA:tS e cf N A d v) (hr:b=true→∀E',yw E' d=some v→P .ret E' s) (hB:b=false→∀E',zI core E'→yd (st e []) cf true [] N C E' s P):yd (st e []) cf true [] N (.seq (.seq R (.cond (.tmp t) A .skip)) C) E s P:=by
 rw [yN]
 exact xb hR hA (fun h E' h'=>hr h E' h') fun h E' hE'=>hB h E' hE'

def a18_1:AC:=(.reg 1 f18_r1o [0,3,12,26,27,28,29,32,33,34,35,36,37,38,39,40,41,42,43,44,45,52,53,54,55,63,64,65,66,73,74,75,91,92,93,94,100,101,102,103,104,105,106,107,108,147,148,149,150,151,162,163])
theorem t18_1 (hg:s.get 0=some (.cells (zJ x) 0 26 true)) (hE:zI (ya l) E):Tst eT cf 166 a18_1 E (ya l) s 12 (c1 x):=by
 intro P hP
 obtain ⟨h0,h3,_⟩:=hE
 simp only at h0 h3
 unfold a18_1
 by_cases a:x.kind<0
 ·simp -implicitDefEqProofs (maxDischargeDepth:=9) (maxSteps:=1000000) [Nat.add_assoc,ze,zq,zt,zr,zd,zp,zs,zy,asInt,zn,zz,sub,zl,zu,za,zk,zb,zj,zg,zh,zf,zA,zw,zo,zm,zi,Int.natCast_inj,h0,h3,hg,zJ,a,vI]
  exact hP _ (by simp [ya]) (by simp [c1,a])
 ·simp -implicitDefEqProofs (maxDischargeDepth:=9) (maxSteps:=1000000) [Nat.add_assoc,ze,zq,zt,zr,zd,zp,zs,zy,asInt,zn,zz,sub,zl,zu,za,zk,zb,zj,zg,zh,zf,zA,zw,zo,zm,zi,Int.natCast_inj,h0,h3,hg,zJ,a,vI]
  exact hP _ (by simp [ya]) (by simp [c1,a])
def a18_3:AC:=(.reg 3 uX [0,3,21,52,53,54,55,63,64,65,66,73,74,75,91,92,93,94,100,101,102,103,104,105,106,107,108,147,148,149,150,151,162,163])
theorem t18_3 (hg:s.get 0=some (.cells (zJ x) 0 26 true)) (hE:zI (ya l) E):Tst eT cf 166 a18_3 E (ya l) s 21 (c2 x):=by
 intro P hP
 obtain ⟨h0,h3,_⟩:=hE
 simp only at h0 h3
 unfold a18_3
 by_cases a:x.kind=4
 ·by_cases b:x.modes.length=0
  ·simp -implicitDefEqProofs (maxDischargeDepth:=9) (maxSteps:=1000000) [Nat.add_assoc,ze,zq,zt,zr,zd,zp,zs,zy,asInt,zn,zz,sub,zl,zu,za,zk,zb,zj,zg,zh,zf,zA,zw,zo,zm,zi,Int.natCast_inj,h0,h3,hg,zJ,a,b,vI]
   exact hP _ (by simp [ya]) (by simp [c2,a,b])
  ·have b':0<x.modes.length:=by omega
   simp -implicitDefEqProofs (maxDischargeDepth:=9) (maxSteps:=1000000) [Nat.add_assoc,ze,zq,zt,zr,zd,zp,zs,zy,asInt,zn,zz,sub,zl,zu,za,zk,zb,zj,zg,zh,zf,zA,zw,zo,zm,zi,Int.natCast_inj,h0,h3,hg,zJ,a,b,b',vI]
   exact hP _ (by simp [ya]) (by simp [c2,a,b,b'])
 ·by_cases c:x.alts.length=0
  ·by_cases d:x.kind=5
   ·simp -implicitDefEqProofs (maxDischargeDepth:=9) (maxSteps:=1000000) [Nat.add_assoc,ze,zq,zt,zr,zd,zp,zs,zy,asInt,zn,zz,sub,zl,zu,za,zk,zb,zj,zg,zh,zf,zA,zw,zo,zm,zi,Int.natCast_inj,h0,h3,hg,zJ,a,c,d,vI]
    exact hP _ (by simp [ya]) (by simp [c2,a,c,d])
   ·by_cases b:x.modes.length=0
    ·simp -implicitDefEqProofs (maxDischargeDepth:=9) (maxSteps:=1000000) [Nat.add_assoc,ze,zq,zt,zr,zd,zp,zs,zy,asInt,zn,zz,sub,zl,zu,za,zk,zb,zj,zg,zh,zf,zA,zw,zo,zm,zi,Int.natCast_inj,h0,h3,hg,zJ,a,c,d,b,vI]
     exact hP _ (by simp [ya]) (by simp [c2,a,c,d,b])
    ·have b':0<x.modes.length:=by omega
     simp -implicitDefEqProofs (maxDischargeDepth:=9) (maxSteps:=1000000) [Nat.add_assoc,ze,zq,zt,zr,zd,zp,zs,zy,asInt,zn,zz,sub,zl,zu,za,zk,zb,zj,zg,zh,zf,zA,zw,zo,zm,zi,Int.natCast_inj,h0,h3,hg,zJ,a,c,d,b,b',vI]
     exact hP _ (by simp [ya]) (by simp [c2,a,c,d,b,b'])
  ·have c':0<x.alts.length:=by omega
   simp -implicitDefEqProofs (maxDischargeDepth:=9) (maxSteps:=1000000) [Nat.add_assoc,ze,zq,zt,zr,zd,zp,zs,zy,asInt,zn,zz,sub,zl,zu,za,zk,zb,zj,zg,zh,zf,zA,zw,zo,zm,zi,Int.natCast_inj,h0,h3,hg,zJ,a,c,c',vI]
   exact hP _ (by simp [ya]) (by simp [c2,a,c,c'])
def a18_5:AC:=(.reg 5 f18_r5o [0,3,47,63,64,65,66,73,74,75,91,92,93,94,100,101,102,103,104,105,106,107,108,147,148,149,150,151,162,163])
theorem t18_5 (hg:s.get 0=some (.cells (zJ x) 0 26 true)) (hE:zI (ya l) E):Tst eT cf 166 a18_5 E (ya l) s 47 (c3 x):=by
 intro P hP
 obtain ⟨h0,h3,_⟩:=hE
 simp only at h0 h3
 unfold a18_5
 by_cases a:x.kind=4
 ·simp -implicitDefEqProofs (maxDischargeDepth:=9) (maxSteps:=1000000) [Nat.add_assoc,ze,zq,zt,zr,zd,zp,zs,zy,asInt,zn,zz,sub,zl,zu,za,zk,zb,zj,zg,zh,zf,zA,zw,zo,zm,zi,Int.natCast_inj,h0,h3,hg,zJ,a,vI]
  exact hP _ (by simp [ya]) (by simp [c3,a])
 ·simp -implicitDefEqProofs (maxDischargeDepth:=9) (maxSteps:=1000000) [Nat.add_assoc,ze,zq,zt,zr,zd,zp,zs,zy,asInt,zn,zz,sub,zl,zu,za,zk,zb,zj,zg,zh,zf,zA,zw,zo,zm,zi,Int.natCast_inj,h0,h3,hg,zJ,a,vI]
  exact hP _ (by simp [ya]) (by simp [c3,a])
def a18_7:AC:=(.reg 7 f18_r7o [0,3,57,73,74,75,91,92,93,94,100,101,102,103,104,105,106,107,108,147,148,149,150,151,162,163])
theorem t18_7 (hg:s.get 0=some (.cells (zJ x) 0 26 true)) (hE:zI (ya l) E):Tst eT cf 166 a18_7 E (ya l) s 57 (c4 x):=by
 intro P hP
 obtain ⟨h0,h3,_⟩:=hE
 simp only at h0 h3
 unfold a18_7
 by_cases a:64<x.alts.length
 ·have a':(64:Int)<x.alts.length:=by omega
  simp -implicitDefEqProofs (maxDischargeDepth:=9) (maxSteps:=1000000) [Nat.add_assoc,ze,zq,zt,zr,zd,zp,zs,zy,asInt,zn,zz,sub,zl,zu,za,zk,zb,zj,zg,zh,zf,zA,zw,zo,zm,zi,Int.natCast_inj,h0,h3,hg,zJ,a,a',vI]
  exact hP _ (by simp [ya]) (by simp [c4,a,a'])
 ·have a':¬(64:Int)<x.alts.length:=by omega
  by_cases b:32<x.modes.length
  ·have b':(32:Int)<x.modes.length:=by omega
   simp -implicitDefEqProofs (maxDischargeDepth:=9) (maxSteps:=1000000) [Nat.add_assoc,ze,zq,zt,zr,zd,zp,zs,zy,asInt,zn,zz,sub,zl,zu,za,zk,zb,zj,zg,zh,zf,zA,zw,zo,zm,zi,Int.natCast_inj,h0,h3,hg,zJ,a,a',b,b',vI]
   exact hP _ (by simp [ya]) (by simp [c4,a,a',b,b'])
  ·have b':¬(32:Int)<x.modes.length:=by omega
   simp -implicitDefEqProofs (maxDischargeDepth:=9) (maxSteps:=1000000) [Nat.add_assoc,ze,zq,zt,zr,zd,zp,zs,zy,asInt,zn,zz,sub,zl,zu,za,zk,zb,zj,zg,zh,zf,zA,zw,zo,zm,zi,Int.natCast_inj,h0,h3,hg,zJ,a,a',b,b',vI]
   exact hP _ (by simp [ya]) (by simp [c4,a,a',b,b'])
def a18_9:AC:=(.reg 9 f18_r9o [0,3,68,91,92,93,94,100,101,102,103,104,105,106,107,108,147,148,149,150,151,162,163])
theorem t18_9 (hg:s.get 0=some (.cells (zJ x) 0 26 true)) (hE:zI (ya l) E):Tst eT cf 166 a18_9 E (ya l) s 68 (c5 x):=by
 intro P hP
 obtain ⟨h0,h3,_⟩:=hE
 simp only at h0 h3
 unfold a18_9
 by_cases a:x.det<0
 ·simp -implicitDefEqProofs (maxDischargeDepth:=9) (maxSteps:=1000000) [Nat.add_assoc,ze,zq,zt,zr,zd,zp,zs,zy,asInt,zn,zz,sub,zl,zu,za,zk,zb,zj,zg,zh,zf,zA,zw,zo,zm,zi,Int.natCast_inj,h0,h3,hg,zJ,a,vI]
  exact hP _ (by simp [ya]) (by simp [c5,a])
 ·simp -implicitDefEqProofs (maxDischargeDepth:=9) (maxSteps:=1000000) [Nat.add_assoc,ze,zq,zt,zr,zd,zp,zs,zy,asInt,zn,zz,sub,zl,zu,za,zk,zb,zj,zg,zh,zf,zA,zw,zo,zm,zi,Int.natCast_inj,h0,h3,hg,zJ,a,vI]
  exact hP _ (by simp [ya]) (by simp [c5,a])
theorem q18_2:tS eT cf 166 (.seq (.reg 2 f18_r2o [4]) .ret) 4 (vI 3):=by
 intro E s P hP
 simp -implicitDefEqProofs (maxDischargeDepth:=9) (maxSteps:=1000000) [Nat.add_assoc,ze,zq,zt,zr,zd,zp,zs,zy,asInt,zn,zz,sub,zl,zu,za,zk,zb,zj,zg,zh,zf,zA,zw,zo,zm,zi,Int.natCast_inj,]
 exact hP _ (by simp [vI])
theorem q18_4:tS eT cf 166 (.seq (.reg 4 f18_r4o [4]) .ret) 4 (vI 4):=by
 intro E s P hP
 simp -implicitDefEqProofs (maxDischargeDepth:=9) (maxSteps:=1000000) [Nat.add_assoc,ze,zq,zt,zr,zd,zp,zs,zy,asInt,zn,zz,sub,zl,zu,za,zk,zb,zj,zg,zh,zf,zA,zw,zo,zm,zi,Int.natCast_inj,]
 exact hP _ (by simp [vI])
theorem q18_6:tS eT cf 166 (.seq (.reg 6 f18_r6o [4]) .ret) 4 (vI 7):=by
 intro E s P hP
 simp -implicitDefEqProofs (maxDischargeDepth:=9) (maxSteps:=1000000) [Nat.add_assoc,ze,zq,zt,zr,zd,zp,zs,zy,asInt,zn,zz,sub,zl,zu,za,zk,zb,zj,zg,zh,zf,zA,zw,zo,zm,zi,Int.natCast_inj,]
 exact hP _ (by simp [vI])
theorem q18_8:tS eT cf 166 (.seq (.reg 8 f18_r8o [4]) .ret) 4 (vI 6):=by
 intro E s P hP
 simp -implicitDefEqProofs (maxDischargeDepth:=9) (maxSteps:=1000000) [Nat.add_assoc,ze,zq,zt,zr,zd,zp,zs,zy,asInt,zn,zz,sub,zl,zu,za,zk,zb,zj,zg,zh,zf,zA,zw,zo,zm,zi,Int.natCast_inj,]
 exact hP _ (by simp [vI])
theorem q18_10:tS eT cf 166 (.seq (.reg 10 f18_r10o [4]) .ret) 4 (vI 5):=by
 intro E s P hP
 simp -implicitDefEqProofs (maxDischargeDepth:=9) (maxSteps:=1000000) [Nat.add_assoc,ze,zq,zt,zr,zd,zp,zs,zy,asInt,zn,zz,sub,zl,zu,za,zk,zb,zj,zg,zh,zf,zA,zw,zo,zm,zi,Int.natCast_inj,]
 exact hP _ (by simp [vI])
theorem q18_15:tS eT cf 166 (.seq (.reg 15 f18_r15o [4]) .ret) 4 (vI 10):=by
 intro E s P hP
 simp -implicitDefEqProofs (maxDischargeDepth:=9) (maxSteps:=1000000) [Nat.add_assoc,ze,zq,zt,zr,zd,zp,zs,zy,asInt,zn,zz,sub,zl,zu,za,zk,zb,zj,zg,zh,zf,zA,zw,zo,zm,zi,Int.natCast_inj,]
 exact hP _ (by simp [vI])
theorem q18_17:tS eT cf 166 (.seq (.reg 17 f18_r17o [4]) .ret) 4 (vI 13):=by
 intro E s P hP
 simp -implicitDefEqProofs (maxDischargeDepth:=9) (maxSteps:=1000000) [Nat.add_assoc,ze,zq,zt,zr,zd,zp,zs,zy,asInt,zn,zz,sub,zl,zu,za,zk,zb,zj,zg,zh,zf,zA,zw,zo,zm,zi,Int.natCast_inj,]
 exact hP _ (by simp [vI])
theorem q18_19:tS eT cf 166 (.seq (.reg 19 f18_r19o [4]) .ret) 4 (vI 6):=by
 intro E s P hP
 simp -implicitDefEqProofs (maxDischargeDepth:=9) (maxSteps:=1000000) [Nat.add_assoc,ze,zq,zt,zr,zd,zp,zs,zy,asInt,zn,zz,sub,zl,zu,za,zk,zb,zj,zg,zh,zf,zA,zw,zo,zm,zi,Int.natCast_inj,]
 exact hP _ (by simp [vI])
theorem q18_24:tS eT cf 166 (.seq (.reg 24 f18_r24o [4]) .ret) 4 (vI 5):=by
 intro E s P hP
 simp -implicitDefEqProofs (maxDischargeDepth:=9) (maxSteps:=1000000) [Nat.add_assoc,ze,zq,zt,zr,zd,zp,zs,zy,asInt,zn,zz,sub,zl,zu,za,zk,zb,zj,zg,zh,zf,zA,zw,zo,zm,zi,Int.natCast_inj,]
 exact hP _ (by simp [vI])
theorem q18_26:tS eT cf 166 (.seq (.reg 26 f18_r26o [4]) .ret) 4 (vI 18):=by
 intro E s P hP
 simp -implicitDefEqProofs (maxDischargeDepth:=9) (maxSteps:=1000000) [Nat.add_assoc,ze,zq,zt,zr,zd,zp,zs,zy,asInt,zn,zz,sub,zl,zu,za,zk,zb,zj,zg,zh,zf,zA,zw,zo,zm,zi,Int.natCast_inj,]
 exact hP _ (by simp [vI])
theorem q18_33:tS eT cf 166 (.seq (.reg 33 f18_r33o [4]) .ret) 4 (vI 5):=by
 intro E s P hP
 simp -implicitDefEqProofs (maxDischargeDepth:=9) (maxSteps:=1000000) [Nat.add_assoc,ze,zq,zt,zr,zd,zp,zs,zy,asInt,zn,zz,sub,zl,zu,za,zk,zb,zj,zg,zh,zf,zA,zw,zo,zm,zi,Int.natCast_inj,]
 exact hP _ (by simp [vI])
theorem q18_36:tS eT cf 166 (.seq (.reg 36 f18_r36o [4]) .ret) 4 (vI 18):=by
 intro E s P hP
 simp -implicitDefEqProofs (maxDischargeDepth:=9) (maxSteps:=1000000) [Nat.add_assoc,ze,zq,zt,zr,zd,zp,zs,zy,asInt,zn,zz,sub,zl,zu,za,zk,zb,zj,zg,zh,zf,zA,zw,zo,zm,zi,Int.natCast_inj,]
 exact hP _ (by simp [vI])
theorem q18_38:tS eT cf 166 (.seq (.reg 38 f18_r38o [4]) .ret) 4 (vI 0):=by
 intro E s P hP
 simp -implicitDefEqProofs (maxDischargeDepth:=9) (maxSteps:=1000000) [Nat.add_assoc,ze,zq,zt,zr,zd,zp,zs,zy,asInt,zn,zz,sub,zl,zu,za,zk,zb,zj,zg,zh,zf,zA,zw,zo,zm,zi,Int.natCast_inj,]
 exact hP _ (by simp [vI])
def a20_1:AC:=(.reg 1 f20_r1o [0,3,16,21,22,23,24,27,28,29,30,31,32,33,34,35,36,37,38,39,40,46,47,48,49,56,57,58,59,65,66,67,100,101,102,103,104,107,108,109,112,113,114,115,116,126,127,128,129,130,131,132])
theorem t20_1 (hg:s.get 0=some (.cells (zJ x) 0 26 true)) (hE:zI (ya l) E):Tst e cf 134 a20_1 E (ya l) s 16 (c1 x):=by
 intro P hP
 obtain ⟨h0,h3,_⟩:=hE
 simp only at h0 h3
 unfold a20_1
 by_cases a:x.kind<0
 ·simp -implicitDefEqProofs (maxDischargeDepth:=9) (maxSteps:=1000000) [Nat.add_assoc,ze,zq,zt,zr,zd,zp,zs,zy,asInt,zn,zz,sub,zl,zu,za,zk,zb,zj,zg,zh,zf,zA,zw,zo,zm,zi,Int.natCast_inj,h0,h3,hg,zJ,a,vI]
  exact hP _ (by simp [ya]) (by simp [c1,a])
 ·simp -implicitDefEqProofs (maxDischargeDepth:=9) (maxSteps:=1000000) [Nat.add_assoc,ze,zq,zt,zr,zd,zp,zs,zy,asInt,zn,zz,sub,zl,zu,za,zk,zb,zj,zg,zh,zf,zA,zw,zo,zm,zi,Int.natCast_inj,h0,h3,hg,zJ,a,vI]
  exact hP _ (by simp [ya]) (by simp [c1,a])
def a20_3:AC:=(.reg 3 uT [0,3,41,46,47,48,49,56,57,58,59,65,66,67,100,101,102,103,104,107,108,109,112,113,114,115,116,126,127,128,129,130,131,132])
theorem t20_3 (hg:s.get 0=some (.cells (zJ x) 0 26 true)) (hE:zI (ya l) E):Tst e cf 134 a20_3 E (ya l) s 41 (c2 x):=by
 intro P hP
 obtain ⟨h0,h3,_⟩:=hE
 simp only at h0 h3
 unfold a20_3
 by_cases a:x.kind=4
 ·by_cases b:x.modes.length=0
  ·simp -implicitDefEqProofs (maxDischargeDepth:=9) (maxSteps:=1000000) [Nat.add_assoc,ze,zq,zt,zr,zd,zp,zs,zy,asInt,zn,zz,sub,zl,zu,za,zk,zb,zj,zg,zh,zf,zA,zw,zo,zm,zi,Int.natCast_inj,h0,h3,hg,zJ,a,b,vI]
   exact hP _ (by simp [ya]) (by simp [c2,a,b])
  ·have b':0<x.modes.length:=by omega
   simp -implicitDefEqProofs (maxDischargeDepth:=9) (maxSteps:=1000000) [Nat.add_assoc,ze,zq,zt,zr,zd,zp,zs,zy,asInt,zn,zz,sub,zl,zu,za,zk,zb,zj,zg,zh,zf,zA,zw,zo,zm,zi,Int.natCast_inj,h0,h3,hg,zJ,a,b,b',vI]
   exact hP _ (by simp [ya]) (by simp [c2,a,b,b'])
 ·by_cases c:x.alts.length=0
  ·by_cases d:x.kind=5
   ·simp -implicitDefEqProofs (maxDischargeDepth:=9) (maxSteps:=1000000) [Nat.add_assoc,ze,zq,zt,zr,zd,zp,zs,zy,asInt,zn,zz,sub,zl,zu,za,zk,zb,zj,zg,zh,zf,zA,zw,zo,zm,zi,Int.natCast_inj,h0,h3,hg,zJ,a,c,d,vI]
    exact hP _ (by simp [ya]) (by simp [c2,a,c,d])
   ·by_cases b:x.modes.length=0
    ·simp -implicitDefEqProofs (maxDischargeDepth:=9) (maxSteps:=1000000) [Nat.add_assoc,ze,zq,zt,zr,zd,zp,zs,zy,asInt,zn,zz,sub,zl,zu,za,zk,zb,zj,zg,zh,zf,zA,zw,zo,zm,zi,Int.natCast_inj,h0,h3,hg,zJ,a,c,d,b,vI]
     exact hP _ (by simp [ya]) (by simp [c2,a,c,d,b])
    ·have b':0<x.modes.length:=by omega
     simp -implicitDefEqProofs (maxDischargeDepth:=9) (maxSteps:=1000000) [Nat.add_assoc,ze,zq,zt,zr,zd,zp,zs,zy,asInt,zn,zz,sub,zl,zu,za,zk,zb,zj,zg,zh,zf,zA,zw,zo,zm,zi,Int.natCast_inj,h0,h3,hg,zJ,a,c,d,b,b',vI]
     exact hP _ (by simp [ya]) (by simp [c2,a,c,d,b,b'])
  ·have c':0<x.alts.length:=by omega
   simp -implicitDefEqProofs (maxDischargeDepth:=9) (maxSteps:=1000000) [Nat.add_assoc,ze,zq,zt,zr,zd,zp,zs,zy,asInt,zn,zz,sub,zl,zu,za,zk,zb,zj,zg,zh,zf,zA,zw,zo,zm,zi,Int.natCast_inj,h0,h3,hg,zJ,a,c,c',vI]
   exact hP _ (by simp [ya]) (by simp [c2,a,c,c'])
def a20_5:AC:=(.reg 5 f20_r5o [0,3,50,56,57,58,59,65,66,67,100,101,102,103,104,107,108,109,112,113,114,115,116,126,127,128,129,130,131,132])
theorem t20_5 (hg:s.get 0=some (.cells (zJ x) 0 26 true)) (hE:zI (ya l) E):Tst e cf 134 a20_5 E (ya l) s 50 (c3 x):=by
 intro P hP
 obtain ⟨h0,h3,_⟩:=hE
 simp only at h0 h3
 unfold a20_5
 by_cases a:x.kind=4
 ·simp -implicitDefEqProofs (maxDischargeDepth:=9) (maxSteps:=1000000) [Nat.add_assoc,ze,zq,zt,zr,zd,zp,zs,zy,asInt,zn,zz,sub,zl,zu,za,zk,zb,zj,zg,zh,zf,zA,zw,zo,zm,zi,Int.natCast_inj,h0,h3,hg,zJ,a,vI]
  exact hP _ (by simp [ya]) (by simp [c3,a])
 ·simp -implicitDefEqProofs (maxDischargeDepth:=9) (maxSteps:=1000000) [Nat.add_assoc,ze,zq,zt,zr,zd,zp,zs,zy,asInt,zn,zz,sub,zl,zu,za,zk,zb,zj,zg,zh,zf,zA,zw,zo,zm,zi,Int.natCast_inj,h0,h3,hg,zJ,a,vI]
  exact hP _ (by simp [ya]) (by simp [c3,a])
def a20_7:AC:=(.reg 7 f20_r7o [0,3,60,65,66,67,100,101,102,103,104,107,108,109,112,113,114,115,116,126,127,128,129,130,131,132])
theorem t20_7 (hg:s.get 0=some (.cells (zJ x) 0 26 true)) (hE:zI (ya l) E):Tst e cf 134 a20_7 E (ya l) s 60 (c4 x):=by
 intro P hP
 obtain ⟨h0,h3,_⟩:=hE
 simp only at h0 h3
 unfold a20_7
 by_cases a:64<x.alts.length
 ·have a':(64:Int)<x.alts.length:=by omega
  simp -implicitDefEqProofs (maxDischargeDepth:=9) (maxSteps:=1000000) [Nat.add_assoc,ze,zq,zt,zr,zd,zp,zs,zy,asInt,zn,zz,sub,zl,zu,za,zk,zb,zj,zg,zh,zf,zA,zw,zo,zm,zi,Int.natCast_inj,h0,h3,hg,zJ,a,a',vI]
  exact hP _ (by simp [ya]) (by simp [c4,a,a'])
 ·have a':¬(64:Int)<x.alts.length:=by omega
  by_cases b:32<x.modes.length
  ·have b':(32:Int)<x.modes.length:=by omega
   simp -implicitDefEqProofs (maxDischargeDepth:=9) (maxSteps:=1000000) [Nat.add_assoc,ze,zq,zt,zr,zd,zp,zs,zy,asInt,zn,zz,sub,zl,zu,za,zk,zb,zj,zg,zh,zf,zA,zw,zo,zm,zi,Int.natCast_inj,h0,h3,hg,zJ,a,a',b,b',vI]
   exact hP _ (by simp [ya]) (by simp [c4,a,a',b,b'])
  ·have b':¬(32:Int)<x.modes.length:=by omega
   simp -implicitDefEqProofs (maxDischargeDepth:=9) (maxSteps:=1000000) [Nat.add_assoc,ze,zq,zt,zr,zd,zp,zs,zy,asInt,zn,zz,sub,zl,zu,za,zk,zb,zj,zg,zh,zf,zA,zw,zo,zm,zi,Int.natCast_inj,h0,h3,hg,zJ,a,a',b,b',vI]
   exact hP _ (by simp [ya]) (by simp [c4,a,a',b,b'])
def a20_9:AC:=(.reg 9 f20_r9o [0,3,68,100,101,102,103,104,107,108,109,112,113,114,115,116,126,127,128,129,130,131,132])
theorem t20_9 (hg:s.get 0=some (.cells (zJ x) 0 26 true)) (hE:zI (ya l) E):Tst e cf 134 a20_9 E (ya l) s 68 (c5 x):=by
 intro P hP
 obtain ⟨h0,h3,_⟩:=hE
 simp only at h0 h3
 unfold a20_9
 by_cases a:x.det<0
 ·simp -implicitDefEqProofs (maxDischargeDepth:=9) (maxSteps:=1000000) [Nat.add_assoc,ze,zq,zt,zr,zd,zp,zs,zy,asInt,zn,zz,sub,zl,zu,za,zk,zb,zj,zg,zh,zf,zA,zw,zo,zm,zi,Int.natCast_inj,h0,h3,hg,zJ,a,vI]
  exact hP _ (by simp [ya]) (by simp [c5,a])
 ·simp -implicitDefEqProofs (maxDischargeDepth:=9) (maxSteps:=1000000) [Nat.add_assoc,ze,zq,zt,zr,zd,zp,zs,zy,asInt,zn,zz,sub,zl,zu,za,zk,zb,zj,zg,zh,zf,zA,zw,zo,zm,zi,Int.natCast_inj,h0,h3,hg,zJ,a,vI]
  exact hP _ (by simp [ya]) (by simp [c5,a])
theorem q20_2:tS e cf 134 (.seq (.reg 2 f20_r2o [4]) .ret) 4 (vI 3):=by
 intro E s P hP
 simp -implicitDefEqProofs (maxDischargeDepth:=9) (maxSteps:=1000000) [Nat.add_assoc,ze,zq,zt,zr,zd,zp,zs,zy,asInt,zn,zz,sub,zl,zu,za,zk,zb,zj,zg,zh,zf,zA,zw,zo,zm,zi,Int.natCast_inj,]
 exact hP _ (by simp [vI])
theorem q20_4:tS e cf 134 (.seq (.reg 4 f20_r4o [4]) .ret) 4 (vI 4):=by
 intro E s P hP
 simp -implicitDefEqProofs (maxDischargeDepth:=9) (maxSteps:=1000000) [Nat.add_assoc,ze,zq,zt,zr,zd,zp,zs,zy,asInt,zn,zz,sub,zl,zu,za,zk,zb,zj,zg,zh,zf,zA,zw,zo,zm,zi,Int.natCast_inj,]
 exact hP _ (by simp [vI])
theorem q20_6:tS e cf 134 (.seq (.reg 6 f20_r6o [4]) .ret) 4 (vI 7):=by
 intro E s P hP
 simp -implicitDefEqProofs (maxDischargeDepth:=9) (maxSteps:=1000000) [Nat.add_assoc,ze,zq,zt,zr,zd,zp,zs,zy,asInt,zn,zz,sub,zl,zu,za,zk,zb,zj,zg,zh,zf,zA,zw,zo,zm,zi,Int.natCast_inj,]
 exact hP _ (by simp [vI])
theorem q20_8:tS e cf 134 (.seq (.reg 8 f20_r8o [4]) .ret) 4 (vI 6):=by
 intro E s P hP
 simp -implicitDefEqProofs (maxDischargeDepth:=9) (maxSteps:=1000000) [Nat.add_assoc,ze,zq,zt,zr,zd,zp,zs,zy,asInt,zn,zz,sub,zl,zu,za,zk,zb,zj,zg,zh,zf,zA,zw,zo,zm,zi,Int.natCast_inj,]
 exact hP _ (by simp [vI])
theorem q20_10:tS e cf 134 (.seq (.reg 10 f20_r10o [4]) .ret) 4 (vI 5):=by
 intro E s P hP
 simp -implicitDefEqProofs (maxDischargeDepth:=9) (maxSteps:=1000000) [Nat.add_assoc,ze,zq,zt,zr,zd,zp,zs,zy,asInt,zn,zz,sub,zl,zu,za,zk,zb,zj,zg,zh,zf,zA,zw,zo,zm,zi,Int.natCast_inj,]
 exact hP _ (by simp [vI])
theorem q20_22:tS e cf 134 (.seq (.reg 22 f20_r22o [4]) .ret) 4 (vI 5):=by
 intro E s P hP
 simp -implicitDefEqProofs (maxDischargeDepth:=9) (maxSteps:=1000000) [Nat.add_assoc,ze,zq,zt,zr,zd,zp,zs,zy,asInt,zn,zz,sub,zl,zu,za,zk,zb,zj,zg,zh,zf,zA,zw,zo,zm,zi,Int.natCast_inj,]
 exact hP _ (by simp [vI])
theorem q20_24:tS e cf 134 (.seq (.reg 24 f20_r24o [4]) .ret) 4 (vI 18):=by
 intro E s P hP
 simp -implicitDefEqProofs (maxDischargeDepth:=9) (maxSteps:=1000000) [Nat.add_assoc,ze,zq,zt,zr,zd,zp,zs,zy,asInt,zn,zz,sub,zl,zu,za,zk,zb,zj,zg,zh,zf,zA,zw,zo,zm,zi,Int.natCast_inj,]
 exact hP _ (by simp [vI])
theorem q20_25:tS e cf 134 (.seq (.reg 25 f20_r25o [4]) .ret) 4 (vI 0):=by
 intro E s P hP
 simp -implicitDefEqProofs (maxDischargeDepth:=9) (maxSteps:=1000000) [Nat.add_assoc,ze,zq,zt,zr,zd,zp,zs,zy,asInt,zn,zz,sub,zl,zu,za,zk,zb,zj,zg,zh,zf,zA,zw,zo,zm,zi,Int.natCast_inj,]
 exact hP _ (by simp [vI])
end
end Go.Proofs.YtchlfjhbijmdiaaGreatDoor.Ai

namespace Go.Proofs.YtchlfjhbijmdiaaGreatDoor.Ai
open Go.Proofs
set_option maxRecDepth 100000
set_option maxHeartbeats 4000000

def g18_2:AC:=(.seq (.reg 2 f18_r2o [4]) .ret)
def g18_4:AC:=(.seq (.reg 4 f18_r4o [4]) .ret)
def g18_6:AC:=(.seq (.reg 6 f18_r6o [4]) .ret)
def g18_8:AC:=(.seq (.reg 8 f18_r8o [4]) .ret)
def g18_10:AC:=(.seq (.reg 10 f18_r10o [4]) .ret)
def g18_15:AC:=(.seq (.reg 15 f18_r15o [4]) .ret)
def g18_17:AC:=(.seq (.reg 17 f18_r17o [4]) .ret)
def g18_19:AC:=(.seq (.reg 19 f18_r19o [4]) .ret)
def g18_24:AC:=(.seq (.reg 24 f18_r24o [4]) .ret)
def g18_26:AC:=(.seq (.reg 26 f18_r26o [4]) .ret)
def g18_33:AC:=(.seq (.reg 33 f18_r33o [4]) .ret)
def g18_36:AC:=(.seq (.reg 36 f18_r36o [4]) .ret)
def g18_38:AC:=(.seq (.reg 38 f18_r38o [4]) .ret)
def a18_11:AC:=(.reg 11 f18_r11o [0,3,78,79,80,91,92,93,94,100,101,102,103,104,105,106,107,108,147,148,149,150,151,162,163])
def a18_12:AC:=(.reg 12 f18_r12o [0,3,78,79,80,81,91,92,93,94,100,101,102,103,104,105,106,107,108,147,148,149,150,151,162,163])
def a18_13:AC:=(.reg 13 f18_r13o [0,3,5,6,78,79,80,91,92,93,94,100,101,102,103,104,105,106,107,108,147,148,149,150,151,162,163])
def a18_14:AC:=(.reg 14 f18_r14o [0,3,5,6,78,79,80,85,91,92,93,94,100,101,102,103,104,105,106,107,108,147,148,149,150,151,162,163])
def a18_16:AC:=(.draw 16 wt [0,3,6,78,79,80,91,92,93,94,96,100,101,102,103,104,105,106,107,108,147,148,149,150,151,162,163])
def a18_18:AC:=(.reg 18 f18_r18o [0,3,6,78,79,80,91,92,93,94,100,101,102,103,104,105,106,107,108,110,147,148,149,150,151,162,163])
def a18_20:AC:=(.reg 20 f18_r20o [0,3,78,79,80,91,92,93,94,100,101,102,103,104,105,106,107,108,116,117,118,147,148,149,150,151,162,163])
def a18_21:AC:=(.reg 21 f18_r21o [0,3,78,79,80,91,92,93,94,100,101,102,103,104,105,106,107,108,116,117,118,119,147,148,149,150,151,162,163])
def a18_22:AC:=(.reg 22 f18_r22o [0,3,8,78,79,80,91,92,93,94,100,101,102,103,104,105,106,107,108,116,117,118,147,148,149,150,151,162,163])
def a18_23:AC:=(.reg 23 f18_r23o [0,3,8,78,79,80,91,92,93,94,100,101,102,103,104,105,106,107,108,116,117,118,125,147,148,149,150,151,162,163])
def a18_25:AC:=(.reg 25 f18_r25o [0,3,78,79,80,91,92,93,94,100,101,102,103,104,105,106,107,108,116,117,118,131,147,148,149,150,151,162,163])
def a18_27:AC:=(.reg 27 f18_r27o [0,3,78,79,80,91,92,93,94,100,101,102,103,104,105,106,107,108,116,117,118,147,148,149,150,151,162,163])
def a18_28:AC:=(.reg 28 f18_r28o [0,3,78,79,80,91,92,93,94,100,101,102,103,104,105,106,107,108,147,148,149,150,151,162,163])
def a18_29:AC:=(.reg 29 f18_r29o [0,135,136,137,147,148,149,150,151,162,163])
def a18_30:AC:=(.reg 30 f18_r30o [0,135,136,137,138,147,148,149,150,151,162,163])
def a18_31:AC:=(.reg 31 f18_r31o [0,10,135,136,137,147,148,149,150,151,162,163])
def a18_32:AC:=(.reg 32 f18_r32o [0,10,135,136,137,147,148,149,150,151,152,162,163])
def a18_34:AC:=(.reg 34 f18_r34o [0,11,135,136,137,147,148,149,150,151,162,163])
def a18_35:AC:=(.reg 35 f18_r35o [0,135,136,137,147,148,149,150,151,162,163,164])
def a18_37:AC:=(.reg 37 f18_r37o [0,135,136,137,147,148,149,150,151,162,163])
def m18:AC:=(.seq (.seq a18_32 (.cond (.tmp 152) g18_33 .skip)) (.seq a18_34 (.seq a18_35 (.cond (.tmp 164) g18_36 .skip))))
theorem l18_2:f18_l2=(.seq a18_30 (.seq (.cond (.tmp 138) .skip (.exit 6)) (.seq (.block 7 (.seq a18_31 m18)) a18_37))):=rfl
def b18:AC:=(.seq (.seq a18_23 (.cond (.tmp 125) g18_24 .skip)) (.seq a18_25 (.cond (.tmp 131) g18_26 .skip)))
theorem l18_0:f18_l0=(.seq a18_21 (.seq (.cond (.tmp 119) .skip (.exit 4)) (.seq (.block 5 (.seq a18_22 b18)) a18_27))):=rfl
def x18:AC:=(.seq a18_14 (.cond (.tmp 85) g18_15 (.seq a18_16 (.cond (.tmp 96) g18_17 (.seq a18_18 (.cond (.tmp 110) g18_19 .skip))))))
theorem l18_1:f18_l1=(.seq a18_12 (.seq (.cond (.tmp 81) .skip (.exit 1)) (.seq (.block 2 (.seq a18_13 (.seq (.block 3 x18) (.seq a18_20 (.block 4 (.loop f18_l0)))))) a18_28))):=rfl
def h18:AC:=(.seq a18_1 (.cond (.tmp 12) g18_2 (.seq a18_3 (.cond (.tmp 21) g18_4 (.seq a18_5 (.cond (.tmp 47) g18_6 (.seq a18_7 (.cond (.tmp 57) g18_8 (.seq a18_9 (.cond (.tmp 68) g18_10 .skip))))))))))
def k18_2:AC:=(.seq (.seq a18_29 (.block 6 (.loop f18_l2))) g18_38)
def k18_1:AC:=(.seq (.seq a18_11 (.block 1 (.loop f18_l1))) k18_2)
theorem top18:f18_ac=(.seq (.reg 0 f18_r0o [0,3,17,18,19,26,27,28,29,32,33,34,35,36,37,38,39,40,41,42,43,44,45,52,53,54,55,63,64,65,66,73,74,75,91,92,93,94,100,101,102,103,104,105,106,107,108,147,148,149,150,151,162,163]) (.seq (.block 0 h18) k18_1)):=rfl
section
variable {e:List (FuncId×(List V→Option V))} {cf:CF} {N:Nat} {l:List Inst} {x:Inst} {s:S} {E:Env} {P:AX→Env→S→Prop} {R A B C:AC} {t d i j k:Nat} {b:Bool} {core:Env} {v:V}
/-- A region that goes on. -/
def Stp (e:List (FuncId×(List V→Option V))) (cf:CF) (N:Nat) (R:AC) (E core:Env) (s:S):Prop:=∀Q:AX→Env→S→Prop,(∀E',zI core E'→Q .normal E' s)→yd (st e []) cf true [] N R E s Q
theorem stp_seq (hR:Stp e cf N R E core s) (hB:∀E',zI core E'→yd (st e []) cf true [] N B E' s P):yd (st e []) cf true [] N (.seq R B) E s P:=by
 rw [yN]
 exact hR _ fun E' h=>hB E' h

@[simp] theorem eget_keep_ne {o:Option V} {n m:Nat} {r:Env} (h:¬m=n):yw (KeepE o n r) m=yw r m:=by
 cases o with
 | none=>rfl
 | some v=>simp only [KeepE,yw,if_neg h]

/-! the modes -/
def envM (l:List Inst) (x:Inst) (j:Nat):Env:=[(0,.list (l.map eX)),(135,.list (x.modes.map eM)),(136,.int .i64 x.modes.length),(137,.int .i64 j)]
def coreM (l:List Inst) (x:Inst) (j k:Nat):Env:=(10,.ptr k 0)::envM l x j
theorem call36 (hl:l.length≤1000) {n:Int}:zF (st eT []) cf 44 [.list (l.map eX),vI n] s=some (.val (.bool (tB l n)) s):=by
 refine zH ?_
 simp [eT,yB,e36,vI,hl]
theorem t18_32 (hl:l.length≤1000) {m:Int×Int} (hg:s.get k=some (.cells [vI m.1,vI m.2] 0 55 true)) (hE:zI (coreM l x j k) E):Tst eT cf 166 a18_32 E (coreM l x j k) s 152 (!(tB l m.1 && tB l m.2)):=by
 intro P hP
 obtain ⟨h10,h0,h135,h136,h137,_⟩:=hE
 simp only at h10 h0 h135 h136 h137
 unfold a18_32
 have q1:=call36 (cf:=cf) (s:=s) hl (n:=m.1)
 have q2:=call36 (cf:=cf) (s:=s) hl (n:=m.2)
 cases h1:tB l m.1 with
 | true =>
  rw [h1] at q1
  simp -implicitDefEqProofs (maxDischargeDepth:=9) (maxSteps:=1000000) [Nat.add_assoc,ze,zq,zt,zr,zd,zp,zs,zy,asInt,zn,zz,sub,zl,zu,za,zk,zb,zj,zg,zh,zf,zA,zw,zo,zm,zi,Int.natCast_inj,h10,h0,h135,h136,h137,hg,q1,q2]
  exact hP _ (by simp [coreM,envM]) (by simp [h1])
 | false =>
  rw [h1] at q1
  simp -implicitDefEqProofs (maxDischargeDepth:=9) (maxSteps:=1000000) [Nat.add_assoc,ze,zq,zt,zr,zd,zp,zs,zy,asInt,zn,zz,sub,zl,zu,za,zk,zb,zj,zg,zh,zf,zA,zw,zo,zm,zi,Int.natCast_inj,h10,h0,h135,h136,h137,hg,q1]
  exact hP _ (by simp [coreM,envM]) (by simp [h1])
theorem t18_34 {y:Inst} {m:Int×Int} (hg:s.get k=some (.cells [vI m.1,vI m.2] 0 55 true)) (hy:l[m.1.toNat]?=some y) (h0m:0≤m.1) (hE:zI (coreM l x j k) E):Stp eT cf 166 a18_34 E ((11,vI y.kind)::envM l x j) s:=by
 intro P hP
 obtain ⟨h10,h0,h135,h136,h137,_⟩:=hE
 simp only at h10 h0 h135 h136 h137
 obtain ⟨m1,m2⟩:=m
 obtain ⟨n,rfl⟩:∃n:Nat,m1=n:=⟨m1.toNat,by simp only at h0m; omega⟩
 simp only [Int.toNat_natCast] at hy
 have hn:n<l.length:=(List.getElem?_eq_some_iff.1 hy).1
 unfold a18_34
 have hyn:l[n]=y:=by rw [List.getElem?_eq_getElem hn] at hy; exact Option.some.inj hy
 simp -implicitDefEqProofs (maxDischargeDepth:=9) (maxSteps:=1000000) [Nat.add_assoc,ze,zq,zt,zr,zd,zp,zs,zy,asInt,zn,zz,sub,zl,zu,za,zk,zb,zj,zg,zh,zf,zA,zw,zo,zm,zi,Int.natCast_inj,h10,h0,h135,h136,h137,hg,hy,hn,eX,vI]
 exact hP _ (by simp [envM,vI,hyn])
theorem t18_35 {y:Inst} (hE:zI ((11,vI y.kind)::envM l x j) E):Tst eT cf 166 a18_35 E (envM l x j) s 164 (decide (y.kind=6) || decide (y.kind=3)):=by
 intro P hP
 obtain ⟨h11,h0,h135,h136,h137,_⟩:=hE
 simp only at h11 h0 h135 h136 h137
 unfold a18_35
 by_cases h:y.kind=6
 ·simp -implicitDefEqProofs (maxDischargeDepth:=9) (maxSteps:=1000000) [Nat.add_assoc,ze,zq,zt,zr,zd,zp,zs,zy,asInt,zn,zz,sub,zl,zu,za,zk,zb,zj,zg,zh,zf,zA,zw,zo,zm,zi,Int.natCast_inj,h11,h0,h135,h136,h137,h,vI]
  exact hP _ (by simp [envM]) (by simp [h])
 ·simp -implicitDefEqProofs (maxDischargeDepth:=9) (maxSteps:=1000000) [Nat.add_assoc,ze,zq,zt,zr,zd,zp,zs,zy,asInt,zn,zz,sub,zl,zu,za,zk,zb,zj,zg,zh,zf,zA,zw,zo,zm,zi,Int.natCast_inj,h11,h0,h135,h136,h137,h,vI]
  exact hP _ (by simp [envM]) (by simp [h])
theorem modAt_at (h:j<x.modes.length):vz l x j=modE l x.modes[j]:=by simp [vz,List.getElem?_eq_getElem h]
theorem m18_ok (hl:l.length≤1000) {m:Int×Int} (hg:s.get k=some (.cells [vI m.1,vI m.2] 0 55 true)) (hE:zI (coreM l x j k) E)
  (hR:¬modE l m=0→∀E',yw E' 4=some (vI (modE l m))→P .ret E' s) (hN:modE l m=0→∀E',zI (envM l x j) E'→P .normal E' s):yd (st eT []) cf true [] 166 m18 E s P:=by
 unfold m18
 refine yO (t18_32 hl hg hE) q18_33 (fun hb E' hE'=>?_) fun hb E' hE'=>?_
 ·have hm:modE l m=5:=by
   unfold modE
   rw [if_neg (by intro hh; rw [hh] at hb; cases hb)]
  rw [hm] at hR
  exact hR (by decide) E' hE'
 ·simp only [Bool.not_eq_false'] at hb
  have hb':=hb
  simp only [Bool.and_eq_true] at hb'
  obtain ⟨h1,h2⟩:=xK.1 hb'.1
  have hlt:m.1.toNat<l.length:=by omega
  have hy:=List.getElem?_eq_getElem hlt
  have hm:modE l m=if l[m.1.toNat].kind=6∨l[m.1.toNat].kind=3 then 18 else 0:=by
   unfold modE
   rw [if_pos hb,hy]
  refine stp_seq (t18_34 hg hy h1 hE') fun E2 hE2=>?_
  refine xb (t18_35 hE2) q18_36 (fun hc E3 hE3=>?_) fun hc E3 hE3=>?_
  ·rw [if_pos (by simpa using hc)] at hm
   rw [hm] at hR
   exact hR (by decide) E3 hE3
  ·rw [if_neg (by simpa using hc)] at hm
   exact hN hm E3 hE3
theorem b18_2 (hl:l.length≤1000) (hm:x.modes.length≤1000) (h:j<x.modes.length) (hw:s.wf) (hR:¬vz l x j=0→∀E' s',yw E' 4=some (vI (vz l x j))→P .ret E' s') (hN:vz l x j=0→∀E' s',s'.wf→zI (envM l x (j+1)) E'→P .normal E' s') :
  yd (st eT []) cf true [] 166 f18_l2 (envM l x j) s P:=by
 have e1:=List.getElem?_eq_getElem h
 have e3:IntKind.i64.wrap ((j:Int)+1)=((j+1:Nat):Int):=zN (by omega) (by omega)
 rw [l18_2]
 simp -implicitDefEqProofs (maxDischargeDepth:=9) (maxSteps:=1000000) [Nat.add_assoc,ze,zq,zt,zr,zd,zp,zs,zy,asInt,zn,zz,sub,zl,zu,za,zk,zb,zj,zg,zh,zf,zA,zw,zo,zm,zi,Int.natCast_inj,envM,a18_30,a18_31,h,hw,e1,eM]
 refine m18_ok (x:=x) (j:=j) (k:=s.next) (m:=x.modes[j]) hl (by simp [S.get_put]) (by simp [coreM,envM]) ?_ ?_
 ·intro h1 E' hE'
  rw [← modAt_at h] at h1 hE'
  exact hR h1 E' _ hE'
 ·intro h1 E' hE'
  rw [← modAt_at h] at h1
  obtain ⟨h0,h135,h136,h137,_⟩:=hE'
  simp only at h0 h135 h136 h137
  simp only [zZ,zK]
  unfold a18_37
  simp -implicitDefEqProofs (maxDischargeDepth:=9) (maxSteps:=1000000) [Nat.add_assoc,ze,zq,zt,zr,zd,zp,zs,zy,asInt,zn,zz,sub,zl,zu,za,zk,zb,zj,zg,zh,zf,zA,zw,zo,zm,zi,Int.natCast_inj,h0,h135,h136,h137,e3]
  exact hN h1 _ _ (by simp [hw]) (by simp [envM])
theorem x18_2 (hP:∀E',zI (envM l x x.modes.length) E'→P (.exit 6) E' s):yd (st eT []) cf true [] 166 f18_l2 (envM l x x.modes.length) s P:=by
 rw [l18_2]
 simp -implicitDefEqProofs (maxDischargeDepth:=9) (maxSteps:=1000000) [Nat.add_assoc,ze,zq,zt,zr,zd,zp,zs,zy,asInt,zn,zz,sub,zl,zu,za,zk,zb,zj,zg,zh,zf,zA,zw,zo,zm,zi,Int.natCast_inj,envM,a18_30]
 exact hP _ (by simp [envM])
theorem k18_2ok (hl:l.length≤1000) (hm:x.modes.length≤1000) (hw:s.wf) (hg:s.get 0=some (.cells (zJ x) 0 26 true)) (hE:zI (ya l) E) (hR:∀E' s',yw E' 4=some (vI (vv (vz l x) x.modes.length))→P .ret E' s') :
  yd (st eT []) cf true [] 166 k18_2 E s P:=by
 obtain ⟨h0,h3,_⟩:=hE
 simp only at h0 h3
 unfold k18_2 a18_29
 simp -implicitDefEqProofs (maxDischargeDepth:=9) (maxSteps:=1000000) [Nat.add_assoc,ze,zq,zt,zr,zd,zp,zs,zy,asInt,zn,zz,sub,zl,zu,za,zk,zb,zj,zg,zh,zf,zA,zw,zo,zm,zi,Int.natCast_inj,h0,h3,hg,zJ]
 refine zO (α:=Nat) (envM l x) (fun j s=>s.wf∧j≤x.modes.length∧∀i,i<j→vz l x i=0) (fun j=>x.modes.length - j) 0 f18_l2_fits (by simp [envM]) ⟨hw,Nat.zero_le _,fun i h=>by omega⟩ ?_
 rintro j s ⟨hw,hj,hz⟩
 rcases Nat.lt_or_ge j x.modes.length with h | h
 ·refine b18_2 hl hm h hw (fun h1 E' s' hE'=>?_) fun h1 E' s' hw' hE'=>?_
  ·rw [← wY h hz h1] at hE'
   exact hR E' s' hE'
  ·exact ⟨j+1,by omega,⟨hw',by omega,wn hz h1⟩,hE'⟩
 ·have:j=x.modes.length:=by omega
  subst this
  refine x18_2 fun E' hE'=>?_
  simp only [xH,yQ,zK,zZ,if_true]
  refine q18_38 E' s _ fun E'' hE''=>?_
  rw [← yM hz] at hE''
  exact hR E'' s hE''
end
end Go.Proofs.YtchlfjhbijmdiaaGreatDoor.Ai


namespace Go.Proofs.YtchlfjhbijmdiaaGreatDoor.Ai
open Go.Proofs
set_option maxRecDepth 100000
set_option maxHeartbeats 4000000

section
variable {cf:CF} {l:List Inst} {x:Inst} {a:Alt} {s:S} {E:Env} {P:AX→Env→S→Prop} {i j k:Nat} {n:Int}
/-! the arguments -/
def envL (l:List Inst) (x:Inst) (i:Nat):Env:=[(0,.list (l.map eX)),(3,.ptr 0 0),(78,.list (x.alts.map eA)),(79,.int .i64 x.alts.length),(80,.int .i64 i)]
def envA (l:List Inst) (x:Inst) (i:Nat) (a:Alt) (j:Nat):Env:=[(0,.list (l.map eX)),(3,.ptr 0 0),(78,.list (x.alts.map eA)),(79,.int .i64 x.alts.length),(80,.int .i64 i),(116,.list (a.args.map vI)),(117,.int .i64 a.args.length),(118,.int .i64 j)]
theorem call37 {y:Inst}:zF (st eT []) cf 45 [.agg [vI y.kind,.list (y.alts.map eA),.list (y.modes.map eM),vI y.det]] s=some (.val (.bool (valX y)) s):=by
 refine zH ?_
 have:e37 [eX y]=some (.bool (valX y)):=by simp [e37]
 simp only [st_tab,eT,yB]
 simp only [show ¬(43:Nat)=45 by decide,show ¬(44:Nat)=45 by decide,if_false,if_true]
 exact this
theorem t18_23 (hl:l.length≤1000) (hE:zI ((8,vI n)::envA l x i a j) E):Tst eT cf 166 a18_23 E ((8,vI n)::envA l x i a j) s 125 (!tB l n):=by
 intro P hP
 obtain ⟨h8,h0,h3,h78,h79,h80,h116,h117,h118,_⟩:=hE
 simp only at h8 h0 h3 h78 h79 h80 h116 h117 h118
 have q:=call36 (cf:=cf) (s:=s) hl (n:=n)
 unfold a18_23
 simp -implicitDefEqProofs (maxDischargeDepth:=9) (maxSteps:=1000000) [Nat.add_assoc,ze,zq,zt,zr,zd,zp,zs,zy,asInt,zn,zz,sub,zl,zu,za,zk,zb,zj,zg,zh,zf,zA,zw,zo,zm,zi,Int.natCast_inj,h8,h0,h3,h78,h79,h80,h116,h117,h118,q]
 exact hP _ (by simp [envA]) (by simp)
theorem t18_25 {y:Inst} (hy:l[n.toNat]?=some y) (h0n:0≤n) (hE:zI ((8,vI n)::envA l x i a j) E):Tst eT cf 166 a18_25 E (envA l x i a j) s 131 (!valX y):=by
 intro P hP
 obtain ⟨h8,h0,h3,h78,h79,h80,h116,h117,h118,_⟩:=hE
 simp only at h8 h0 h3 h78 h79 h80 h116 h117 h118
 obtain ⟨m,rfl⟩:∃m:Nat,n=m:=⟨n.toNat,by omega⟩
 simp only [Int.toNat_natCast] at hy
 have hn:m<l.length:=(List.getElem?_eq_some_iff.1 hy).1
 have hyn:l[m]=y:=by rw [List.getElem?_eq_getElem hn] at hy; exact Option.some.inj hy
 replace h8:yw E 8=some (.int .i64 (m:Int)):=h8
 have q:=call37 (cf:=cf) (s:=s) (y:=y)
 unfold a18_25
 simp -implicitDefEqProofs (maxDischargeDepth:=9) (maxSteps:=1000000) [Nat.add_assoc,ze,zq,zt,zr,zd,zp,zs,zy,asInt,zn,zz,sub,zl,zu,za,zk,zb,zj,zg,zh,zf,zA,zw,zo,zm,zi,Int.natCast_inj,h8,h0,h3,h78,h79,h80,h116,h117,h118,hn,hyn,eX,q]
 exact hP _ (by simp [envA]) (by simp)
theorem b18_ok (hl:l.length≤1000) (hE:zI ((8,vI n)::envA l x i a j) E) (hR:¬argE l n=0→∀E',yw E' 4=some (vI (argE l n))→P .ret E' s) (hN:argE l n=0→∀E',zI (envA l x i a j) E'→P .normal E' s):yd (st eT []) cf true [] 166 b18 E s P:=by
 unfold b18
 refine yO (t18_23 hl hE) q18_24 (fun hb E' hE'=>?_) fun hb E' hE'=>?_
 ·have hm:argE l n=5:=by
   unfold argE
   rw [if_neg (by intro hh; rw [hh] at hb; cases hb)]
  rw [hm] at hR
  exact hR (by decide) E' hE'
 ·simp only [Bool.not_eq_false'] at hb
  obtain ⟨h1,h2⟩:=xK.1 hb
  have hlt:n.toNat<l.length:=by omega
  have hy:=List.getElem?_eq_getElem hlt
  have hm:argE l n=if valX l[n.toNat]=true then 0 else 18:=by
   unfold argE
   rw [if_pos hb,hy]
  refine xb (t18_25 hy h1 hE') q18_26 (fun hc E3 hE3=>?_) fun hc E3 hE3=>?_
  ·rw [if_neg (by intro hh; rw [hh] at hc; cases hc)] at hm
   rw [hm] at hR
   exact hR (by decide) E3 hE3
  ·rw [if_pos (by simpa using hc)] at hm
   exact hN hm E3 hE3
def tf (l:List Inst) (a:Alt) (j:Nat):Int:=argE l ((a.args[j]?).getD 0)
theorem b18_0 (hl:l.length≤1000) (ha:a.args.length≤1000) (h:j<a.args.length) (hR:¬tf l a j=0→∀E',yw E' 4=some (vI (tf l a j))→P .ret E' s) (hN:tf l a j=0→∀E',zI (envA l x i a (j+1)) E'→P .normal E' s) :
  yd (st eT []) cf true [] 166 f18_l0 (envA l x i a j) s P:=by
 have e1:=List.getElem?_eq_getElem h
 have e3:IntKind.i64.wrap ((j:Int)+1)=((j+1:Nat):Int):=zN (by omega) (by omega)
 have hat:tf l a j=argE l a.args[j]:=by simp [tf,e1]
 rw [l18_0]
 simp -implicitDefEqProofs (maxDischargeDepth:=9) (maxSteps:=1000000) [Nat.add_assoc,ze,zq,zt,zr,zd,zp,zs,zy,asInt,zn,zz,sub,zl,zu,za,zk,zb,zj,zg,zh,zf,zA,zw,zo,zm,zi,Int.natCast_inj,envA,a18_21,a18_22,h,e1]
 refine b18_ok (x:=x) (a:=a) (i:=i) (j:=j) (n:=a.args[j]) hl (by simp [envA]) ?_ ?_
 ·intro h1 E' hE'
  rw [← hat] at h1 hE'
  exact hR h1 E' hE'
 ·intro h1 E' hE'
  rw [← hat] at h1
  obtain ⟨h0,h3,h78,h79,h80,h116,h117,h118,_⟩:=hE'
  simp only at h0 h3 h78 h79 h80 h116 h117 h118
  simp only [zZ,zK]
  unfold a18_27
  simp -implicitDefEqProofs (maxDischargeDepth:=9) (maxSteps:=1000000) [Nat.add_assoc,ze,zq,zt,zr,zd,zp,zs,zy,asInt,zn,zz,sub,zl,zu,za,zk,zb,zj,zg,zh,zf,zA,zw,zo,zm,zi,Int.natCast_inj,h0,h3,h78,h79,h80,h116,h117,h118,e3]
  exact hN h1 _ (by simp [envA])
theorem x18_0 (hP:∀E',zI (envL l x i) E'→P (.exit 4) E' s):yd (st eT []) cf true [] 166 f18_l0 (envA l x i a a.args.length) s P:=by
 rw [l18_0]
 simp -implicitDefEqProofs (maxDischargeDepth:=9) (maxSteps:=1000000) [Nat.add_assoc,ze,zq,zt,zr,zd,zp,zs,zy,asInt,zn,zz,sub,zl,zu,za,zk,zb,zj,zg,zh,zf,zA,zw,zo,zm,zi,Int.natCast_inj,envA,a18_21]
 exact hP _ (by simp [envL])
/-! one alternative -/
def tL (l:List Inst) (x:Inst) (i k:Nat):Env:=(6,.ptr k 0)::envL l x i
def coreC (l:List Inst) (x:Inst) (i k:Nat):Env:=(5,.int .i64 i)::tL l x i k
def yF (a:Alt):List V:=[.str a.name,.list (a.args.map vI)]
def SaK (x:Inst) (a:Alt) (k:Nat) (s:S):Prop:=s.wf∧s.get 0=some (.cells (zJ x) 0 26 true)∧s.get k=some (.cells (yF a) 0 39 true)
theorem t18_14 (hg:SaK x a k s) (hE:zI (coreC l x i k) E):Tst eT cf 166 a18_14 E (coreC l x i k) s 85 (decide (a.name.size<1) || decide (81<a.name.size)):=by
 intro P hP
 obtain ⟨h5,h6,h0,h3,h78,h79,h80,_⟩:=hE
 simp only at h5 h6 h0 h3 h78 h79 h80
 obtain ⟨hw,hg0,hgk⟩:=hg
 unfold a18_14
 by_cases h:a.name.size=0
 ·simp -implicitDefEqProofs (maxDischargeDepth:=9) (maxSteps:=1000000) [Nat.add_assoc,ze,zq,zt,zr,zd,zp,zs,zy,asInt,zn,zz,sub,zl,zu,za,zk,zb,zj,zg,zh,zf,zA,zw,zo,zm,zi,Int.natCast_inj,h5,h6,h0,h3,h78,h79,h80,hgk,yF,h]
  exact hP _ (by simp [coreC,tL,envL]) (by simp [h])
 ·have h':¬a.name.size<1:=by omega
  by_cases h2:81<a.name.size
  ·have h2':(81:Int)<a.name.size:=by omega
   simp -implicitDefEqProofs (maxDischargeDepth:=9) (maxSteps:=1000000) [Nat.add_assoc,ze,zq,zt,zr,zd,zp,zs,zy,asInt,zn,zz,sub,zl,zu,za,zk,zb,zj,zg,zh,zf,zA,zw,zo,zm,zi,Int.natCast_inj,h5,h6,h0,h3,h78,h79,h80,hgk,yF,h,h2,h2']
   exact hP _ (by simp [coreC,tL,envL]) (by simp [h2])
  ·have h2':¬(81:Int)<a.name.size:=by omega
   simp -implicitDefEqProofs (maxDischargeDepth:=9) (maxSteps:=1000000) [Nat.add_assoc,ze,zq,zt,zr,zd,zp,zs,zy,asInt,zn,zz,sub,zl,zu,za,zk,zb,zj,zg,zh,zf,zA,zw,zo,zm,zi,Int.natCast_inj,h5,h6,h0,h3,h78,h79,h80,hgk,yF,h,h2,h2']
   exact hP _ (by simp [coreC,tL,envL]) (by simp [h,h',h2])
theorem call35 {p:Alt}:zF (st eT []) cf 43 [.agg [.str p.name,.list (p.args.map vI)],.agg [.str a.name,.list (a.args.map vI)]] s=some (.val (.int .i64 (cmpA p a)) s):=by
 refine zH ?_
 have:e35 [eA p,eA a]=some (.int .i64 (cmpA p a)):=by simp [e35]
 simp only [st_tab,eT,yB,if_true]
 exact this
theorem t18_16 (hi:i<x.alts.length) (hl:x.alts.length≤1000) (hg:SaK x a k s) (hE:zI (coreC l x i k) E) (hP:∀E' s',zI (tL l x i k) E'→yw E' 96=some (.bool (unord x.alts i a))→SaK x a k s'→P .normal E' s'):yd (st eT []) cf true [] 166 a18_16 E s P:=by
 obtain ⟨h5,h6,h0,h3,h78,h79,h80,_⟩:=hE
 simp only at h5 h6 h0 h3 h78 h79 h80
 obtain ⟨hw,hg0,hgk⟩:=hg
 unfold a18_16
 cases i with
 | zero =>
  simp only [Int.natCast_zero] at h5
  simp -implicitDefEqProofs (maxDischargeDepth:=9) (maxSteps:=1000000) [Nat.add_assoc,ze,zq,zt,zr,zd,zp,zs,zy,asInt,zn,zz,sub,zl,zu,za,zk,zb,zj,zg,zh,zf,zA,zw,zo,zm,zi,Int.natCast_inj,h5,h6,h0,h3,h78,h79,h80,hgk,hg0,hw,yF,zJ]
  exact hP _ _ (by simp [tL,envL]) (by simp [unord]) ⟨zX hw _,hg0,hgk⟩
 | succ i =>
  have hi':i<x.alts.length:=by omega
  have e1:=List.getElem?_eq_getElem hi'
  have e4:IntKind.i64.wrap (i:Int)=(i:Int):=zN (by omega) (by omega)
  have e5:(0:Int)<((i+1:Nat):Int):=by omega
  have q:=fun s=>call35 (cf:=cf) (s:=s) (p:=x.alts[i]) (a:=a)
  have hu:unord x.alts (i+1) a=decide (0≤cmpA x.alts[i] a):=by rw [cmpA_lt]; simp [unord,e1]
  simp -implicitDefEqProofs (maxDischargeDepth:=9) (maxSteps:=1000000) [Nat.add_assoc,ze,zq,zt,zr,zd,zp,zs,zy,asInt,zn,zz,sub,zl,zu,za,zk,zb,zj,zg,zh,zf,zA,zw,zo,zm,zi,Int.natCast_inj,h5,h6,h0,h3,h78,h79,h80,hgk,hg0,hw,yF,zJ,e1,e4,e5,eA,eI,hi',q]
  exact hP _ _ (by simp [tL,envL]) (by simp [hu]) ⟨zX hw _,hg0,hgk⟩
theorem t18_18 (hg:SaK x a k s) (hE:zI (tL l x i k) E):Tst eT cf 166 a18_18 E (tL l x i k) s 110 (decide (32<a.args.length)):=by
 intro P hP
 obtain ⟨h6,h0,h3,h78,h79,h80,_⟩:=hE
 simp only at h6 h0 h3 h78 h79 h80
 obtain ⟨hw,hg0,hgk⟩:=hg
 unfold a18_18
 by_cases h:32<a.args.length
 ·have h':(32:Int)<a.args.length:=by omega
  simp -implicitDefEqProofs (maxDischargeDepth:=9) (maxSteps:=1000000) [Nat.add_assoc,ze,zq,zt,zr,zd,zp,zs,zy,asInt,zn,zz,sub,zl,zu,za,zk,zb,zj,zg,zh,zf,zA,zw,zo,zm,zi,Int.natCast_inj,h6,h0,h3,h78,h79,h80,hgk,yF,h,h']
  exact hP _ (by simp [tL,envL]) (by simp [h])
 ·have h':¬(32:Int)<a.args.length:=by omega
  simp -implicitDefEqProofs (maxDischargeDepth:=9) (maxSteps:=1000000) [Nat.add_assoc,ze,zq,zt,zr,zd,zp,zs,zy,asInt,zn,zz,sub,zl,zu,za,zk,zb,zj,zg,zh,zf,zA,zw,zo,zm,zi,Int.natCast_inj,h6,h0,h3,h78,h79,h80,hgk,yF,h,h']
  exact hP _ (by simp [tL,envL]) (by simp [h])
theorem t18_20 (hg:SaK x a k s) (hE:zI (tL l x i k) E):Stp eT cf 166 a18_20 E (envA l x i a 0) s:=by
 intro P hP
 obtain ⟨h6,h0,h3,h78,h79,h80,_⟩:=hE
 simp only at h6 h0 h3 h78 h79 h80
 obtain ⟨hw,hg0,hgk⟩:=hg
 unfold a18_20
 simp -implicitDefEqProofs (maxDischargeDepth:=9) (maxSteps:=1000000) [Nat.add_assoc,ze,zq,zt,zr,zd,zp,zs,zy,asInt,zn,zz,sub,zl,zu,za,zk,zb,zj,zg,zh,zf,zA,zw,zo,zm,zi,Int.natCast_inj,h6,h0,h3,h78,h79,h80,hgk,yF]
 exact hP _ (by simp [envA])
theorem altE_at (h:x.alts[i]?=some a):wx l x.alts i=if a.name.size<1∨81<a.name.size then 10 else if unord x.alts i a=true then 13 else if 32<a.args.length then 6 else argsE' l a:=by
 unfold wx; rw [h]
theorem x18_ok (hi:i<x.alts.length) (hl:x.alts.length≤1000) (ha:x.alts[i]?=some a) (hg:SaK x a k s) (hE:zI (coreC l x i k) E)
  (hR:¬wx l x.alts i=0→∀E' s',yw E' 4=some (vI (wx l x.alts i))→P .ret E' s') (hN:a.args.length≤32→wx l x.alts i=argsE' l a→∀E' s',zI (tL l x i k) E'→SaK x a k s'→P .normal E' s'):yd (st eT []) cf true [] 166 x18 E s P:=by
 have hal:=altE_at (l:=l) ha
 unfold x18
 refine xb (t18_14 hg hE) q18_15 (fun hb E' hE'=>?_) fun hb E' hE'=>?_
 ·rw [if_pos (by simpa using hb)] at hal
  rw [hal] at hR
  exact hR (by decide) E' s hE'
 ·rw [if_neg (by simpa using hb)] at hal
  rw [yN]
  refine t18_16 hi hl hg hE' fun E2 s2 h2 h3 hg2=>?_
  rw [zK,RunC_cond]
  show CondK (yw E2 96) _ _
  rw [h3]
  refine ⟨fun hc=>?_,fun hc=>?_⟩
  ·rw [if_pos hc] at hal
   rw [hal] at hR
   exact q18_17 E2 s2 _ fun E3 h=>hR (by decide) E3 s2 h
  ·rw [if_neg (by rw [hc]; decide)] at hal
   refine xb (t18_18 hg2 h2) q18_19 (fun hd E3 hE3=>?_) fun hd E3 hE3=>?_
   ·rw [if_pos (by simpa using hd)] at hal
    rw [hal] at hR
    exact hR (by decide) E3 s2 hE3
   ·rw [if_neg (by simpa using hd)] at hal
    exact hN (by simpa using hd) hal E3 s2 hE3 hg2
theorem b18_1 (hll:l.length≤1000) (hl:x.alts.length≤1000) (h:i<x.alts.length) (hw:s.wf) (hg:s.get 0=some (.cells (zJ x) 0 26 true)) (hR:¬wx l x.alts i=0→∀E' s',yw E' 4=some (vI (wx l x.alts i))→P .ret E' s')
  (hN:wx l x.alts i=0→∀E' s',s'.wf→s'.get 0=some (.cells (zJ x) 0 26 true)→zI (envL l x (i+1)) E'→P .normal E' s'):yd (st eT []) cf true [] 166 f18_l1 (envL l x i) s P:=by
 have e1:=List.getElem?_eq_getElem h
 have e3:IntKind.i64.wrap ((i:Int)+1)=((i+1:Nat):Int):=zN (by omega) (by omega)
 have hs0:0<s.next:=S.wf.lt hw hg
 have hn0:¬0=s.next:=by omega
 rw [l18_1]
 simp -implicitDefEqProofs (maxDischargeDepth:=9) (maxSteps:=1000000) [Nat.add_assoc,ze,zq,zt,zr,zd,zp,zs,zy,asInt,zn,zz,sub,zl,zu,za,zk,zb,zj,zg,zh,zf,zA,zw,zo,zm,zi,Int.natCast_inj,envL,a18_12,a18_13,h,hw,e1,eA,eI]
 refine x18_ok (a:=x.alts[i]) (i:=i) (k:=s.next) (l:=l) h hl e1 ⟨?_,?_,?_⟩ (by simp [coreC,tL,envL]) ?_ ?_
 ·exact S.wf_put (S.wf_add hw _ _) _ _ (by simp only [S.next_add]; omega)
 ·rw [S.get_put,if_neg hn0,S.get_add,if_neg hn0]; exact hg
 ·simp [S.get_put,yF]
 ·intro h1 E' s' hE'
  exact hR h1 E' s' hE'
 ·intro ha hae E' s' hE' hg'
  simp only [zZ,zK]
  refine t18_20 hg' hE' _ fun E2 hE2=>?_
  simp only [zZ,zK]
  refine zO (α:=Nat) (envA l x i x.alts[i]) (fun j t=>t=s'∧j≤x.alts[i].args.length∧∀m,m<j→tf l x.alts[i] m=0) (fun j=>x.alts[i].args.length - j) 0 f18_l0_fits hE2 ⟨rfl,Nat.zero_le _,fun i h=>by omega⟩ ?_
  rintro j t ⟨rfl,hj,hz⟩
  rcases Nat.lt_or_ge j x.alts[i].args.length with hjl | hjl
  ·refine b18_0 hll (by omega) hjl (fun h1 E3 hE3=>?_) fun h1 E3 hE3=>?_
   ·have hv:wx l x.alts i=tf l x.alts[i] j:=by rw [hae]; exact wY hjl hz h1
    rw [← hv] at h1 hE3
    exact hR h1 E3 _ hE3
   ·exact ⟨j+1,by omega,⟨rfl,by omega,wn hz h1⟩,hE3⟩
  ·have:j=x.alts[i].args.length:=by omega
   subst this
   have hv:wx l x.alts i=0:=by rw [hae]; exact yM hz
   refine x18_0 fun E3 hE3=>?_
   simp only [xH,yQ,zK,zZ,if_true]
   obtain ⟨h0,h3,h78,h79,h80,_⟩:=hE3
   simp only at h0 h3 h78 h79 h80
   unfold a18_28
   simp -implicitDefEqProofs (maxDischargeDepth:=9) (maxSteps:=1000000) [Nat.add_assoc,ze,zq,zt,zr,zd,zp,zs,zy,asInt,zn,zz,sub,zl,zu,za,zk,zb,zj,zg,zh,zf,zA,zw,zo,zm,zi,Int.natCast_inj,h0,h3,h78,h79,h80,e3]
   exact hN hv _ _ hg'.1 hg'.2.1 (by simp [envL])
theorem x18_1 (hP:∀E',zI (ya l) E'→P (.exit 1) E' s):yd (st eT []) cf true [] 166 f18_l1 (envL l x x.alts.length) s P:=by
 rw [l18_1]
 simp -implicitDefEqProofs (maxDischargeDepth:=9) (maxSteps:=1000000) [Nat.add_assoc,ze,zq,zt,zr,zd,zp,zs,zy,asInt,zn,zz,sub,zl,zu,za,zk,zb,zj,zg,zh,zf,zA,zw,zo,zm,zi,Int.natCast_inj,envL,a18_12]
 exact hP _ (by simp [ya])
theorem k18_1ok (hl:l.length≤1000) (ha:x.alts.length≤1000) (hm:x.modes.length≤1000) (hw:s.wf) (hg:s.get 0=some (.cells (zJ x) 0 26 true)) (hE:zI (ya l) E)
  (hR:∀E' s',yw E' 4=some (vI (if vv (wx l x.alts) x.alts.length=0 then vv (vz l x) x.modes.length else vv (wx l x.alts) x.alts.length))→P .ret E' s'):yd (st eT []) cf true [] 166 k18_1 E s P:=by
 obtain ⟨h0,h3,_⟩:=hE
 simp only at h0 h3
 unfold k18_1 a18_11
 simp -implicitDefEqProofs (maxDischargeDepth:=9) (maxSteps:=1000000) [Nat.add_assoc,ze,zq,zt,zr,zd,zp,zs,zy,asInt,zn,zz,sub,zl,zu,za,zk,zb,zj,zg,zh,zf,zA,zw,zo,zm,zi,Int.natCast_inj,h0,h3,hg,zJ]
 refine zO (α:=Nat) (envL l x) (fun j s=>s.wf∧s.get 0=some (.cells (zJ x) 0 26 true)∧j≤x.alts.length∧∀i,i<j→wx l x.alts i=0) (fun j=>x.alts.length - j) 0 f18_l1_fits (by simp [envL]) ⟨hw,hg,Nat.zero_le _,fun i h=>by omega⟩ ?_
 rintro j s ⟨hw,hg,hj,hz⟩
 rcases Nat.lt_or_ge j x.alts.length with h | h
 ·refine b18_1 hl ha h hw hg (fun h1 E' s' hE'=>?_) fun h1 E' s' hw' hg' hE'=>?_
  ·have:=wY h hz h1
   rw [this,if_neg h1] at hR
   exact hR E' s' hE'
  ·exact ⟨j+1,by omega,⟨hw',hg',by omega,wn hz h1⟩,hE'⟩
 ·have:j=x.alts.length:=by omega
  subst this
  rw [if_pos (yM hz)] at hR
  refine x18_1 fun E' hE'=>?_
  simp only [xH,yQ,zK,zZ,if_true]
  exact k18_2ok hl hm hw hg hE' hR
theorem ckX_eq (l:List Inst) (x:Inst):ckX l x=if c1 x=true then 3 else if c2 x=true then 4 else if c3 x=true then 7 else if c4 x=true then 6 else if c5 x=true then 5 else if vv (wx l x.alts) x.alts.length=0 then vv (vz l x) x.modes.length else vv (wx l x.alts) x.alts.length:=by
 unfold ckX c1 c2 c3 c4 c5
 simp only [Bool.or_eq_true,Bool.and_eq_true,decide_eq_true_eq,Bool.not_eq_true',decide_eq_false_iff_not]
theorem h18_ok (hg:s.get 0=some (.cells (zJ x) 0 26 true)) (hE:zI (ya l) E) (hR:∀c:Int,ckX l x=c→∀E',yw E' 4=some (vI c)→P .ret E' s)
  (hN:x.alts.length≤64→x.modes.length≤32→(ckX l x=if vv (wx l x.alts) x.alts.length=0 then vv (vz l x) x.modes.length else vv (wx l x.alts) x.alts.length)→∀E',zI (ya l) E'→P .normal E' s):yd (st eT []) cf true [] 166 h18 E s P:=by
 have hc:=ckX_eq l x
 unfold h18
 refine xb (t18_1 hg hE) q18_2 (fun hb=>?_) fun hb E1 hE1=>?_
 ·rw [if_pos hb] at hc; exact hR _ hc
 rw [if_neg (by rw [hb]; decide)] at hc
 refine xb (t18_3 hg hE1) q18_4 (fun hb=>?_) fun hb E2 hE2=>?_
 ·rw [if_pos hb] at hc; exact hR _ hc
 rw [if_neg (by rw [hb]; decide)] at hc
 refine xb (t18_5 hg hE2) q18_6 (fun hb=>?_) fun hb E3 hE3=>?_
 ·rw [if_pos hb] at hc; exact hR _ hc
 rw [if_neg (by rw [hb]; decide)] at hc
 refine xb (t18_7 hg hE3) q18_8 (fun hb=>?_) fun h4 E4 hE4=>?_
 ·rw [if_pos hb] at hc; exact hR _ hc
 rw [if_neg (by rw [h4]; decide)] at hc
 refine xb (t18_9 hg hE4) q18_10 (fun hb=>?_) fun hb E5 hE5=>?_
 ·rw [if_pos hb] at hc; exact hR _ hc
 rw [if_neg (by rw [hb]; decide)] at hc
 simp only [c4,Bool.or_eq_false_iff,decide_eq_false_iff_not] at h4
 exact hN (by omega) (by omega) hc E5 hE5
end
theorem p18 (l:List Inst) (hl:l.length≤1000) (x:Inst):zx Tryz.prog zB 20 [.list (l.map eX),eX x] (.int .i64 (ckX l x)):=by
 refine zx.cfg (cfg:=st eT []) rfl ?_
 refine zM (sl:=true) hcT (zW hcT) yi Tryz.func20 f18_eq f18_nt f18_fits (by simp) (by simp) ?_
 rw [top18]
 simp -implicitDefEqProofs (maxDischargeDepth:=9) (maxSteps:=1000000) [Nat.add_assoc,ze,zq,zt,zr,zd,zp,zs,zy,asInt,zn,zz,sub,zl,zu,za,zk,zb,zj,zg,zh,zf,zA,zw,zo,zm,zi,Int.natCast_inj,eX]
 refine h18_ok (x:=x) (l:=l) (by simp [S.get_add,zJ]) (by simp [ya]) ?_ ?_
 ·rintro c rfl E' hE'
  simp -implicitDefEqProofs (maxDischargeDepth:=9) (maxSteps:=1000000) [Nat.add_assoc,ze,zq,zt,zr,zd,zp,zs,zy,asInt,zn,zz,sub,zl,zu,za,zk,zb,zj,zg,zh,zf,zA,zw,zo,zm,zi,Int.natCast_inj,hE']
  exact ⟨rfl,rfl⟩
 ·intro ha hm hc E' hE'
  simp only [xH,yQ,zK,zZ,if_true]
  refine k18_1ok (x:=x) hl (by omega) (by omega) ?_ (by simp [S.get_add,zJ]) hE' fun E2 s2 hE2=>?_
  ·simp
  ·rw [← hc] at hE2
   simp -implicitDefEqProofs (maxDischargeDepth:=9) (maxSteps:=1000000) [Nat.add_assoc,ze,zq,zt,zr,zd,zp,zs,zy,asInt,zn,zz,sub,zl,zu,za,zk,zb,zj,zg,zh,zf,zA,zw,zo,zm,zi,Int.natCast_inj,hE2]
   exact ⟨rfl,rfl⟩
end Go.Proofs.YtchlfjhbijmdiaaGreatDoor.Ai

