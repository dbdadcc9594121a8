/- Texts of this proof, one behind the other, packed into one file by a program of this session. No condition. -/
import Derived.Test.YtlhiaihmkjlaaaaGreatMsK
set_option linter.unusedVariables false
set_option linter.unusedSimpArgs false
set_option maxRecDepth 100000
section
namespace Go.Proofs.YtlhiaihmkjlaaaaGreat.Av
open Go Go.RowKit
def opAl (ino pos n : Int) (keep : Bool) : OpM:=⟨4,ino,pos,n,keep,[],[],[]⟩
def opPu (ino pos n : Int) : OpM:=⟨5,ino,pos,n,false,[],[],[]⟩
theorem opAl_b (ino pos n : Int) (keep : Bool) : OpB (opAl ino pos n keep):=⟨by simp [opAl],by simp [opAl],by simp [opAl]⟩
theorem opPu_b (ino pos n : Int) : OpB (opPu ino pos n):=⟨by simp [opPu],by simp [opPu],by simp [opPu]⟩
def punchS (s : StS) (ino pos n : Int) : Int × StS :=
 if (zsZ s ino).2 ≠ 0 then ((zsZ s ino).2,s) else if zynZ (zsZ s ino).1 pos n=none then (5,s) else doS s (opPu ino pos n)
def allocS (s : StS) (ino pos n : Int) (keep : Bool) : Int × StS :=
 if (zsZ s ino).2 ≠ 0 then ((zsZ s ino).2,s) else if zubZ (zsZ s ino).1 pos n keep=none then (5,s)
 else if freeS s < (cL (zubZ (zsZ s ino).1 pos n keep)).length - (zsZ s ino).1.2.length then (4,s) else doS s (opAl ino pos n keep)
theorem punchS_w {N : Nat} {s : StS} (h : SW N s) (ino pos n : Int) : SW (N + 1) (punchS s ino pos n).2:=by
 unfold punchS
 split
 ·exact h.mono (by omega)
 ·split
  ·exact h.mono (by omega)
  ·exact doS_w h (opPu_b ino pos n)
theorem allocS_w {N : Nat} {s : StS} (h : SW N s) (ino pos n : Int) (keep : Bool) : SW (N + 4099) (allocS s ino pos n keep).2:=by
 unfold allocS
 split
 ·exact h.mono (by omega)
 ·split
  ·exact h.mono (by omega)
  ·split
   ·exact h.mono (by omega)
   ·exact doS_w h (opAl_b ino pos n keep)
noncomputable def dataS (s : StS) (ino pos : Int) : Int × Int :=
 if (zsZ s ino).2 ≠ 0 then (0,(zsZ s ino).2) else match dataC (zsZ s ino).1.1 (zsZ s ino).1.2 pos with | none => (0,5) | some n => (n,0)
noncomputable def holeS (s : StS) (ino pos : Int) : Int × Int :=
 if (zsZ s ino).2 ≠ 0 then (0,(zsZ s ino).2) else match holeC (zsZ s ino).1.1 (zsZ s ino).1.2 pos with | none => (0,5) | some n => (n,0)
theorem alloc_bnd {c : Cont} {pos n : Int} {keep : Bool} : (cL (zubZ c pos n keep)).length≤c.2.length + 4098:=by
 have h:=chg_len (o:=opAl 0 pos n keep) (d:=⟨0,c.1,c.2⟩)
 simpa [chgC,opAl] using h
theorem RFree_c {N : Nat} {s : StS} {os : Nat} {p : AV} {H : AH} (h : DsAt s os p H) (hw : SW N s) (hN : N≤900000) : BCall Tryz.prog 110 [.ptr os 0] H (I (freeS s)) H:=by
 obtain ⟨r,H',⟨rfl,rfl⟩,hc⟩:=ztvZ (a0:=.ptr os 0) (H:=H) (K:=λr H'=>r=I (freeS s)∧H'=H) (by
  obtain ⟨a,b,c,d,pv,h⟩:=h;unfold znzZ;have hu:=ref_Used_p h.now (hw.now.sm (by omega));rw [usedI_w hw.now.1] at hu;have hs:=sumL_few hw.now;have hcap:=hw.cap;have e1 : abI .sub (I s.cap) (I (sumL s.now.2 : Int))=some (I (s.cap - sumL s.now.2)):=zfwZ (by omega) (by omega);have e2 : amm imx [I (s.cap - sumL s.now.2),(I 0)]=some (I (freeS s)):=by rw [amm_two,imx_eq]; rfl
  simp only [ziZ,zbZ,zeZ,Nat.zero_add,zlZ h.obj,zdZ,gCS,gCZ,(rdD _ _ _ _ _ _ _ _ _).1];refine bP_of hu ?_;simp only [e1,zbZ,e2];exact ⟨by trivial,by trivial⟩)
 exact hc
theorem RTrunc_c {N : Nat} {s : StS} {os : Nat} {p : AV} {H : AH} (h : DsAt s os p H) (hw : SW N s) (hN : N < 900000) (ino size : Int) :
  ∃ r H',(r=I (truncS s ino size).1∧∃ p',DsAt (truncS s ino size).2 os p' H'∧StF os p p' H H')∧BCall Tryz.prog 78 [.ptr os 0,I ino,I size] H r H':=zpmZ (by
 unfold ziwZ;obtain ⟨R,hR,r,H1,⟨rfl,g1⟩,hc⟩:=Rfile_c h hw (by omega) ino;have hlen:=zesZ hw ino;refine bC_of hc ?_;unfold truncS;generalize zsZ s ino=ct at *;have oR:=SV.oneA hR;have h1:=h.grew g1;have g2:=Grew.app H1 [some (.cells [I ct.1.1,R])];have h2:=h1.grew g2;simp only [zjZ,gCS,gCZ,zbZ,nwC,zboZ,stC' _ _ oR,zcaZ,zkjZ,zpZ]
 by_cases hc0 : ct.2=0
 ·simp only [hc0,ne_eq,not_true_eq_false,dFf,zmZ,if_false,zlZ top1,rd2,zbZ]
  obtain ⟨R2,hR2,hp⟩:=zoxZ (size0:=ct.1.1) hR (by omega) size;refine zyZ hp ?_;have oR2:=SV.oneA hR2;have g3:=Grew.app (H1 ++ [some (AObj.cells [I ct.1.1,R])]) [some (.cells [I (cS (zwwZ (ct.1.1,ct.1.2) size)),R2])];have h3:=h2.grew g3;have ff : StF os p p H (H1 ++ [some (AObj.cells [I ct.1.1,R])] ++ [some (.cells [I (cS (zwwZ (ct.1.1,ct.1.2) size)),R2])]):=.of_grew ((g1.trans g2).trans g3);simp only [zjZ,gCS,gCZ,zbZ,nwC,zboZ,stC' _ _ oR2,zcaZ,zdyZ,zpZ];cases ht : zwwZ (ct.1.1,ct.1.2) size with
  | none =>
   have ht' : zwwZ ct.1 size=none:=ht;rw [ht] at h3 ff;simp only [Option.isSome_none,Bool.not_false,zbcZ,ht',if_true];exact ⟨by trivial,p,h3,ff⟩
  | some c2 =>
   have ht' : ¬ zwwZ ct.1 size=none:=by rw [show zwwZ ct.1 size=some c2 from ht]; simp
   rw [ht] at h3 ff;have e2 : abl [(I 0),(I 0),(I 0),(I 0),(B false),(.lit (.string ⟨#[]⟩)),(.lit (.string ⟨#[]⟩)),nilSl] [(0,1,(I 3)),(1,1,I ino),(3,1,I size)]=some (.agg (opA (opTr ino size) nilSl)):=rfl;simp only [Option.isSome_some,Bool.not_true,zmZ,ht',if_false,e2,zbZ];obtain ⟨r,H2,⟨rfl,p2,h4,f4⟩,hcall⟩:=Rdo_c (bv:=nilSl) (o:=opTr ino size) h3 hw (by omega) SV.nil (opTr_b ino size);exact bC_of hcall ⟨rfl,p2,h4,ff.trans f4⟩
 ·simp only [hc0,ne_eq,not_false_eq_true,dTt,zbcZ,if_true]
  exact ⟨by trivial,p,h2,.of_grew (g1.trans g2)⟩)
theorem Punch_c {N : Nat} {s : StS} {os : Nat} {p : AV} {H : AH} (h : StAt s os p H) (hw : SW N s) (hN : N < 900000) (ino pos n : Int) :
  ∃ r H',(r=I (punchS s ino pos n).1∧∃ p',StAt (punchS s ino pos n).2 os p' H'∧StF os p p' H H')∧BCall Tryz.prog 27 [.ptr os 0,I ino,I pos,I n] H r H':=zbbdZ (by
 unfold zyfZ;obtain ⟨R,hR,r,H1,⟨rfl,g1⟩,hc⟩:=zxwZ h hw (by omega) ino;have hlen:=zesZ hw ino;refine bC_of hc ?_;unfold punchS;generalize zsZ s ino=ct at *;have oR:=SV.oneA hR;have h1:=h.grew g1;have g2:=Grew.app H1 [some (.cells [I ct.1.1,R])];have h2:=h1.grew g2;simp only [zjZ,gCS,gCZ,zbZ,nwC,zboZ,stC' _ _ oR,zcaZ,zkjZ,zpZ]
 by_cases hc0 : ct.2=0
 ·simp only [hc0,ne_eq,not_true_eq_false,dFf,zmZ,if_false,zlZ top1,rd2,zbZ]
  obtain ⟨R2,hR2,hp⟩:=zbdpZ (size:=ct.1.1) hR (by omega) pos n;refine zyZ hp ?_;have oR2:=SV.oneA hR2;have g3:=Grew.app (H1 ++ [some (AObj.cells [I ct.1.1,R])]) [some (.cells [I (cS (zynZ (ct.1.1,ct.1.2) pos n)),R2])];have h3:=h2.grew g3;have ff : StF os p p H (H1 ++ [some (AObj.cells [I ct.1.1,R])] ++ [some (.cells [I (cS (zynZ (ct.1.1,ct.1.2) pos n)),R2])]):=.of_grew ((g1.trans g2).trans g3);simp only [zjZ,gCS,gCZ,zbZ,nwC,zboZ,stC' _ _ oR2,zcaZ,zdyZ,zpZ];cases ht : zynZ (ct.1.1,ct.1.2) pos n with
  | none =>
   have ht' : zynZ ct.1 pos n=none:=ht;rw [ht] at h3 ff;simp only [Option.isSome_none,Bool.not_false,zbcZ,ht',if_true];exact ⟨by trivial,p,h3,ff⟩
  | some c2 =>
   have ht' : ¬ zynZ ct.1 pos n=none:=by rw [show zynZ ct.1 pos n=some c2 from ht]; simp
   rw [ht] at h3 ff;have e2 : abl [(I 0),(I 0),(I 0),(I 0),(B false),(.lit (.string ⟨#[]⟩)),(.lit (.string ⟨#[]⟩)),nilSl] [(0,1,(I 5)),(1,1,I ino),(2,1,I pos),(3,1,I n)]=some (.agg (opA (opPu ino pos n) nilSl)):=rfl;simp only [Option.isSome_some,Bool.not_true,zmZ,ht',if_false,e2,zbZ];obtain ⟨r,H2,⟨rfl,p2,h4,f4⟩,hcall⟩:=do_c (bv:=nilSl) (o:=opPu ino pos n) h3 hw (by omega) SV.nil (opPu_b ino pos n);exact bC_of hcall ⟨rfl,p2,h4,ff.trans f4⟩
 ·simp only [hc0,ne_eq,not_false_eq_true,dTt,zbcZ,if_true]
  exact ⟨by trivial,p,h2,.of_grew (g1.trans g2)⟩)
theorem RPunch_c {N : Nat} {s : StS} {os : Nat} {p : AV} {H : AH} (h : DsAt s os p H) (hw : SW N s) (hN : N < 900000) (ino pos n : Int) :
  ∃ r H',(r=I (punchS s ino pos n).1∧∃ p',DsAt (punchS s ino pos n).2 os p' H'∧StF os p p' H H')∧BCall Tryz.prog 80 [.ptr os 0,I ino,I pos,I n] H r H':=zsvZ (by
 unfold zmjZ;obtain ⟨R,hR,r,H1,⟨rfl,g1⟩,hc⟩:=Rfile_c h hw (by omega) ino;have hlen:=zesZ hw ino;refine bC_of hc ?_;unfold punchS;generalize zsZ s ino=ct at *;have oR:=SV.oneA hR;have h1:=h.grew g1;have g2:=Grew.app H1 [some (.cells [I ct.1.1,R])];have h2:=h1.grew g2;simp only [zjZ,gCS,gCZ,zbZ,nwC,zboZ,stC' _ _ oR,zcaZ,zkjZ,zpZ]
 by_cases hc0 : ct.2=0
 ·simp only [hc0,ne_eq,not_true_eq_false,dFf,zmZ,if_false,zlZ top1,rd2,zbZ]
  obtain ⟨R2,hR2,hp⟩:=zuiZ (size:=ct.1.1) hR (by omega) pos n;refine zyZ hp ?_;have oR2:=SV.oneA hR2;have g3:=Grew.app (H1 ++ [some (AObj.cells [I ct.1.1,R])]) [some (.cells [I (cS (zynZ (ct.1.1,ct.1.2) pos n)),R2])];have h3:=h2.grew g3;have ff : StF os p p H (H1 ++ [some (AObj.cells [I ct.1.1,R])] ++ [some (.cells [I (cS (zynZ (ct.1.1,ct.1.2) pos n)),R2])]):=.of_grew ((g1.trans g2).trans g3);simp only [zjZ,gCS,gCZ,zbZ,nwC,zboZ,stC' _ _ oR2,zcaZ,zdyZ,zpZ];cases ht : zynZ (ct.1.1,ct.1.2) pos n with
  | none =>
   have ht' : zynZ ct.1 pos n=none:=ht;rw [ht] at h3 ff;simp only [Option.isSome_none,Bool.not_false,zbcZ,ht',if_true];exact ⟨by trivial,p,h3,ff⟩
  | some c2 =>
   have ht' : ¬ zynZ ct.1 pos n=none:=by rw [show zynZ ct.1 pos n=some c2 from ht]; simp
   rw [ht] at h3 ff;have e2 : abl [(I 0),(I 0),(I 0),(I 0),(B false),(.lit (.string ⟨#[]⟩)),(.lit (.string ⟨#[]⟩)),nilSl] [(0,1,(I 5)),(1,1,I ino),(2,1,I pos),(3,1,I n)]=some (.agg (opA (opPu ino pos n) nilSl)):=rfl;simp only [Option.isSome_some,Bool.not_true,zmZ,ht',if_false,e2,zbZ];obtain ⟨r,H2,⟨rfl,p2,h4,f4⟩,hcall⟩:=Rdo_c (bv:=nilSl) (o:=opPu ino pos n) h3 hw (by omega) SV.nil (opPu_b ino pos n);exact bC_of hcall ⟨rfl,p2,h4,ff.trans f4⟩
 ·simp only [hc0,ne_eq,not_false_eq_true,dTt,zbcZ,if_true]
  exact ⟨by trivial,p,h2,.of_grew (g1.trans g2)⟩)
theorem Alloc_c {N : Nat} {s : StS} {os : Nat} {p : AV} {H : AH} (h : StAt s os p H) (hw : SW N s) (hN : N < 900000) (ino pos n : Int) (keep : Bool) :
  ∃ r H',(r=I (allocS s ino pos n keep).1∧∃ p',StAt (allocS s ino pos n keep).2 os p' H'∧StF os p p' H H')∧BCall Tryz.prog 26 [.ptr os 0,I ino,I pos,I n,B keep] H r H':=zwqZ (by
 unfold zqkZ;obtain ⟨R,hR,r,H1,⟨rfl,g1⟩,hc⟩:=zxwZ h hw (by omega) ino;have hlen:=zesZ hw ino;refine bC_of hc ?_;unfold allocS;generalize zsZ s ino=ct at *;have oR:=SV.oneA hR;have h1:=h.grew g1;have g2:=Grew.app H1 [some (.cells [I ct.1.1,R])];have h2:=h1.grew g2;simp only [zjZ,gCS,gCZ,zbZ,nwC,zboZ,stC' _ _ oR,zcaZ,zkjZ,zpZ]
 by_cases hc0 : ct.2=0
 ·simp only [hc0,ne_eq,not_true_eq_false,dFf,zmZ,if_false,zlZ top1,rd2,zbZ]
  obtain ⟨R2,hR2,hp⟩:=zxaZ (size:=ct.1.1) hR (by omega) pos n keep;refine zyZ hp ?_;have oR2:=SV.oneA hR2;have g3:=Grew.app (H1 ++ [some (AObj.cells [I ct.1.1,R])]) [some (.cells [I (cS (zubZ (ct.1.1,ct.1.2) pos n keep)),R2])];have h3:=h2.grew g3;have ff : StF os p p H (H1 ++ [some (AObj.cells [I ct.1.1,R])] ++ [some (.cells [I (cS (zubZ (ct.1.1,ct.1.2) pos n keep)),R2])]):=.of_grew ((g1.trans g2).trans g3);simp only [zjZ,gCS,gCZ,zbZ,nwC,zboZ,stC' _ _ oR2,zcaZ,zdyZ,zpZ];cases ht : zubZ (ct.1.1,ct.1.2) pos n keep with
  | none =>
   have ht' : zubZ ct.1 pos n keep=none:=ht;rw [ht] at h3 ff;simp only [Option.isSome_none,Bool.not_false,zbcZ,ht',if_true];exact ⟨by trivial,p,h3,ff⟩
  | some c2 =>
   have ht' : ¬ zubZ ct.1 pos n keep=none:=by rw [show zubZ ct.1 pos n keep=some c2 from ht]; simp
   have e2 : abl [(I 0),(I 0),(I 0),(I 0),(B false),(.lit (.string ⟨#[]⟩)),(.lit (.string ⟨#[]⟩)),nilSl] [(0,1,(I 4)),(1,1,I ino),(2,1,I pos),(3,1,I n),(4,1,B keep)]=some (.agg (opA (opAl ino pos n keep) nilSl)):=rfl;have hb:=alloc_bnd (c:=(ct.1.1,ct.1.2)) (pos:=pos) (n:=n) (keep:=keep);have hs:=hR2.len;have hs0:=hR.len;rw [ht] at hb hs h3 ff g3;simp only at hb;have e3 : abI .sub (I ((cL (some c2)).length : Int)) (I (ct.1.2.length : Int))=some (I (((cL (some c2)).length : Int) - (ct.1.2.length : Int))):=zfwZ (by omega) (by omega);have g23:=g3.cells (o:=H1.length) (x:=some (AObj.cells [I ct.1.1,R])) top1;simp only [Option.isSome_some,Bool.not_true,zmZ,reduceCtorEq,if_false,zbZ,zeZ,Nat.zero_add,zlZ top1,zlZ g23,zdZ,gCS,gCZ,hs,hs0,e3];refine bC_of (Free_c h3 hw (by omega)) ?_;simp only [zwbZ,zbZ,zlZ top1,zlZ g23,zdZ,gCS,gCZ,hs,hs0,true_and,zpZ]
   by_cases c4 : freeS s < ((cL (some c2)).length : Int) - (ct.1.2.length : Int)
   ·simp only [c4,dTt,zbcZ,if_true]
    exact ⟨by trivial,p,h3,ff⟩
   ·simp only [c4,dFf,zmZ,if_false,e2,zbZ]
    obtain ⟨r,H2,⟨rfl,p2,h4,f4⟩,hcall⟩:=do_c (bv:=nilSl) (o:=opAl ino pos n keep) h3 hw (by omega) SV.nil (opAl_b ino pos n keep);exact bC_of hcall ⟨rfl,p2,h4,ff.trans f4⟩
 ·simp only [hc0,ne_eq,not_false_eq_true,dTt,zbcZ,if_true]
  exact ⟨by trivial,p,h2,.of_grew (g1.trans g2)⟩)
theorem RAlloc_c {N : Nat} {s : StS} {os : Nat} {p : AV} {H : AH} (h : DsAt s os p H) (hw : SW N s) (hN : N < 900000) (ino pos n : Int) (keep : Bool) :
  ∃ r H',(r=I (allocS s ino pos n keep).1∧∃ p',DsAt (allocS s ino pos n keep).2 os p' H'∧StF os p p' H H')∧BCall Tryz.prog 79 [.ptr os 0,I ino,I pos,I n,B keep] H r H':=zovZ (by
 unfold zizZ;obtain ⟨R,hR,r,H1,⟨rfl,g1⟩,hc⟩:=Rfile_c h hw (by omega) ino;have hlen:=zesZ hw ino;refine bC_of hc ?_;unfold allocS;generalize zsZ s ino=ct at *;have oR:=SV.oneA hR;have h1:=h.grew g1;have g2:=Grew.app H1 [some (.cells [I ct.1.1,R])];have h2:=h1.grew g2;simp only [zjZ,gCS,gCZ,zbZ,nwC,zboZ,stC' _ _ oR,zcaZ,zkjZ,zpZ]
 by_cases hc0 : ct.2=0
 ·simp only [hc0,ne_eq,not_true_eq_false,dFf,zmZ,if_false,zlZ top1,rd2,zbZ]
  obtain ⟨R2,hR2,hp⟩:=zpfZ (size:=ct.1.1) hR (by omega) pos n keep;refine zyZ hp ?_;have oR2:=SV.oneA hR2;have g3:=Grew.app (H1 ++ [some (AObj.cells [I ct.1.1,R])]) [some (.cells [I (cS (zubZ (ct.1.1,ct.1.2) pos n keep)),R2])];have h3:=h2.grew g3;have ff : StF os p p H (H1 ++ [some (AObj.cells [I ct.1.1,R])] ++ [some (.cells [I (cS (zubZ (ct.1.1,ct.1.2) pos n keep)),R2])]):=.of_grew ((g1.trans g2).trans g3);simp only [zjZ,gCS,gCZ,zbZ,nwC,zboZ,stC' _ _ oR2,zcaZ,zdyZ,zpZ];cases ht : zubZ (ct.1.1,ct.1.2) pos n keep with
  | none =>
   have ht' : zubZ ct.1 pos n keep=none:=ht;rw [ht] at h3 ff;simp only [Option.isSome_none,Bool.not_false,zbcZ,ht',if_true];exact ⟨by trivial,p,h3,ff⟩
  | some c2 =>
   have ht' : ¬ zubZ ct.1 pos n keep=none:=by rw [show zubZ ct.1 pos n keep=some c2 from ht]; simp
   have e2 : abl [(I 0),(I 0),(I 0),(I 0),(B false),(.lit (.string ⟨#[]⟩)),(.lit (.string ⟨#[]⟩)),nilSl] [(0,1,(I 4)),(1,1,I ino),(2,1,I pos),(3,1,I n),(4,1,B keep)]=some (.agg (opA (opAl ino pos n keep) nilSl)):=rfl;have hb:=alloc_bnd (c:=(ct.1.1,ct.1.2)) (pos:=pos) (n:=n) (keep:=keep);have hs:=hR2.len;have hs0:=hR.len;rw [ht] at hb hs h3 ff g3;simp only at hb;have e3 : abI .sub (I ((cL (some c2)).length : Int)) (I (ct.1.2.length : Int))=some (I (((cL (some c2)).length : Int) - (ct.1.2.length : Int))):=zfwZ (by omega) (by omega);have g23:=g3.cells (o:=H1.length) (x:=some (AObj.cells [I ct.1.1,R])) top1;simp only [Option.isSome_some,Bool.not_true,zmZ,reduceCtorEq,if_false,zbZ,zeZ,Nat.zero_add,zlZ top1,zlZ g23,zdZ,gCS,gCZ,hs,hs0,e3];refine bC_of (RFree_c h3 hw (by omega)) ?_;simp only [zwbZ,zbZ,zlZ top1,zlZ g23,zdZ,gCS,gCZ,hs,hs0,true_and,zpZ]
   by_cases c4 : freeS s < ((cL (some c2)).length : Int) - (ct.1.2.length : Int)
   ·simp only [c4,dTt,zbcZ,if_true]
    exact ⟨by trivial,p,h3,ff⟩
   ·simp only [c4,dFf,zmZ,if_false,e2,zbZ]
    obtain ⟨r,H2,⟨rfl,p2,h4,f4⟩,hcall⟩:=Rdo_c (bv:=nilSl) (o:=opAl ino pos n keep) h3 hw (by omega) SV.nil (opAl_b ino pos n keep);exact bC_of hcall ⟨rfl,p2,h4,ff.trans f4⟩
 ·simp only [hc0,ne_eq,not_false_eq_true,dTt,zbcZ,if_true]
  exact ⟨by trivial,p,h2,.of_grew (g1.trans g2)⟩)
theorem RData_c {N : Nat} {s : StS} {os : Nat} {p : AV} {H : AH} (h : DsAt s os p H) (hw : SW N s) (hN : N≤900000) (ino pos : Int) :
  ∃ r H',(r = .tup [I (dataS s ino pos).1,I (dataS s ino pos).2]∧Grew H H')∧BCall Tryz.prog 87 [.ptr os 0,I ino,I pos] H r H':=ztqZ (by
 unfold zntZ;obtain ⟨R,hR,r,H1,⟨rfl,g1⟩,hc⟩:=Rfile_c h hw (by omega) ino;have hlen:=zesZ hw ino;refine bC_of hc ?_;unfold dataS;generalize zsZ s ino=ct at *;have oR:=SV.oneA hR;have g2:=Grew.app H1 [some (.cells [I ct.1.1,R])];simp only [zjZ,gCS,gCZ,zbZ,nwC,zboZ,stC' _ _ oR,zcaZ,zkjZ,zpZ]
 by_cases hc0 : ct.2=0
 ·simp only [hc0,ne_eq,not_true_eq_false,dFf,zmZ,if_false,zlZ top1,rd2,zbZ]
  refine zyZ (ref_DataContent_p hR (by omega) pos) ?_;cases ht : dataC ct.1.1 ct.1.2 pos with
  | none =>
   simp only [oI,zjZ,gCS,gCZ,zbZ,zdyZ,Bool.not_false,zpZ,zbcZ];exact ⟨by trivial,g1.trans g2⟩
  | some n =>
   simp only [oI,zjZ,gCS,gCZ,zbZ,zdyZ,Bool.not_true,zpZ,zmZ];exact ⟨by trivial,g1.trans g2⟩
 ·simp only [hc0,ne_eq,not_false_eq_true,dTt,zbcZ,if_true]
  exact ⟨by trivial,g1.trans g2⟩)
theorem PRData_c {N : Nat} {s : StS} {os : Nat} {p : AV} {H : AH} (h : StAt s os p H) (hw : SW N s) (hN : N≤900000) (ino pos : Int) :
  ∃ r H',(r = .tup [I (dataS s ino pos).1,I (dataS s ino pos).2]∧Grew H H')∧BCall Tryz.prog 86 [.ptr os 0,I ino,I pos] H r H':=zbcxZ (by
 unfold zzcZ
 have key : ∃ r H',(r = .tup [I (dataS s ino pos).1,I (dataS s ino pos).2]∧Grew H H')∧BCall Tryz.prog 141 [.ptr os 0,I ino,I pos,.fn (.func 142) [] []] H r H':=zorZ (by
  unfold znjZ;obtain ⟨R,hR,r,H1,⟨rfl,g1⟩,hc⟩:=zxwZ h hw (by omega) ino;have hlen:=zesZ hw ino;refine bC_of hc ?_;unfold dataS;generalize zsZ s ino=ct at *;have oR:=SV.oneA hR;have g2:=Grew.app H1 [some (.cells [I ct.1.1,R])];simp only [zjZ,gCS,gCZ,zbZ,nwC,zboZ,stC' _ _ oR,zcaZ,zkjZ,zpZ]
  by_cases hc0 : ct.2=0
  ·have gf : zbbmZ Tryz.prog 142=true:=by kernel_rfl
   simp only [hc0,ne_eq,not_true_eq_false,dFf,zmZ,if_false,zlZ top1,rd2,zbZ,bF_fn,gf,Bool.not_true,Bool.or_false,bT_true,List.nil_append,List.append_nil];refine bC_of (extent_Data_p hR (by omega) pos _) ?_;cases ht : dataC ct.1.1 ct.1.2 pos with
   | none =>
    simp only [oI,zjZ,gCS,gCZ,zbZ,zdyZ,Bool.not_false,zpZ,zbcZ];exact ⟨by trivial,g1.trans g2⟩
   | some n =>
    simp only [oI,zjZ,gCS,gCZ,zbZ,zdyZ,Bool.not_true,zpZ,zmZ];exact ⟨by trivial,g1.trans g2⟩
  ·simp only [hc0,ne_eq,not_false_eq_true,dTt,zbcZ,if_true]
   exact ⟨by trivial,g1.trans g2⟩)
 obtain ⟨r,H',⟨rfl,g⟩,hc⟩:=key;refine bC_of hc ?_;simp only [zjZ,gCS,gCZ,zbZ];exact ⟨by trivial,g⟩)
theorem RHole_c {N : Nat} {s : StS} {os : Nat} {p : AV} {H : AH} (h : DsAt s os p H) (hw : SW N s) (hN : N≤900000) (ino pos : Int) :
  ∃ r H',(r = .tup [I (holeS s ino pos).1,I (holeS s ino pos).2]∧Grew H H')∧BCall Tryz.prog 89 [.ptr os 0,I ino,I pos] H r H':=ztuZ (by
 unfold znuZ;obtain ⟨R,hR,r,H1,⟨rfl,g1⟩,hc⟩:=Rfile_c h hw (by omega) ino;have hlen:=zesZ hw ino;refine bC_of hc ?_;unfold holeS;generalize zsZ s ino=ct at *;have oR:=SV.oneA hR;have g2:=Grew.app H1 [some (.cells [I ct.1.1,R])];simp only [zjZ,gCS,gCZ,zbZ,nwC,zboZ,stC' _ _ oR,zcaZ,zkjZ,zpZ]
 by_cases hc0 : ct.2=0
 ·simp only [hc0,ne_eq,not_true_eq_false,dFf,zmZ,if_false,zlZ top1,rd2,zbZ]
  refine zyZ (ref_HoleContent_p hR (by omega) pos) ?_;cases ht : holeC ct.1.1 ct.1.2 pos with
  | none =>
   simp only [oI,zjZ,gCS,gCZ,zbZ,zdyZ,Bool.not_false,zpZ,zbcZ];exact ⟨by trivial,g1.trans g2⟩
  | some n =>
   simp only [oI,zjZ,gCS,gCZ,zbZ,zdyZ,Bool.not_true,zpZ,zmZ];exact ⟨by trivial,g1.trans g2⟩
 ·simp only [hc0,ne_eq,not_false_eq_true,dTt,zbcZ,if_true]
  exact ⟨by trivial,g1.trans g2⟩)
theorem PRHole_c {N : Nat} {s : StS} {os : Nat} {p : AV} {H : AH} (h : StAt s os p H) (hw : SW N s) (hN : N≤900000) (ino pos : Int) :
  ∃ r H',(r = .tup [I (holeS s ino pos).1,I (holeS s ino pos).2]∧Grew H H')∧BCall Tryz.prog 88 [.ptr os 0,I ino,I pos] H r H':=zbclZ (by
 unfold zzrZ
 have key : ∃ r H',(r = .tup [I (holeS s ino pos).1,I (holeS s ino pos).2]∧Grew H H')∧BCall Tryz.prog 141 [.ptr os 0,I ino,I pos,.fn (.func 144) [] []] H r H':=zorZ (by
  unfold znjZ;obtain ⟨R,hR,r,H1,⟨rfl,g1⟩,hc⟩:=zxwZ h hw (by omega) ino;have hlen:=zesZ hw ino;refine bC_of hc ?_;unfold holeS;generalize zsZ s ino=ct at *;have oR:=SV.oneA hR;have g2:=Grew.app H1 [some (.cells [I ct.1.1,R])];simp only [zjZ,gCS,gCZ,zbZ,nwC,zboZ,stC' _ _ oR,zcaZ,zkjZ,zpZ]
  by_cases hc0 : ct.2=0
  ·have gf : zbbmZ Tryz.prog 144=true:=by kernel_rfl
   simp only [hc0,ne_eq,not_true_eq_false,dFf,zmZ,if_false,zlZ top1,rd2,zbZ,bF_fn,gf,Bool.not_true,Bool.or_false,bT_true,List.nil_append,List.append_nil];refine bC_of (extent_Hole_p hR (by omega) pos _) ?_;cases ht : holeC ct.1.1 ct.1.2 pos with
   | none =>
    simp only [oI,zjZ,gCS,gCZ,zbZ,zdyZ,Bool.not_false,zpZ,zbcZ];exact ⟨by trivial,g1.trans g2⟩
   | some n =>
    simp only [oI,zjZ,gCS,gCZ,zbZ,zdyZ,Bool.not_true,zpZ,zmZ];exact ⟨by trivial,g1.trans g2⟩
  ·simp only [hc0,ne_eq,not_false_eq_true,dTt,zbcZ,if_true]
   exact ⟨by trivial,g1.trans g2⟩)
 obtain ⟨r,H',⟨rfl,g⟩,hc⟩:=key;refine bC_of hc ?_;simp only [zjZ,gCS,gCZ,zbZ];exact ⟨by trivial,g⟩)
theorem RSize_c {N : Nat} {s : StS} {os : Nat} {p : AV} {H : AH} (h : DsAt s os p H) (hw : SW N s) (hN : N≤900000) (ino : Int) : ∃ r H',(r = .tup [I (zsZ s ino).1.1,I (zsZ s ino).2]∧Grew H H')∧BCall Tryz.prog 85 [.ptr os 0,I ino] H r H':=ztyZ (by
 unfold znvZ;obtain ⟨R,hR,r,H1,⟨rfl,g1⟩,hc⟩:=Rfile_c h hw hN ino;have oR:=SV.oneA hR;refine bC_of hc ?_;have g2:=Grew.app H1 [some (AObj.cells [I (zsZ s ino).1.1,R])];simp only [zjZ,gCS,gCZ,zbZ,nwC,zboZ,stC' _ _ oR,zcaZ,zeZ,Nat.zero_add,zlZ top1,zdZ];exact ⟨by trivial,g1.trans g2⟩)
theorem RRead_c {N : Nat} {s : StS} {os : Nat} {p : AV} {H : AH} (h : DsAt s os p H) (hw : SW N s) (hN : N < 900000) (ino pos n : Int) :
  ∃ R,SV encU 1 (readS s ino pos n).1 R∧∃ r H',(r = .tup [R,I (readS s ino pos n).2]∧Grew H H')∧BCall Tryz.prog 50 [.ptr os 0,I ino,I pos,I n] H r H':=by
 obtain ⟨R,hR,r,H1,⟨rfl,g1⟩,hc⟩:=Rfile_c h hw (by omega) ino;have hlen:=zesZ hw ino;have oR:=SV.oneA hR;have g2:=Grew.app H1 [some (.cells [I (zsZ s ino).1.1,R])]
 by_cases hc0 : (zsZ s ino).2=0
 ·obtain ⟨d,hd,hdi,hdc,hoff⟩:=zxtZ hw hc0
  by_cases hb : pos < 0∨n < 0∨4096 < n
  ·have e : readS s ino pos n=([],5):=by unfold readS; rw [if_neg (by rw [hc0]; simp),if_pos hb]
   rw [e];refine ⟨nilSl,SV.nil,zgcZ ?_⟩;unfold zfaZ;refine bC_of hc ?_;simp only [zjZ,gCS,gCZ,zbZ,nwC,zboZ,stC' _ _ oR,zcaZ,zkjZ,hc0,ne_eq,not_true_eq_false,dFf,zpZ,zmZ,zhfZ,zcxZ];have done : True∧Grew H (H1 ++ [some (AObj.cells [I (zsZ s ino).1.1,R])]):=⟨trivial,g1.trans g2⟩
   by_cases c1 : pos < 0
   ·simp only [c1,dTt,show ((true == false)=false) from rfl,zgdZ,zbZ,zoZ,if_true,zcxZ,zpZ,zbcZ]
    exact done
   ·by_cases c2 : n < 0
    ·simp only [c1,dFf,beq_self_eq_true,zbsZ,zbZ,zhfZ,c2,dTt,zoZ,if_false,Bool.false_eq_true,zcxZ,show ((true == false)=false) from rfl,zgdZ,if_true,zpZ,zbcZ]
     exact done
    ·have c3 : 4096 < n:=by omega
     simp only [c1,dFf,beq_self_eq_true,zbsZ,zbZ,zhfZ,c2,zoZ,if_false,Bool.false_eq_true,zcxZ,zwbZ,c3,dTt,zpZ,zbcZ];exact done
  ·have e : readS s ino pos n=(readC (zsZ s ino).1.1 (zsZ s ino).1.2 pos n,0):=by unfold readS; rw [if_neg (by rw [hc0]; simp),if_neg hb]
   rw [e];have hmc:=hw.now.1.mc d hd;obtain ⟨R2,hR2,hp⟩:=ref_ReadContent_p hR (by omega) pos n;refine ⟨R2,hR2,zgcZ ?_⟩;unfold zfaZ;refine bC_of hc ?_;have c1 : ¬ pos < 0:=by omega
   have c2 : ¬ n < 0:=by omega
   have c3 : ¬ 4096 < n:=by omega
   simp only [zjZ,gCS,gCZ,zbZ,nwC,zboZ,stC' _ _ oR,zcaZ,zkjZ,hc0,ne_eq,not_true_eq_false,dFf,zpZ,zmZ,zhfZ,zcxZ,c1,c2,zwbZ,c3,beq_self_eq_true,zbsZ,zoZ,if_false,Bool.false_eq_true,zlZ top1,rd2];exact zyZ hp ⟨rfl,g1.trans g2⟩
 ·have e : readS s ino pos n=([],(zsZ s ino).2):=by unfold readS; rw [if_pos hc0]
  rw [e];refine ⟨nilSl,SV.nil,zgcZ ?_⟩;unfold zfaZ;refine bC_of hc ?_;simp only [zjZ,gCS,gCZ,zbZ,nwC,zboZ,stC' _ _ oR,zcaZ,zkjZ,hc0,ne_eq,not_false_eq_true,dTt,zpZ,zbcZ];exact ⟨by trivial,g1.trans g2⟩
theorem RRename_c {N : Nat} {s : StS} {os : Nat} {p : AV} {H : AH} (h : DsAt s os p H) (hw : SW N s) (hN : N < 900000) {name to : List UInt8} (hn : name.length≤9223372036854775807) (ht : to.length≤9223372036854775807) :
  ∃ r H',(r=I (renS s name to).1∧∃ p',DsAt (renS s name to).2 os p' H'∧StF os p p' H H')∧BCall Tryz.prog 81 [.ptr os 0,S (bstr name),S (bstr to)] H r H':=zrwZ (by
 unfold zlkZ;have h':=h;obtain ⟨a,b,c,d,pv,hc⟩:=h
 have stop : ∀ (x : Int),renS s name to=(x,s)→(I x : AV)=I (renS s name to).1∧∃ p',DsAt (renS s name to).2 os p' H∧StF os p p' H H:=by
  intro x e;rw [e];exact ⟨rfl,p,h',.refl _ _ _⟩
 simp only [ziZ,zbZ,zeZ,Nat.zero_add,zlZ hc.obj,zdZ,gCS,gCZ,zpZ];cases ho : s.off with
 | true =>
  simp only [zbcZ]
  exact stop 8 (by
   have e : findS s name=(0,8):=by unfold findS; rw [if_pos ho]
   unfold renS; rw [if_neg (by rw [ho]; simp),if_pos (.inl (by rw [e]; simp)),e])
 | false =>
  simp only [zmZ];refine zyZ (zitZ hn) ?_
  by_cases hm : mayN name
  ·simp only [hm,dTt,zdyZ,Bool.not_true,zbZ,zcxZ,beq_self_eq_true,zbsZ,gP_true]
   refine zyZ (zitZ ht) ?_
   by_cases hm2 : mayN to
   ·have hf:=zmwZ hc.now (hw.now.sm (by omega)) name
    simp only [hm2,dTt,zdyZ,Bool.not_true,zbZ,zoZ,if_false,Bool.false_eq_true,zpZ,zmZ,ziZ,zeZ,Nat.zero_add,zlZ hc.obj,(rdD _ _ _ _ _ _ _ _ _).1];refine zyZ hf ?_;simp only [zhfZ,zbZ,zpZ,zbcyZ]
    by_cases hk : hasK Nm.name s.now.1 name
    ·have e : findS s name=(nameI s.now.1 name,0):=by unfold findS; rw [if_neg (by rw [ho]; simp),if_neg (λq=>q hm),if_pos hk]
     have eT : abT .eql (S (bstr name)) (S (bstr to))=some (B (decide (name=to))):=abT_eql;simp only [hk,not_true_eq_false,dFf,zmZ,eT,zbZ,zpZ]
     by_cases he : name=to
     ·subst he
      simp only [eq_self,dTt,zbcZ];exact stop 0 (by unfold renS; rw [if_neg (λq=>q.2 hm2),if_pos (.inr rfl),e])
     ·have hno : ¬ (s.off=false∧¬ mayN to):=λq=>q.2 hm2
      have hne : ¬ ((findS s name).2 ≠ 0∨name=to):=by rintro (q | q); exact q (by rw [e]); exact he q
      have er : renS s name to=doS s (opRen name to):=by unfold renS; rw [if_neg hno,if_neg hne]
      have e2 : abl [(I 0),(I 0),(I 0),(I 0),(B false),(.lit (.string ⟨#[]⟩)),(.lit (.string ⟨#[]⟩)),nilSl] [(0,1,(I 6)),(5,1,S (bstr name)),(6,1,S (bstr to))]=some (.agg (opA (opRen name to) nilSl)):=rfl;simp only [he,dFf,zmZ,e2,zbZ];obtain ⟨r,H2,⟨rfl,p2,h4,f4⟩,hcall⟩:=Rdo_c (bv:=nilSl) (o:=opRen name to) h' hw (by omega) SV.nil (renS_ob hno hne);rw [er];exact bC_of hcall ⟨rfl,p2,h4,f4⟩
    ·simp only [hk,not_false_eq_true,dTt,zbcZ]
     exact stop 3 (by
      have e : findS s name=(0,3):=by unfold findS; rw [if_neg (by rw [ho]; simp),if_neg (λq=>q hm),if_neg hk]
      unfold renS; rw [if_neg (λq=>q.2 hm2),if_pos (.inl (by rw [e]; simp)),e])
   ·simp only [hm2,dFf,zdyZ,Bool.not_false,zbZ,zoZ,if_false,Bool.false_eq_true,zpZ,zbcZ]
    exact stop 5 (by unfold renS; rw [if_pos ⟨ho,hm2⟩])
  ·simp only [hm,dFf,zdyZ,Bool.not_false,zbZ,zcxZ,show ((true == false)=false) from rfl,zgdZ,gP_false,zoZ,if_true,zpZ,zbcZ]
   exact stop 5 (by
    have e : findS s name=(0,5):=by unfold findS; rw [if_neg (by rw [ho]; simp),if_pos hm]
    unfold renS
    by_cases hm2 : mayN to
    ·rw [if_neg (λq=>q.2 hm2),if_pos (.inl (by rw [e]; simp)),e]
    ·rw [if_pos ⟨ho,hm2⟩]))
theorem RRemove_c {N : Nat} {s : StS} {os : Nat} {p : AV} {H : AH} (h : DsAt s os p H) (hw : SW N s) (hN : N < 900000) {name : List UInt8} (hn : name.length≤9223372036854775807) :
  ∃ r H',(r=I (remS s name).1∧∃ p',DsAt (remS s name).2 os p' H'∧StF os p p' H H')∧BCall Tryz.prog 82 [.ptr os 0,S (bstr name)] H r H':=zrpZ (by
 unfold zlmZ;have h':=h;obtain ⟨a,b,c,d,pv,hc⟩:=h
 have stop : ∀ (x y : Int),findS s name=(x,y)→y ≠ 0→(I y : AV)=I (remS s name).1∧∃ p',DsAt (remS s name).2 os p' H∧StF os p p' H H:=by
  intro x y e hy;have : remS s name=(y,s):=by unfold remS; rw [if_pos (by rw [e]; exact hy),e]
  rw [this];exact ⟨rfl,p,h',.refl _ _ _⟩
 simp only [ziZ,zbZ,zeZ,Nat.zero_add,zlZ hc.obj,zdZ,gCS,gCZ,zpZ];cases ho : s.off with
 | true =>
  simp only [zbcZ];exact stop 0 8 (by unfold findS; rw [if_pos ho]) (by omega)
 | false =>
  simp only [zmZ];refine zyZ (zitZ hn) ?_
  by_cases hm : mayN name
  ·have hf:=zmwZ hc.now (hw.now.sm (by omega)) name
   simp only [hm,dTt,zdyZ,Bool.not_true,zbZ,zpZ,zmZ,ziZ,zeZ,Nat.zero_add,zlZ hc.obj,(rdD _ _ _ _ _ _ _ _ _).1];refine zyZ hf ?_;simp only [zhfZ,zbZ,zpZ,zbcyZ]
   by_cases hk : hasK Nm.name s.now.1 name
   ·have e : findS s name=(nameI s.now.1 name,0):=by unfold findS; rw [if_neg (by rw [ho]; simp),if_neg (λq=>q hm),if_pos hk]
    have er : remS s name=doS s (opRem name):=by unfold remS; rw [if_neg (by rw [e]; simp)]
    have e2 : abl [(I 0),(I 0),(I 0),(I 0),(B false),(.lit (.string ⟨#[]⟩)),(.lit (.string ⟨#[]⟩)),nilSl] [(0,1,(I 7)),(5,1,S (bstr name))]=some (.agg (opA (opRem name) nilSl)):=rfl;simp only [hk,not_true_eq_false,dFf,zmZ,e2,zbZ];obtain ⟨r,H2,⟨rfl,p2,h4,f4⟩,hcall⟩:=Rdo_c (bv:=nilSl) (o:=opRem name) h' hw (by omega) SV.nil (opRem_b hm);rw [er];exact bC_of hcall ⟨rfl,p2,h4,f4⟩
   ·simp only [hk,not_false_eq_true,dTt,zbcZ]
    exact stop 0 3 (by unfold findS; rw [if_neg (by rw [ho]; simp),if_neg (λq=>q hm),if_neg hk]) (by omega)
  ·simp only [hm,dFf,zdyZ,Bool.not_false,zbZ,zpZ,zbcZ]
   exact stop 0 5 (by unfold findS; rw [if_neg (by rw [ho]; simp),if_pos hm]) (by omega))
theorem SV.cutB {b : List UInt8} {v : AV} (hv : SV encU 1 b v) {l k : Nat} {li ki : Int} (e1 : li=l) (e2 : ki=k) (h1 : l≤k) (h2 : k≤b.length) : ∃ r,aslS 1 v (some (I li)) (some (I ki)) none=some r∧SV encU 1 ((b.drop l).take (k - l)) r:=by
 subst e1; subst e2
 have key : ∀ H : AH,∃ r,aslS 1 v (some (I (l : Int))) (some (I (k : Int))) none=some r∧zaZ H 1 r=some (((b.drop l).take (k - l)).flatMap encU,((b.drop l).take (k - l)).length)∧(noIds v=true→noIds r=true):=by
  intro H;obtain ⟨r,s1,s2,-,-,s5⟩:=zrtZ (hv.bytes H) (lo:=some (I (l : Int))) (hi:=some (I (k : Int))) (l:=l) (k:=k) (by simp [abnd]) (by simp [abnd]) h1 h2;refine ⟨r,s1, ?_,s5⟩;have hl : ((b.drop l).take (k - l)).length=k - l:=by rw [List.length_take,List.length_drop]; omega
  rw [s2,zbckZ,hl];simp only [encB_drop,zbfqZ,Nat.mul_one]
 obtain ⟨r,s1,s2,s5⟩:=key [];refine ⟨r,s1,s5 hv.1,λH=>?_⟩;obtain ⟨r2,t1,t2,-⟩:=key H;rw [s1] at t1;injection t1 with t1;rw [t1];exact t2
theorem wr_content {N : Nat} {s : StS} (hw : SW N s) {ino p : Int} {bs : List UInt8} (h0 : (zsZ s ino).2=0) (hd : (doS s (opWr ino p bs)).1=0) :
  (zsZ (doS s (opWr ino p bs)).2 ino).2=0∧∀ a,(∀ x,p≤x→x < p + bs.length→a ≠ x / 8)→(hasL (zsZ (doS s (opWr ino p bs)).2 ino).1.2 a ↔ hasL (zsZ s ino).1.2 a):=by
 obtain ⟨d,hmem,hino,hcont,hoff⟩:=zxtZ hw h0
 have hdd : (deedS s).1=true:=by
  unfold doS at hd;split at hd
  ·assumption
  ·simp at hd
 have hoff2 : (deedS s).2.off=false:=by
  unfold deedS at hdd ⊢;split at hdd
  ·cases hdd
  ·rename_i hn
   rw [if_neg hn]
   split <;> exact hoff
 have e : doS s (opWr ino p bs)=(0,{ (deedS s).2 with now:=zexZ s.now.1 s.now.2 (opWr ino p bs),pend:=s.pend ++ [opWr ino p bs] }):=by unfold doS; rw [if_pos hdd]
 have hmay:=hw.now.1
 have ea : zexZ s.now.1 s.now.2 (opWr ino p bs)=(s.now.1,chgD s.now.2 (opWr ino p bs)):=by
  unfold zexZ;rw [if_pos (mayI_w.2 hmay),if_neg (by simp [opWr]),if_pos (.inl rfl)]
 have hM:=hmay.chg (o:=opWr ino p bs) (.inl rfl)
 have hin : ino ∈ (chgD s.now.2 (opWr ino p bs)).map Nd.ino:=by
  rw [chgD_inos hmay.sd];exact List.mem_map.2 ⟨d,hmem,hino⟩
 obtain ⟨d',hm',hi'⟩:=List.mem_map.1 hin;obtain ⟨g1,g2⟩:=getN_w hM hm';obtain ⟨k1,k2⟩:=getN_w hmay hmem;rw [hi'] at g1 g2;rw [hino] at k1 k2
 have ec : zsZ (doS s (opWr ino p bs)).2 ino=((d'.size,d'.l),0):=by
  rw [e];unfold zsZ;simp only [ea,hoff2];rw [if_neg (by simp),if_pos g2,g1]
 rw [ec,hcont];refine ⟨rfl,λa ha=>?_⟩;rcases mem_chgD hmay.sd hm' with q | ⟨-,f,hf,hfi,hc⟩
 ·have : d'=d:=by
   obtain ⟨z1,-⟩:=getN_w hmay q;rw [hi',k1] at z1;exact z1.symm
  rw [this]
 ·have : f=d:=by
   obtain ⟨z1,-⟩:=getN_w hmay hf;rw [hfi] at z1;have z2 : getN s.now.1 s.now.2 ino=f:=z1;rw [k1] at z2;exact z2.symm
  subst this;unfold chgC at hc;rw [if_pos (show (opWr ino p bs).kind=2 from rfl)] at hc;unfold zbdqZ at hc;split at hc
  ·injection hc with hc
   by_cases hb : (opWr ino p bs).b=[]
   ·rw [if_pos hb] at hc
    have : d'.l=f.l:=(congrArg Prod.snd hc).symm;rw [show ((d'.size,d'.l) : Cont).2=d'.l from rfl,this]
   ·rw [if_neg hb] at hc
    have : d'.l=ztdZ f.l p bs:=(congrArg Prod.snd hc).symm;rw [show (((d'.size,d'.l),(0 : Int)).1).2=d'.l from rfl,this,wr_has]
    constructor
    ·rintro (q | ⟨x,x1,x2,x3⟩)
     ·exact q
     ·exact absurd x3 (ha x x1 x2)
    ·exact .inl
  ·cases hc
theorem writeC_some {N : Nat} {s : StS} (hw : SW N s) {ino pos : Int} {b : List UInt8} (h0 : (zsZ s ino).2=0) : (zbdqZ ((zsZ s ino).1.1,(zsZ s ino).1.2) pos b).isSome=decide (fitsW pos b.length):=by
 obtain ⟨d,hmem,hino,hcont,hoff⟩:=zxtZ hw h0;have hmc:=hw.now.1.mc d hmem;rw [hcont];unfold zbdqZ fitsW
 by_cases h : 0≤pos∧b.length≤4096∧pos≤1099511627776 - b.length
 ·rw [if_pos ⟨hmc,h⟩,decide_eq_true h]; rfl
 ·rw [if_neg (λq=>h q.2),decide_eq_false h]; rfl
theorem cuts_nil {f : Nat} {p n : Int} (h : cutsS f p n 8=[]) (hf : n.toNat≤f) : n≤0:=by
 cases f with
 | zero => omega
 | succ f =>
  unfold cutsS at h;split at h
  ·simp at h
  ·omega
theorem cuts_cons {f : Nat} {p n : Int} {q : Sp} {r : List Sp} (h : cutsS f p n 8=q :: r) (hp : 0≤p) : 0 < n∧q=⟨p,min n (8 - p % 8)⟩∧∃ g,f=g + 1∧r=cutsS g (p + min n (8 - p % 8)) (n - min n (8 - p % 8)) 8:=by
 cases f with
 | zero => simp [cutsS] at h
 | succ f =>
  unfold cutsS at h;split at h
  ·rename_i hn
   injection h with h1 h2;exact ⟨hn,h1.symm,f,rfl,h2.symm⟩
  ·simp at h
theorem RWrite_c {N : Nat} {s : StS} {os : Nat} {p v : AV} {H : AH} (h : DsAt s os p H) (hw : SW N s) (ino pos : Int) {b : List UInt8} (hN : N + 9 * b.length < 900000) (hv : SV encU 1 b v) :
  ∃ r H',(r = .tup [I (zbgkZ s ino pos b).1.1,I (zbgkZ s ino pos b).1.2]∧∃ p',DsAt (zbgkZ s ino pos b).2 os p' H'∧StF os p p' H H')∧BCall Tryz.prog 77 [.ptr os 0,I ino,I pos,v] H r H':=zstZ (by
 unfold zndZ;obtain ⟨R,hR,r,H1,⟨rfl,g1⟩,hc⟩:=Rfile_c h hw (by omega) ino;have hlen:=zesZ hw ino;refine bC_of hc ?_;unfold zbgkZ;have hsome:=writeC_some (pos:=pos) (b:=b) hw (ino:=ino);have h00 : (zsZ s ino).2=0→(zsZ s ino).2=0:=id;have hkeep : zsZ s ino=zsZ s ino:=rfl;generalize hct : zsZ s ino=ct at *;have oR:=SV.oneA hR;have h1:=h.grew g1;have g2:=Grew.app H1 [some (.cells [I ct.1.1,R])];have h2:=h1.grew g2;have alv : alnS v=some (I b.length):=hv.len;simp only [zjZ,gCS,gCZ,zbZ,nwC,zboZ,stC' _ _ oR,zcaZ,zkjZ,zpZ]
 by_cases hc0 : ct.2=0
 ·obtain ⟨R2,hR2,hpW⟩:=zulZ (size:=ct.1.1) hR (by omega) pos hv (by omega)
  have oR2:=SV.oneA hR2;rw [hsome hc0] at hpW;simp only [hc0,ne_eq,not_true_eq_false,dFf,zmZ,if_false,zlZ top1,rd2,zbZ];refine zyZ hpW ?_;generalize cS (zbdqZ (ct.1.1,ct.1.2) pos b)=sz;have g3:=Grew.app (H1 ++ [some (AObj.cells [I ct.1.1,R])]) [some (.cells [I sz,R2])];have h3:=h2.grew g3;have ff : StF os p p H (H1 ++ [some (AObj.cells [I ct.1.1,R])] ++ [some (.cells [I sz,R2])]):=.of_grew ((g1.trans g2).trans g3);simp only [zjZ,gCS,gCZ,zbZ,nwC,zboZ,stC' _ _ oR2,zcaZ,zdyZ,zpZ]
  by_cases hf : fitsW pos b.length
  ·have hf' : 0≤pos∧b.length≤4096∧pos≤1099511627776 - b.length:=hf
   have e1 : abl [(I 0),(I 0)] [(0,1,I pos),(1,1,I (b.length : Int))]=some (.agg (encSp ⟨pos,b.length⟩)):=rfl;obtain ⟨V,hV,hp⟩:=ref1_Parts_p ⟨pos,b.length⟩ (unit:=8) (by omega);simp only [hf,dTt,Bool.not_true,zmZ,not_true_eq_false,if_false,alv,zbZ,e1];refine zyZ hp ?_
   have hpe : zbfhZ ⟨pos,b.length⟩ 8=cutsS b.length pos b.length 8:=by
    unfold zbfhZ;rw [if_pos ⟨⟨by unfold May; simp only; omega,by unfold May; simp only; omega,by simp only; omega⟩,by simp only; omega,by omega⟩]
    show cutsS ((b.length : Int)).toNat pos b.length 8=_
    rw [show ((b.length : Int)).toNat=b.length by omega]
   have hin : ∀ q ∈ zbfhZ ⟨pos,b.length⟩ 8,pos≤q.pos∧0 < q.len∧q.len≤8∧q.pos + q.len≤pos + b.length:=λq hq=>parts_in hf hq
   have hpl:=parts_len hf;generalize zbfhZ ⟨pos,b.length⟩ 8=L at hV hin hpl hpe;have hosH : os < H.length:=h.os_lt;have hpH:=h.p_lt;have hH1 : H.length≤H1.length:=g1.1;generalize (H1 ++ [some (AObj.cells [I ct.1.1,R])] ++ [some (AObj.cells [I sz,R2])])=H0 at h3 ff;refine zncZ (λm x0 x1 x3 x14 x15 x16 H'=>∃ (k : Nat) (s' : StS) (p' : AV) (done : Int) (f : Nat),k + m=L.length∧x0 = .ptr os 0∧x1=I ino∧v=x3∧V=x14∧x15=I done∧x16=I k∧DsAt s' os p' H'∧StF os p p' H H'∧SW (N + 9 * k) s'∧0≤done∧done≤b.length∧L.drop k=cutsS f (pos + done) (b.length - done) 8∧(b.length - done).toNat≤f∧(zsZ s' ino).2=0∧(b.length≤done∨∀ a,(pos + done) / 8≤a→(hasL (zsZ s' ino).1.2 a ↔ hasL ct.1.2 a))∧wrS ct.1.2 ino pos b (L.drop k) s'=wrS ct.1.2 ino pos b L s) ?_ L.length
    ⟨0,s,p,0,b.length,by omega,rfl,rfl,rfl,rfl,rfl,rfl,h3,ff,hw,by omega,by omega,by simpa using hpe,by omega,by rw [hct]; exact hc0,.inr (λa _=>by rw [hct]),rfl⟩
   rintro m x0 x1 x3 x14 x15 x16 H2 R3 hR3 ⟨k,s',p',done,f,hk,rfl,rfl,rfl,rfl,rfl,rfl,hs',fs',hws',hd0,hd1,hdrop,hfl,hcs,hhas,heq⟩;rw [← heq];unfold zgyZ;obtain ⟨a,b',c,d,pv,hsc⟩:=id hs';have sm:=hws'.now.sm (by omega);rcases Nat.lt_or_ge k L.length with hlt | hge
   ·have hx:=gEG hlt
    have hq:=hin L[k] (List.getElem_mem hlt);generalize L[k]=q at hx hq;obtain ⟨q1,q2,q3,q4⟩:=hq;have kI : (k : Int) < (L.length : Int):=by omega
    have hdr : L.drop k=q :: L.drop (k + 1):=zlrZ hx;rw [hdr] at hdrop ⊢;obtain ⟨c1,c2,g,rfl,c3⟩:=cuts_cons hdrop.symm (by omega);have hqp : q.pos=pos + done:=by rw [c2]
    have hql : q.len=min (b.length - done) (8 - (pos + done) % 8):=by rw [c2]
    have hmod:=Int.emod_nonneg (pos + done) (show (8 : Int) ≠ 0 by omega);generalize hW : wrS ct.1.2 ino pos b (q :: L.drop (k + 1)) s'=W
    -- what is there now
    obtain ⟨dd,hmem,hdi,hcont,hoff⟩:=zxtZ hws' hcs;obtain ⟨RG,hRG,hpG⟩:=ref_Get_p hsc.now sm ino;obtain ⟨k1,k2⟩:=getN_w hws'.now.1 hmem;rw [hdi] at k1 k2;rw [k1] at hRG hpG;rw [decide_eq_true k2] at hpG;have oRG:=SV.oneA hRG;have hsrt:=zbexZ (hws'.now.1.mc dd hmem).2.2;have hll:=hws'.now.2 dd hmem;have g5:=Grew.app H2 [some (.cells [I dd.size,RG])];have rq : ald false 1 (H2 ++ [some (AObj.cells [I dd.size,RG])]) (.ip (encSp q ++ (L.drop (k + 1)).flatMap encSp))=some (I q.pos):=rfl;have e3 : abI .quo (I q.pos) (I 8)=some (I (q.pos / 8)):=zbfyZ (by omega) (by omega) (by omega);have sh0 : zhZ 0 (.ip (encSp q ++ (L.drop (k + 1)).flatMap encSp))=some (.ip (encSp q ++ (L.drop (k + 1)).flatMap encSp)):=rfl;have sh1 : zhZ 1 (.ip (encSp q ++ (L.drop (k + 1)).flatMap encSp))=some (.ip (I q.len :: (L.drop (k + 1)).flatMap encSp)):=rfl;simp only [hV.len,zhfZ,zbZ,zpZ,kI,dTt,zbcZ,ziZ,zeZ,Nat.zero_add,zlZ hsc.obj,(rdD _ _ _ _ _ _ _ _ _).1];refine zyZ hpG ?_;simp only [zjZ,gCS,gCZ,zbZ,nwC,zboZ,stC' _ _ oRG,zcaZ,zlZ top1,rd2,hV.idx zbfrZ hx rfl,sh0,rq,e3];refine bP_of (ref_find_p (size:=dd.size) hRG hsrt (by omega) (q.pos / 8)) ?_;have hs5:=hs'.grew g5;have fs5 : StF os p p' H (H2 ++ [some (AObj.cells [I dd.size,RG])]):=fs'.grew g5
    have hhq : hasL dd.l (q.pos / 8) ↔ hasL ct.1.2 (q.pos / 8):=by
     rcases hhas with z | z
     ·omega
     ·have:=z (q.pos / 8) (by rw [hqp]; exact Int.le_refl _)
      rwa [hcont] at this
    have efind : (if hasL dd.l (q.pos / 8) then (posL dd.l (q.pos / 8) : Int) else -1) < 0 ↔ ¬ hasL ct.1.2 (q.pos / 8):=by
     rw [← hhq]
     by_cases z : hasL dd.l (q.pos / 8)
     ·rw [if_pos z]; constructor
      ·intro y; omega
      ·intro y; exact absurd z y
     ·rw [if_neg z]; simp [z]
    generalize (H2 ++ [some (AObj.cells [I dd.size,RG])])=H5 at hs5 fs5;have e4 : abI .add (I done) (I q.len)=some (I (done + q.len)):=zbdZ (by omega) (by omega);have rl : ∀ HH : AH,ald false 1 HH (.ip (I q.len :: (L.drop (k + 1)).flatMap encSp))=some (I q.len):=λ_=>rfl
    have deed : ¬ (¬ hasL ct.1.2 (q.pos / 8)∧freeS s'=0)→bO (ald false 1 H5 (.ip (encSp q ++ (L.drop (k + 1)).flatMap encSp))) (λv30=>bO (zhZ 1 (.ip (encSp q ++ (L.drop (k + 1)).flatMap encSp))) λv32=>bO (ald false 1 H5 v32) λv33=>bO (abI .add (I done) v33) λv34=>bO (aslS 1 v (some (I done)) (some v34) none) λv35=>
      bO (abl [(I 0),(I 0),(I 0),(I 0),(B false),(.lit (.string ⟨#[]⟩)),(.lit (.string ⟨#[]⟩)),nilSl] [(0,1,(I 2)),(1,1,I ino),(2,1,v30),(7,1,v35)]) λv36=>bC (BCall Tryz.prog 100 [.ptr os 0,v36] H5) λv37 H38=>bO (abI .neq v37 (I 0)) λv39=>bB v39 λt40=>bI t40
       (AV.tup [I done,v37] = .tup [I W.1.1,I W.1.2]∧∃ p',DsAt W.2 os p' H38∧StF os p p' H H38)
       (bO (zhZ 1 (.ip (encSp q ++ (L.drop (k + 1)).flatMap encSp))) λv42=>bO (ald false 1 H38 v42) λv43=>bO (abI .add (I done) v43) λv44=>bO (abI .add (I k) (I 1)) λv45=>R3 [.ptr os 0,I ino,v,V,v44,v45] H38)):=by
     intro hno;obtain ⟨rb,s1,s2⟩:=hv.cutB (li:=done) (ki:=done + q.len) (l:=done.toNat) (k:=(done + q.len).toNat) (by omega) (by omega) (by omega) (by omega)
     have hpb : (b.drop done.toNat).take ((done + q.len).toNat - done.toNat)=partB b pos q:=by
      unfold partB;rw [hqp,show (pos + done - pos).toNat=done.toNat by omega,show (done + q.len).toNat - done.toNat=q.len.toNat by omega]
     rw [hpb] at s2;have hpl2:=partB_len (b:=b) (pos:=pos) (q:=q) ⟨q1,q2,q3,q4⟩
     have e5 : abl [(I 0),(I 0),(I 0),(I 0),(B false),(.lit (.string ⟨#[]⟩)),(.lit (.string ⟨#[]⟩)),nilSl] [(0,1,(I 2)),(1,1,I ino),(2,1,I q.pos),(7,1,rb)]=some (.agg (opA (opWr ino q.pos (partB b pos q)) rb)):=by
      have:=SV.oneA s2
      simp [abl,opA,opWr,zbrZ this];rfl
     have rq5 : ald false 1 H5 (.ip (encSp q ++ (L.drop (k + 1)).flatMap encSp))=some (I q.pos):=rfl;simp only [hV.idx zbfrZ hx rfl,zbZ,sh0,rq5,sh1,rl,e4,s1,e5];obtain ⟨r6,H6,⟨rfl,p6,h6,f6⟩,hcall⟩:=Rdo_c (o:=opWr ino q.pos (partB b pos q)) hs5 hws' (by omega) s2 (opWr_b (by omega));have hws6:=doS_w (o:=opWr ino q.pos (partB b pos q)) hws' (opWr_b (by omega));refine bC_of hcall ?_;simp only [zkjZ,zbZ,zpZ]
     by_cases hd : (doS s' (opWr ino q.pos (partB b pos q))).1=0
     ·have hwt : wt (opWr ino q.pos (partB b pos q))≤9:=by
       show 1 + (partB b pos q).length + (if (2 : Int)=4 then 4098 else 0)≤9
       rw [if_neg (by omega)]; omega
      obtain ⟨w1,w2⟩:=wr_content hws' hcs hd;simp only [hd,ne_eq,not_true_eq_false,dFf,zmZ,hV.idx zbfrZ hx rfl,zbZ,sh1,rl,e4,zbdZ (a:=k) (b:=1) (by omega) (by omega)];refine hR3 (m - 1) _ _ _ _ _ _ _ (by omega) ⟨k + 1,_,p6,done + q.len,g,by omega,rfl,rfl,rfl,rfl,rfl,by simp,h6,fs5.trans f6,hws6.mono (by omega),by omega,by omega, ?_,by omega,w1, ?_, ?_⟩
      ·rw [c3,← hql]
       congr 1 <;> omega
      ·rcases Nat.lt_or_ge (done + q.len).toNat b.length with z | z
       ·refine .inr λa ha=>?_
        have hdiv : (pos + (done + q.len)) / 8=q.pos / 8 + 1:=by omega
        rw [w2 a (λx x1 x2=>by rw [hpl2] at x2; omega)];rcases hhas with y | y
        ·omega
        ·exact y a (by omega)
       ·exact .inl (by omega)
      ·rw [← heq,hdr]
       conv => rhs; unfold wrS
       rw [if_neg hno,if_neg (by rw [hd]; simp)]
     ·have eW : W=((q.pos - pos,(doS s' (opWr ino q.pos (partB b pos q))).1),(doS s' (opWr ino q.pos (partB b pos q))).2):=by
       rw [← hW]; unfold wrS; rw [if_neg hno,if_pos hd]
      rw [eW];simp only [hd,ne_eq,not_false_eq_true,dTt,zbcZ];exact ⟨by rw [show q.pos - pos=done by omega],p6,h6,fs5.trans f6⟩
    simp only [zhfZ,zbZ,zcxZ,decide_eq_decide.2 efind]
    by_cases hh : hasL ct.1.2 (q.pos / 8)
    ·simp only [hh,not_true_eq_false,dFf,show ((false == true)=false) from rfl,zgdZ,gC_false,zbZ,zoZ,if_false,Bool.false_eq_true,zpZ,zmZ]
     exact deed (λx=>x.1 hh)
    ·simp only [hh,not_false_eq_true,dTt,beq_self_eq_true,zbsZ,gC_true,zbZ]
     refine bC_of (RFree_c hs5 hws' (by omega)) ?_;simp only [zkvZ,zbZ,zoZ,if_true,zpZ]
     by_cases hfr : freeS s'=0
     ·have eW : W=((q.pos - pos,4),s'):=by
       rw [← hW]; unfold wrS; rw [if_pos ⟨hh,hfr⟩]
      rw [eW];simp only [hfr,dTt,zbcZ];exact ⟨by rw [show q.pos - pos=done by omega],p',hs5,fs5⟩
     ·simp only [hfr,dFf,zmZ]
      exact deed (λx=>hfr x.2)
   ·have kI : ¬ (k : Int) < (L.length : Int):=by omega
    have hdr : L.drop k=[]:=List.drop_of_length_le hge;rw [hdr] at hdrop ⊢
    have:=cuts_nil hdrop.symm hfl
    have hdn : done=b.length:=by omega
    unfold wrS;simp only [zhfZ,zbZ,zpZ,kI,dFf,zmZ,hV.len,hdn];exact ⟨by trivial,p',hs',fs'⟩
  ·simp only [hf,dFf,Bool.not_false,zbcZ,not_false_eq_true,if_true]
   exact ⟨by trivial,p,h3,ff⟩
 ·simp only [hc0,ne_eq,not_false_eq_true,dTt,zbcZ,if_true]
  exact ⟨by trivial,p,h2,.of_grew (g1.trans g2)⟩)
theorem RSync_c {N : Nat} {s : StS} {os : Nat} {p v : AV} {H : AH} (h : DsAt s os p H) (hw : SW N s) (hN : N≤900000) {l : List Int} (hv : SV encZ 1 l v) (hl : l.length≤1000000) :
  ∃ r H',(r=I (syncS s l).1∧∃ p',DsAt (syncS s l).2 os p' H'∧StF os p p' H H')∧BCall Tryz.prog 83 [.ptr os 0,v] H r H':=ztzZ (by
 unfold zocZ;obtain ⟨a0,b0,c0,d0,pv0,hc0⟩:=id h;simp only [ziZ,zbZ,zeZ,Nat.zero_add,zlZ hc0.obj,zdZ,gCS,gCZ,zcxZ];cases ho : s.off with
 | true =>
  have e : syncS s l=(8,s):=by
   have : deedS s=(false,s):=by
    unfold deedS;rw [if_pos (.inl ho)]
    congr 1
    cases s;simp only at ho;subst ho;rfl
   unfold syncS;rw [this]; rfl
  rw [e];simp only [show ((true == false)=false) from rfl,zgdZ,gC_false,zbZ,zoZ,if_true,zpZ,zbcZ];exact ⟨by trivial,p,h,.refl _ _ _⟩
 | false =>
 obtain ⟨r,H1,⟨rfl,h1,f1⟩,hc⟩:=Rdeed_c h hw.armed;simp only [beq_self_eq_true,zbsZ,gC_true,zbZ];refine bC_of hc ?_;obtain ⟨e1,e2,e3,e4,e5⟩:=zguZ s;have hwd:=deedS_w hw;have hpl : (deedS s).2.pend.length≤N:=by rw [e3]; exact hw.plen
 have hob : ∀ o ∈ (deedS s).2.pend,OpB o:=by rw [e3]; exact hw.ob
 have hkw : ∃ a,Few1 a (deedS s).2.kept∧a + wts (deedS s).2.pend≤N:=by rw [e2,e3]; exact hw.kept
 unfold syncS;rw [← e2,← e3];simp only [zdyZ,zbZ,zoZ,if_false,Bool.false_eq_true,zpZ];cases hd : (deedS s).1 with
 | false =>
  simp only [Bool.not_false,zbcZ,Bool.false_eq_true,if_false];exact ⟨by trivial,p,h1,f1⟩
 | true =>
  clear e1 e2 e3 e4 e5 hc hc0 ho;generalize (deedS s).2=s1 at *;simp only [if_true];obtain ⟨a,b,c,d,pv,h1⟩:=h1;have hpn : pv.length=s1.pend.length:=by rw [← h1.pm,List.length_map]
  have hidp : ∀ j ∈ idS p,j < H1.length:=λj q=>zrZ h1.ps j q
  have hos : os < H1.length:=h1.lt;have hH : H.length≤H1.length:=f1.len;simp only [Bool.not_true,zmZ];generalize hres : syncF l s1.pend (s1.kept,[])=res;refine zomZ (λm x0 x1 x5 x6 H'=>∃ (k : Nat) (ki : Img) (c' d' : AV) (lv : List OpV),k + m=s1.pend.length∧x0 = .ptr os 0∧v=x1∧x6=I k∧DsC { s1 with kept:=ki } os a b c' d' p pv H'∧StF os p p H1 H'∧syncF l (s1.pend.drop k) (ki,lv.map OpV.o)=res∧(∃ a,Few1 a ki∧a + wts (lv.map OpV.o) + wts (s1.pend.drop k)≤N)∧zaZ H' 8 x5=some (lv.flatMap encO,lv.length)∧zjlZ x5=true∧(∀ j ∈ idS x5,H1.length≤j)) ?_ s1.pend.length ⟨0,s1.kept,c,d,[],by omega,rfl,rfl,rfl,h1,.refl _ _ _,hres,by obtain ⟨x,y,z⟩:=hkw; exact ⟨x,y,by simp only [List.map_nil,List.drop_zero]; simp only [wts,List.map_nil,List.sum_nil] at *; omega⟩,rfl,rfl,by simp [idS]⟩;rintro m x0 x1 x5 x6 H2 R hR ⟨k,ki,c',d',lv,hk,rfl,rfl,rfl,h2,f2,hsy,hfew,ls,lo,li⟩
  have lvN : lv.length≤N:=by
   obtain ⟨x,-,y⟩:=hfew
   have:=wts_len (l:=lv.map OpV.o)
   rw [List.length_map] at this;omega
  have alv : alnS p=some (I (s1.pend.length : Nat)):=by rw [← hpn]; exact zhyZ h2.ps
  have hl2:=f2.len;unfold zilZ;simp only [ziZ,zbZ,zeZ,Nat.zero_add,zlZ h2.obj,zdZ,gCS,gCZ,alv,zhfZ,zpZ];rcases Nat.lt_or_ge k s1.pend.length with hlt | hge
  ·have hx:=gEG (show k < pv.length by omega)
   generalize pv[k]'(by omega)=x at hx;have hxo : s1.pend[k]? = some x.o:=by rw [← h1.pm,List.getElem?_map,hx]; rfl
   have hdrop : s1.pend.drop k=x.o :: s1.pend.drop (k + 1):=zlrZ hxo;have hxb:=hob x.o (List.mem_of_getElem? hxo);rw [hdrop] at hsy hfew;have ox:=SV.oneA x.h;have kI : (k : Int) < (s1.pend.length : Int):=by omega
   obtain ⟨pp,q1,q2⟩:=op_at h2.ps hx;have n8 : anew H2 (.agg [(I 0),(I 0),(I 0),(I 0),(B false),(.lit (.string ⟨#[]⟩)),(.lit (.string ⟨#[]⟩)),nilSl])=some (.ptr H2.length 0,H2 ++ [some (.cells [I 0,I 0,I 0,I 0,B false,S ⟨#[]⟩,S ⟨#[]⟩,nilSl])]):=by simp
   have t8 : ast 8 (H2 ++ [some (.cells [I 0,I 0,I 0,I 0,B false,S ⟨#[]⟩,S ⟨#[]⟩,nilSl])]) (.ptr H2.length 0) (.agg (opA x.o x.bv))=some (H2 ++ [some (.cells (opA x.o x.bv))]):=by
    rw [zckZ (n:=8) (xs:=opA x.o x.bv) (cs:=[I 0,I 0,I 0,I 0,B false,S ⟨#[]⟩,S ⟨#[]⟩,nilSl]) (by simp [opA,ox]) (by simp) rfl (by simp)];simp [zjoZ,opA]
   have g3:=Grew.app H2 [some (.cells (opA x.o x.bv))];have rd8 : ztZ true 8 (opA x.o x.bv) 0=some (.agg (opA x.o x.bv)):=rfl;have i0 : (opA x.o x.bv)[0]? = some (I x.o.kind):=rfl;have i1 : (opA x.o x.bv)[1]? = some (I x.o.ino):=rfl;have h3:=h2.grew g3;have f3 : StF os p p H1 (H2 ++ [some (AObj.cells (opA x.o x.bv))]):=f2.grew g3;have ls3:=g3.slice ls;have sm : Sm ki.1 ki.2:=by obtain ⟨x,y,z⟩:=hfew; exact y.sm (by omega)
   have topx : (H2 ++ [some (AObj.cells (opA x.o x.bv))])[H2.length]? = some (some (.cells (opA x.o x.bv))):=top1;have hl3 : (H2 ++ [some (AObj.cells (opA x.o x.bv))]).length=H2.length + 1:=by simp
   simp only [kI,dTt,zbcZ,q1,q2,zbZ,n8,zboZ,t8,zcaZ];generalize (H2 ++ [some (AObj.cells (opA x.o x.bv))])=H3 at *;simp only [zeZ,Nat.zero_add,zbZ,zlZ topx,zdZ,i0,zkvZ,zcxZ]
   have inner : zfgZ R (.ptr os 0) v x5 (I k) (.ptr H2.length 0) (B (decide (x.o.kind=1∨x.o.kind=6∨x.o.kind=7))) (I 0) H3 (λr H'=>r=I 0∧∃ p',DsAt { s1 with kept:=res.1,pend:=res.2 } os p' H'∧StF os p p' H H'):=by
    refine znnZ R (λn y0 y1 y5 y6 y7 y8 y9 H'=>∃ j : Nat,j + n=l.length∧y0 = .ptr os 0∧v=y1∧x5=y5∧y6=I k∧y7 = .ptr H2.length 0∧y8=B (decide (x.o.kind=1∨x.o.kind=6∨x.o.kind=7∨x.o.ino ∈ l.take j))∧y9=I j∧H3=H') ?_ l.length ⟨0,by omega,rfl,rfl,rfl,rfl,rfl,by simp,rfl,rfl⟩;rintro n y0 y1 y5 y6 y7 y8 y9 H' T hT ⟨j,hj,rfl,rfl,rfl,rfl,rfl,rfl,rfl,rfl⟩;unfold zhpZ;simp only [hv.len,zbZ,zhfZ,zpZ];rcases Nat.lt_or_ge j l.length with hjl | hjl
    ·have hz:=gEG hjl
     generalize l[j]=z at hz;have jI : (j : Int) < (l.length : Int):=by omega
     have q0 : ∀ HH : AH,ald false 1 HH (.ip (encZ z ++ (l.drop (j + 1)).flatMap encZ))=some (I z):=λ_=>rfl
     have q2 : abI .add (I (j : Int)) (I 1)=some (I ((j + 1 : Nat) : Int)):=by rw [zbdZ (by omega) (by omega)]; congr 3
     have htk : l.take (j + 1)=l.take j ++ [z]:=by rw [List.take_add_one,hz]; rfl
     by_cases hs : x.o.kind=1∨x.o.kind=6∨x.o.kind=7∨x.o.ino ∈ l.take j
     ·simp only [jI,hs,dTt,zbcZ,zcxZ,show ((true == false)=false) from rfl,zgdZ,zbZ,zoZ,if_true,q2]
      refine hT (n - 1) _ _ _ _ _ _ _ _ (by omega) ⟨j + 1,by omega,rfl,rfl,rfl,rfl,rfl, ?_,rfl,rfl⟩;rw [decide_eq_true];rw [htk];rcases hs with q | q | q | q
      ·exact .inl q
      ·exact .inr (.inl q)
      ·exact .inr (.inr (.inl q))
      ·exact .inr (.inr (.inr (List.mem_append_left _ q)))
     ·simp only [jI,hs,dTt,dFf,zbcZ,zcxZ,beq_self_eq_true,zbsZ,zbZ,zeZ,zlZ topx,zdZ,Nat.add_zero,Nat.zero_add,i1,hv.idx (λ_=>rfl) hz rfl,q0,zkvZ,zoZ,if_false,Bool.false_eq_true,q2]
      refine hT (n - 1) _ _ _ _ _ _ _ _ (by omega) ⟨j + 1,by omega,rfl,rfl,rfl,rfl,rfl, ?_,rfl,rfl⟩;rw [htk];refine congrArg (fun t : Bool => (B t : AV)) (decide_eq_decide.2 ?_);simp only [List.mem_append,List.mem_singleton]
      constructor
      ·intro q; exact .inr (.inr (.inr (.inr q)))
      ·rintro (q | q | q | q | q)
       ·exact absurd (.inl q) hs
       ·exact absurd (.inr (.inl q)) hs
       ·exact absurd (.inr (.inr (.inl q))) hs
       ·exact absurd (.inr (.inr (.inr q))) hs
       ·exact q
    ·have jI : ¬ (j : Int) < (l.length : Int):=by omega
     rw [List.take_of_length_le hjl];simp only [jI,dFf,zmZ]
     by_cases hst : zbgmZ l x.o
     ·have hst' : x.o.kind=1∨x.o.kind=6∨x.o.kind=7∨x.o.ino ∈ l:=hst
      obtain ⟨RA,hRA,hpA⟩:=ref_Apply_p (o:=x.o) (bv:=x.bv) h3.kept sm x.h (by have:=hxb.1; omega) (by have:=hxb.2.1; omega) (by have:=hxb.2.2; omega);obtain ⟨a',b',rfl,oa,ob⟩:=hRA.agg2;simp only [hst',dTt,zbcZ,ziZ,zbZ,zeZ,Nat.zero_add,zlZ h3.obj,(rdD _ _ _ _ _ _ _ _ _).2,zlZ topx,rd8];refine bP_of hpA ?_;obtain ⟨h4,f4⟩:=h3.set (s':={ s1 with kept:=zexZ ki.1 ki.2 x.o }) h3.now hRA rfl;simp only [ziZ,zbZ,zeZ,Nat.zero_add,(stD h3.obj oa ob).2,zcaZ];rw [zhdZ]; unfold zeoZ;simp only [zbdZ (a:=k) (b:=1) (by omega) (by omega),zbZ];refine hR (m - 1) _ _ _ _ _ (by omega) ⟨k + 1,_,a',b',lv,by omega,rfl,rfl,by simp,h4,f3.trans f4, ?_, ?_, ?_,lo,li⟩
      ·rw [← hsy]; conv => rhs; unfold syncF
       rw [if_pos hst]
      ·obtain ⟨y,z,w⟩:=hfew
       have e : wts (x.o :: s1.pend.drop (k + 1))=wt x.o + wts (s1.pend.drop (k + 1)):=by simp [wts]
       exact ⟨y + wt x.o,z.step x.o,by omega⟩
      ·exact zcZ ls3 λj hj=>by
        have:=li j hj
        exact f4.same j (by have:=zrZ ls3 j hj; omega) (by omega) (λq=>by have:=hidp j q; omega)
     ·have hst' : ¬ (x.o.kind=1∨x.o.kind=6∨x.o.kind=7∨x.o.ino ∈ l):=hst
      have eA : absl H3 8 1 (zrow [(I 0),(I 0),(I 0),(I 0),(B false),(.lit (.string ⟨#[]⟩)),(.lit (.string ⟨#[]⟩)),nilSl] 1) [(0,8,.agg (opA x.o x.bv))]=some (.sl H3.length 0 1 8 (.ex 1),H3 ++ [some (.cells (encO x))]):=by
       simp [absl,absf,zrow,encO,opA,zbbeZ,ox,zjoZ]
      have g4:=Grew.app H3 [some (.cells (encO x))];have x1' : zdeZ (H3 ++ [some (AObj.cells (encO x))]) 8 (.sl H3.length 0 1 8 (.ex 1))=some (encO x,1):=znZ (by simp [zaZ,encO,opA]);obtain ⟨r,H5,a1,a2,a3,a4,a5,a6⟩:=zjgZ (bytes:=96) (g4.slice ls3) lo x1' (by omega);simp only [hst',dFf,zmZ,zlZ topx,rd8,zbZ,eA,zboZ,a1];rw [zhdZ]; unfold zeoZ;simp only [zbdZ (a:=k) (b:=1) (by omega) (by omega),zbZ];have h4:=h3.grew g4;have f4:=f3.grew g4;have lt4 : ∀ j,j < H1.length→j ∉ idS x5:=λj hj q=>by have:=li j q; omega
      have len4 : (H3 ++ [some (AObj.cells (encO x))]).length=H3.length + 1:=by simp
      have k5 : ∀ j,j < H1.length→H5[j]? = (H3 ++ [some (AObj.cells (encO x))])[j]?:=λj hj=>a5 j (by omega) (lt4 j hj)
      refine hR (m - 1) _ _ _ _ _ (by omega) ⟨k + 1,ki,c',d',lv ++ [x],by omega,rfl,rfl,by simp, ?_, ?_, ?_, ?_, ?_,a2, ?_⟩
      ·exact ⟨by rw [k5 os hos]; exact h4.obj,h4.now,h4.kept,h4.pm,zcZ h4.ps λj hj=>k5 j (hidp j hj),h4.po,h4.pi⟩
      ·exact ⟨by omega,λj hj hne hjp=>by rw [k5 j hj]; exact f4.same j hj hne hjp,λ_ q=>.inl q⟩
      ·rw [← hsy]; conv => rhs; unfold syncF
       rw [if_neg hst];simp
      ·obtain ⟨y,z,w⟩:=hfew
       have e : wts (x.o :: s1.pend.drop (k + 1))=wt x.o + wts (s1.pend.drop (k + 1)):=by simp [wts]
       exact ⟨y,z,by rw [List.map_append]; simp only [List.map_cons,List.map_nil,wts_snoc]; omega⟩
      ·simpa using a3
      ·intro j hj
       rcases a6 j hj with q | q
       ·exact li j q
       ·omega
   by_cases c1 : x.o.kind=1
   ·simp only [c1,dTt,show ((true == false)=false) from rfl,zgdZ,zbZ,zoZ,if_true,zcxZ]
    simp only [c1,true_or,dTt] at inner;exact inner
   ·by_cases c6 : x.o.kind=6
    ·have n1 : ¬ (6 : Int)=1:=by omega
     simp only [c6,n1,dTt,dFf,show ((true == false)=false) from rfl,beq_self_eq_true,zbsZ,zgdZ,zbZ,zeZ,Nat.zero_add,zlZ topx,zdZ,i0,zkvZ,zoZ,if_true,if_false,Bool.false_eq_true,zcxZ];simp only [c6,true_or,or_true,dTt] at inner;exact inner
    ·simp only [c1,c6,dFf,beq_self_eq_true,zbsZ,zbZ,zeZ,Nat.zero_add,zlZ topx,zdZ,i0,zkvZ,zoZ,if_false,Bool.false_eq_true,zcxZ]
     simp only [c1,c6,false_or] at inner;exact inner
  ·have kI : ¬ (k : Int) < (s1.pend.length : Int):=by omega
   have hdrop : s1.pend.drop k=[]:=List.drop_of_length_le hge;rw [hdrop] at hsy hfew;unfold syncF at hsy;rw [← hsy];have e7 : ast 1 H2 (.ptr os 4) x5=some (H2.set os (some (.cells [a,b,c',d',x5,I s1.cap,I s1.made,I s1.armed,B s1.off]))):=fld h2.obj (by simp) (zbiZ lo);have hnx : os ∉ idS x5:=λq=>by have:=li os q; omega
   simp only [kI,dFf,zmZ,ziZ,zbZ,zeZ,Nat.zero_add,e7,zcaZ];refine ⟨by trivial,x5,⟨a,b,c',d',lv,gSS h2.lt,h2.now,h2.kept,rfl,zcZ ls λj hj=>gSN (λe=>hnx (by rw [e]; exact hj)),lo,hnx⟩, ?_⟩;refine ⟨by rw [List.length_set]; omega,λj hj hne hjp=>?_,λj hj=>.inr (by have:=li j hj; omega)⟩;rw [gSN (Ne.symm hne),f2.same j (by omega) hne hjp,f1.same j hj hne hjp])
theorem RCopy_p {ns : List Nm} {ds : List Nd} {v : AV} (hv : ImV ns ds v) (hb : Sm ns ds) : ∃ R,ImV ns ds R∧BPure Tryz.prog 140 [v] R:=by
 have hids:=hv.noIds;obtain ⟨a,b,dv,rfl,sa,sb,rfl⟩:=hv;have b1:=hb.1;have b2:=hb.2.1;rw [List.length_map] at b2;obtain ⟨r,X,⟨a',b',ew,rfl,hew,-,ow⟩,hc⟩:=CopyImage_c (H:=[]) sa sb (by omega) b2 (λd hd=>hb.2.2.2 d.nd (List.mem_map_of_mem hd));obtain ⟨R,hR,fR⟩:=ow.lend;rw [hew] at hR;exact BPure.FZ hids ⟨_,X,⟨R,fR,hR⟩,hc⟩
theorem keepF_past {bits : List Bool} : ∀ {r : List OpM} {i : Nat} {x : Img},bits.length≤i→keepF bits i r x=x
 | [],i,x,h => rfl
 | o :: r,i,x,h => by
  unfold keepF;have : bitAt bits i=false:=by unfold bitAt; rw [List.getElem?_eq_none h]; rfl
  rw [if_neg (by rw [this]; simp)];exact keepF_past (by omega)
theorem RRestart_c {N : Nat} {s : StS} {os : Nat} {p v : AV} {H : AH} (h : DsAt s os p H) (hw : SW N s) (hN : N≤900000) {l : List Bool} (hv : SV encT 1 l v) (hl : l.length≤1000000) :
  ∃ r H',(r = .tup []∧DsAt (restS s l) os nilSl H'∧StF os p nilSl H H')∧BCall Tryz.prog 84 [.ptr os 0,v] H r H':=zqaZ (by
 unfold zknZ;obtain ⟨a,b,c,d,pv,h1⟩:=h;have hpl:=hw.plen;have hob:=hw.ob;have hpn : pv.length=s.pend.length:=by rw [← h1.pm,List.length_map]
 have alv : alnS p=some (I (s.pend.length : Nat)):=by rw [← hpn]; exact zhyZ h1.ps
 unfold restS;generalize hres : keepF l 0 s.pend s.kept=res;have hos : os < H.length:=h1.lt;refine zlxZ (λm x0 x1 x4 H'=>∃ (k : Nat) (ki : Img) (c' d' : AV),k + m=s.pend.length∧x0 = .ptr os 0∧v=x1∧x4=I k∧DsC { s with kept:=ki } os a b c' d' p pv H'∧StF os p p H H'∧keepF l k (s.pend.drop k) ki=res∧(∃ a,Few1 a ki∧a + wts (s.pend.drop k)≤N)) ?_ s.pend.length ⟨0,s.kept,c,d,by omega,rfl,rfl,rfl,h1,.refl _ _ _,hres,by simp only [List.drop_zero]; exact hw.kept⟩;rintro m x0 x1 x4 H2 R hR ⟨k,ki,c',d',hk,rfl,rfl,rfl,h2,f2,hsy,hfew⟩;unfold zgrZ;have sm : Sm ki.1 ki.2:=by obtain ⟨x,y,z⟩:=hfew; exact y.sm (by omega)
 -- the end
 have fin : res=ki→bO (zgZ (.ptr os 0)) (λv30=>bO (zhZ 2 v30) λv31=>bO (ald true 2 H2 v31) λv32=>bC (BCall Tryz.prog 140 [v32] H2) λv33 H34=>bO (zgZ (.ptr os 0)) λv35=>bO (zhZ 0 v35) λv36=>bS (ast 2 H34 v36 v33) λH37=>
   bO (zgZ (.ptr os 0)) λv38=>bO (zhZ 4 v38) λv39=>bS (ast 1 H37 v39 nilSl) λH40=>bO (zgZ (.ptr os 0)) λv41=>bO (zhZ 7 v41) λv42=>bS (ast 1 H40 v42 (I (-1))) λH43=>bO (zgZ (.ptr os 0)) λv44=>bO (zhZ 8 v44) λv45=>bS (ast 1 H43 v45 (B false)) λH46=>
   AV.tup [] = .tup []∧DsAt { s with kept:=res,now:=res,pend:=[],off:=false,armed:=-1 } os nilSl H46∧StF os p nilSl H H46):=by
  rintro rfl;obtain ⟨RC,hRC,hpC⟩:=RCopy_p h2.kept sm;obtain ⟨a',b',rfl,oa,ob⟩:=hRC.agg2;have l2:=h2.lt;simp only [ziZ,zbZ,zeZ,Nat.zero_add,zlZ h2.obj,(rdD _ _ _ _ _ _ _ _ _).2];refine bC_of (hpC H2) ?_;have s1:=(stD h2.obj oa ob).1;have c1 : (H2.set os (some (AObj.cells [a',b',c',d',p,I s.cap,I s.made,I s.armed,B s.off])))[os]? = some (some (.cells [a',b',c',d',p,I s.cap,I s.made,I s.armed,B s.off])):=gSS l2;have s2:=fld c1 (k:=4) (x:=nilSl) (by simp) rfl;have c2 : (H2.set os (some (AObj.cells [a',b',c',d',nilSl,I s.cap,I s.made,I s.armed,B s.off])))[os]? = some (some (.cells [a',b',c',d',nilSl,I s.cap,I s.made,I s.armed,B s.off])):=gSS l2;have s3:=fld c2 (k:=7) (x:=I (-1)) (by simp) rfl;have c3 : (H2.set os (some (AObj.cells [a',b',c',d',nilSl,I s.cap,I s.made,I (-1),B s.off])))[os]? = some (some (.cells [a',b',c',d',nilSl,I s.cap,I s.made,I (-1),B s.off])):=gSS l2;have s4:=fld c3 (k:=8) (x:=B false) (by simp) rfl;simp only [List.set_set,List.set_cons_succ,List.set_cons_zero] at s2 s3 s4;simp only [ziZ,zbZ,zeZ,Nat.zero_add,s1,zcaZ,s2,s3,s4];refine ⟨by trivial,⟨a',b',c',d',[],gSS l2,hRC,h2.kept,rfl,rfl,rfl,by simp [idS]⟩, ?_⟩;refine ⟨by rw [List.length_set]; exact f2.len,λj hj hne hjp=>?_,λj hj=>by simp [idS] at hj⟩;rw [gSN (Ne.symm hne),f2.same j hj hne hjp]
 simp only [ziZ,zbZ,zeZ,Nat.zero_add,zlZ h2.obj,zdZ,gCS,gCZ,alv,zhfZ,zcxZ];simp only [ziZ,zbZ,zeZ,Nat.zero_add] at fin;rcases Nat.lt_or_ge k s.pend.length with hlt | hge
 ·have hx:=gEG (show k < pv.length by omega)
  generalize pv[k]'(by omega)=x at hx;have hxo : s.pend[k]? = some x.o:=by rw [← h1.pm,List.getElem?_map,hx]; rfl
  have hdrop : s.pend.drop k=x.o :: s.pend.drop (k + 1):=zlrZ hxo;have hxb:=hob x.o (List.mem_of_getElem? hxo);have kI : (k : Int) < (s.pend.length : Int):=by omega
  obtain ⟨pp,q1,q2⟩:=op_at h2.ps hx;rcases Nat.lt_or_ge k l.length with hkl | hkl
  ·rw [hdrop] at hsy hfew
   have hb:=gEG hkl;generalize l[k]=bt at hb;have hbt : bitAt l k=bt:=by unfold bitAt; rw [hb]; rfl
   have kl : (k : Int) < (l.length : Int):=by omega
   have q0 : ∀ HH : AH,ald false 1 HH (.ip (encT bt ++ (l.drop (k + 1)).flatMap encT))=some (B bt):=λ_=>rfl
   simp only [kI,dTt,beq_self_eq_true,zbsZ,zbZ,hv.len,zhfZ,kl,zoZ,if_true,zpZ,zbcZ,hv.idx encT_len hb rfl,q0];cases bt with
   | true =>
    obtain ⟨RA,hRA,hpA⟩:=ref_Apply_p (o:=x.o) (bv:=x.bv) h2.kept sm x.h (by have:=hxb.1; omega) (by have:=hxb.2.1; omega) (by have:=hxb.2.2; omega);obtain ⟨a',b',rfl,oa,ob⟩:=hRA.agg2;have q2' : ald true 8 H2 pp=some (.agg (opA x.o x.bv)):=q2;simp only [zbcZ,ziZ,zbZ,zeZ,Nat.zero_add,zlZ h2.obj,(rdD _ _ _ _ _ _ _ _ _).2,zdZ,gCS,gCZ,q1,q2'];refine bP_of hpA ?_;obtain ⟨h4,f4⟩:=h2.set (s':={ s with kept:=zexZ ki.1 ki.2 x.o }) h2.now hRA rfl;simp only [ziZ,zbZ,zeZ,Nat.zero_add,(stD h2.obj oa ob).2,zcaZ];rw [zggZ]; unfold zdzZ;simp only [zbdZ (a:=k) (b:=1) (by omega) (by omega),zbZ];refine hR (m - 1) _ _ _ _ (by omega) ⟨k + 1,_,a',b',by omega,rfl,rfl,by simp,h4,f2.trans f4, ?_, ?_⟩
    ·rw [← hsy]; conv => rhs; unfold keepF
     rw [if_pos hbt]
    ·obtain ⟨y,z,w⟩:=hfew
     have e : wts (x.o :: s.pend.drop (k + 1))=wt x.o + wts (s.pend.drop (k + 1)):=by simp [wts]
     exact ⟨y + wt x.o,z.step x.o,by omega⟩
   | false =>
    simp only [zmZ];rw [zggZ]; unfold zdzZ;simp only [zbdZ (a:=k) (b:=1) (by omega) (by omega),zbZ];refine hR (m - 1) _ _ _ _ (by omega) ⟨k + 1,ki,c',d',by omega,rfl,rfl,by simp,h2,f2, ?_, ?_⟩
    ·rw [← hsy]; conv => rhs; unfold keepF
     rw [if_neg (by rw [hbt]; simp)]
    ·obtain ⟨y,z,w⟩:=hfew
     have e : wts (x.o :: s.pend.drop (k + 1))=wt x.o + wts (s.pend.drop (k + 1)):=by simp [wts]
     exact ⟨y,z,by omega⟩
  ·have kl : ¬ (k : Int) < (l.length : Int):=by omega
   rw [keepF_past hkl] at hsy;simp only [kI,dTt,beq_self_eq_true,zbsZ,zbZ,hv.len,zhfZ,kl,dFf,zoZ,if_true,zpZ,zmZ]
   have:=fin hsy.symm
   simp only [zlZ h2.obj,zbZ] at this ⊢;exact this
 ·have kI : ¬ (k : Int) < (s.pend.length : Int):=by omega
  have hdrop : s.pend.drop k=[]:=List.drop_of_length_le hge;rw [hdrop] at hsy;unfold keepF at hsy;simp only [kI,dFf,show ((false == true)=false) from rfl,zgdZ,zbZ,zoZ,if_false,Bool.false_eq_true,zpZ,zmZ]
  have:=fin hsy.symm
  simp only [zlZ h2.obj,zbZ] at this ⊢;exact this)
def nameT : List (List UInt8):=[[97],[98],[99],[100,115,116],[109,97,112],[109,97,112,46,110,101,119],[120,45,49],[100,105,115,107],[],[65],[45,97],[97,47,98],[97,98,99,100,101,102,103,104,105,106,107,108,109,110,111,112,113,114,115,116],[97,98,99,100,101,102,103,104,105,106,107,108,109,110,111,112,113,114,115,116,117],[97,98,99,100,101,102,103,104,105,106,107,108,109,110,111,112],[97,98,99,100,101,102,103,104,105,106,107,108,109,110,111,112,113],[46],[48]]
def nameK (k : UInt8) : List UInt8:=nameT.getD (k.toNat % 18) []
theorem Name_p (k : UInt8) : BPure Tryz.prog 18 [.lit (.int .u8 k.toNat)] (S (bstr (nameK k))):=BPure.val rfl rfl (salvorkeep_Name_ok (by
 unfold zjrZ;have e1 : absl [] 1 18 (zrow [(.lit (.string ⟨#[]⟩))] 18) [(0,1,(.lit (.string ⟨#[97]⟩))),(1,1,(.lit (.string ⟨#[98]⟩))),(2,1,(.lit (.string ⟨#[99]⟩))),(3,1,(.lit (.string ⟨#[100,115,116]⟩))),(4,1,(.lit (.string ⟨#[109,97,112]⟩))),(5,1,(.lit (.string ⟨#[109,97,112,46,110,101,119]⟩))),(6,1,(.lit (.string ⟨#[120,45,49]⟩))),(7,1,(.lit (.string ⟨#[100,105,115,107]⟩))),(8,1,(.lit (.string ⟨#[]⟩))),(9,1,(.lit (.string ⟨#[65]⟩))),(10,1,(.lit (.string ⟨#[45,97]⟩))),(11,1,(.lit (.string ⟨#[97,47,98]⟩))),(12,1,(.lit (.string ⟨#[97,98,99,100,101,102,103,104,105,106,107,108,109,110,111,112,113,114,115,116]⟩))),(13,1,(.lit (.string ⟨#[97,98,99,100,101,102,103,104,105,106,107,108,109,110,111,112,113,114,115,116,117]⟩))),(14,1,(.lit (.string ⟨#[97,98,99,100,101,102,103,104,105,106,107,108,109,110,111,112]⟩))),(15,1,(.lit (.string ⟨#[97,98,99,100,101,102,103,104,105,106,107,108,109,110,111,112,113]⟩))),(16,1,(.lit (.string ⟨#[46]⟩))),(17,1,(.lit (.string ⟨#[48]⟩)))]=some (.sl 0 0 18 1 (.ex 18),[some (.cells (nameT.map λs=>S (bstr s)))]):=by rfl
 have hm : k.toNat % 18 < 18:=Nat.mod_lt _ (by omega)
 have e2 : abI .rem (.lit (.int .u8 k.toNat)) (.lit (.int .u8 18))=some (.lit (.int .u8 ((k.toNat % 18 : Nat) : Int))):=by
  simp [abI,aint2,Int.tmod_eq_emod_of_nonneg]
 rw [e1,e2];simp only [zboZ,zbZ]
 have e3 : aixS 1 (.sl 0 0 18 1 (.ex 18)) (.lit (.int .u8 ((k.toNat % 18 : Nat) : Int)))=some (.ptr 0 (k.toNat % 18)):=by
  simp [aixS,aint];omega
 have e4 : ald false 1 [some (.cells (nameT.map λs=>S (bstr s)))] (.ptr 0 (k.toNat % 18))=some (S (bstr (nameK k))):=by
  rw [zlZ (cs:=nameT.map λs=>S (bstr s)) rfl]
  have : nameT[k.toNat % 18]? = some (nameK k):=by
   unfold nameK;rw [List.getD_eq_getElem?_getD,gEG (show k.toNat % 18 < nameT.length by simp [nameT]; omega)];rfl
  simp [zdZ,this]
 rw [e3];simp only [zbZ,e4]))
structure Stp where
 kind : UInt8
 name : UInt8
 to : UInt8
 ino : Int
 pos : Int
 n : Int
 b : List UInt8
 keep : Bool
 bits : List Bool
 inos : List Int
structure StpV where
 s : Stp
 bv : AV
 tv : AV
 iv : AV
 hb : SV encU 1 s.b bv
 ht : SV encT 1 s.bits tv
 hi : SV encZ 1 s.inos iv
def encP (x : StpV) : List AV:=[.lit (.int .u8 x.s.kind.toNat),.lit (.int .u8 x.s.name.toNat),.lit (.int .u8 x.s.to.toNat),I x.s.ino,I x.s.pos,I x.s.n,x.bv,B x.s.keep,x.tv,x.iv]
theorem encP_len (x : StpV) : (encP x).length=10:=rfl
theorem noIdss_encP (x : StpV) : zdbZ (encP x)=true:=by simp [encP,zdbZ,noIds,x.hb.1,x.ht.1,x.hi.1]
def wideS (x : Stp) : Prop:=(60 < x.b.length∧x.b.length ≠ 4097)∨(200 < x.n∧x.n≤32768)∨200 < x.bits.length∨30 < x.inos.length
instance (x : Stp) : Decidable (wideS x):=by unfold wideS; infer_instance
def fewS (l : List StpV) (most : Int) : Prop:=(l.length : Int)≤most∧∀ x ∈ l,¬ wideS x.s
instance (l : List StpV) (most : Int) : Decidable (fewS l most):=by unfold fewS; infer_instance
theorem anewP (H : AH) : anew H (.agg [(.lit (.int .u8 0)),(.lit (.int .u8 0)),(.lit (.int .u8 0)),(I 0),(I 0),(I 0),nilSl,(B false),nilSl,nilSl])=some (.ptr H.length 0,H ++ [some (.cells [.lit (.int .u8 0),.lit (.int .u8 0),.lit (.int .u8 0),I 0,I 0,I 0,nilSl,B false,nilSl,nilSl])]):=by simp
theorem astP (H : AH) (x : StpV) : ast 10 (H ++ [some (.cells [.lit (.int .u8 0),.lit (.int .u8 0),.lit (.int .u8 0),I 0,I 0,I 0,nilSl,B false,nilSl,nilSl])]) (.ptr H.length 0) (.agg (encP x))=some (H ++ [some (.cells (encP x))]):=by
 have o1:=SV.oneA x.hb;have o2:=SV.oneA x.ht;have o3:=SV.oneA x.hi;rw [zckZ (n:=10) (xs:=encP x) (cs:=[.lit (.int .u8 0),.lit (.int .u8 0),.lit (.int .u8 0),I 0,I 0,I 0,nilSl,B false,nilSl,nilSl]) (by simp [encP,o1,o2,o3]) (by simp) rfl (by simp)];simp [zjoZ,encP]
theorem rdP (x : StpV) (t : List AV) (H : AH) : ald true 10 H (.ip (encP x ++ t))=some (.agg (encP x)):=rfl
theorem lawFew_p {l : List StpV} {v : AV} (hv : SV encP 10 l v) (hl : l.length≤9223372036854775807) (most : Int) : BPure Tryz.prog 10 [v,I most] (B (decide (fewS l most))):=BPure.val (by simp [zdbZ,noIds,hv.1]) rfl (salvorlaw13_Few_ok (by
 unfold zbbzZ;simp only [hv.len,zbZ,zwbZ,zpZ]
 by_cases c0 : most < (l.length : Int)
 ·simp only [c0,dTt,zbcZ]
  rw [decide_eq_false (λq=>by have:=q.1; omega)]
 ·simp only [c0,dFf,zmZ]
  refine zxeZ (λm x0 x5 H'=>∃ j : Nat,j + m=l.length∧v=x0∧x5=I j∧∀ (i : Nat) y,i < j→l[i]? = some y→¬ wideS y.s) ?_ l.length ⟨0,by omega,rfl,rfl,by omega⟩;rintro m x0 x5 H2 R hR ⟨j,hj,rfl,rfl,hall⟩;unfold zrfZ;simp only [hv.len,zbZ,zhfZ,zpZ];rcases Nat.lt_or_ge j l.length with hlt | hge
  ·have hx:=gEG hlt
   generalize l[j]=x at hx;have jI : (j : Int) < (l.length : Int):=by omega
   have q2 : abI .add (I (j : Int)) (I 1)=some (I ((j + 1 : Nat) : Int)):=by rw [zbdZ (by omega) (by omega)]; congr 3
   have i5 : (encP x)[5]? = some (I x.s.n):=rfl;have i6 : (encP x)[6]? = some x.bv:=rfl;have i8 : (encP x)[8]? = some x.tv:=rfl;have i9 : (encP x)[9]? = some x.iv:=rfl;simp only [jI,dTt,zbcZ,hv.idx encP_len hx rfl,zbZ,rdP,anewP,zboZ,astP,zcaZ,zeZ,Nat.zero_add,zlZ top1,zdZ,i6,x.hb.len,zwbZ,zcxZ]
   have no : wideS x.s→B false=B (decide (fewS l most)):=λh=>by
    rw [decide_eq_false (λq=>q.2 x (List.mem_of_getElem? hx) h)]
   have yes : ¬ wideS x.s→∀ H',R [v,I ((j + 1 : Nat) : Int)] H':=λh H'=>hR (m - 1) _ _ _ (by omega) ⟨j + 1,by omega,rfl,rfl,λi y hi hy=>by
    by_cases e : i=j
    ·subst e; rw [hx] at hy; injection hy with hy; subst hy; exact h
    ·exact hall i y (by omega) hy⟩
   -- bytes
   have rest : ¬ (60 < x.s.b.length∧x.s.b.length ≠ 4097)→¬ (200 < x.s.n∧x.s.n≤32768) →
     bO (some (B false)) (λv37=>bG v37 false λw38=>gO w38 (zhZ 8 (.ptr H2.length 0)) λv39=>bG v37 false λw40=>gO w40 (ald false 1 (H2 ++ [some (AObj.cells (encP x))]) v39) λv41=>bG v37 false λw42=>gO w42 (alnS v41) λv43=>bG v37 false λw44=>gO w44 (abI .gtr v43 (I 200)) λv45=>
     bO (apick v37 (B true) v45) λv46=>bG v46 false λw47=>gO w47 (zhZ 9 (.ptr H2.length 0)) λv48=>bG v46 false λw49=>gO w49 (ald false 1 (H2 ++ [some (AObj.cells (encP x))]) v48) λv50=>bG v46 false λw51=>gO w51 (alnS v50) λv52=>bG v46 false λw53=>gO w53 (abI .gtr v52 (I 30)) λv54=>
     bO (apick v46 (B true) v54) λv55=>bB v55 λt56=>bI t56 (B false=B (decide (fewS l most))) (bO (abI .add (I j) (I 1)) λv57=>R [v,v57] (H2 ++ [some (AObj.cells (encP x))]))):=by
    intro h1 h2
    by_cases h3 : (200 : Int) < (x.s.bits.length : Int)
    ·simp only [zbZ,zcxZ,beq_self_eq_true,zbsZ,zeZ,Nat.zero_add,zlZ top1,zdZ,i8,x.ht.len,zwbZ,h3,dTt,zoZ,if_false,Bool.false_eq_true,show ((true == false)=false) from rfl,zgdZ,if_true,zpZ,zbcZ]
     exact no (.inr (.inr (.inl (by omega))))
    ·by_cases h4 : (30 : Int) < (x.s.inos.length : Int)
     ·simp only [zbZ,zcxZ,beq_self_eq_true,zbsZ,zeZ,Nat.zero_add,zlZ top1,zdZ,i8,x.ht.len,zwbZ,h3,dFf,zoZ,if_false,Bool.false_eq_true,i9,x.hi.len,h4,dTt,zpZ,zbcZ]
      exact no (.inr (.inr (.inr (by omega))))
     ·simp only [zbZ,zcxZ,beq_self_eq_true,zbsZ,zeZ,Nat.zero_add,zlZ top1,zdZ,i8,x.ht.len,zwbZ,h3,dFf,zoZ,if_false,Bool.false_eq_true,i9,x.hi.len,h4,zpZ,zmZ,q2]
      exact yes (by rintro (q | q | q | q); exact h1 q; exact h2 q; omega; omega) _
   -- numbers
   have mid : ¬ (60 < x.s.b.length∧x.s.b.length ≠ 4097) →
     bO (some (B false)) (λv20=>bG v20 false λw21=>gO w21 (zhZ 5 (.ptr H2.length 0)) λv22=>bG v20 false λw23=>gO w23 (ald false 1 (H2 ++ [some (AObj.cells (encP x))]) v22) λv24=>bG v20 false λw25=>gO w25 (abI .gtr v24 (I 200)) λv26=>bG v20 false λw27=>gO w27 (some v26) λv28=>bG v28 true λw29=>gO w29 (zhZ 5 (.ptr H2.length 0)) λv30=>bG v28 true λw31=>gO w31 (ald false 1 (H2 ++ [some (AObj.cells (encP x))]) v30) λv32=>bG v28 true λw33=>gO w33 (abI .leq v32 (I 32768)) λv34=>bG v20 false λw35=>gO w35 (apick v28 v34 (B false)) λv36=>bO (apick v20 (B true) v36) λv37=>
     bG v37 false λw38=>gO w38 (zhZ 8 (.ptr H2.length 0)) λv39=>bG v37 false λw40=>gO w40 (ald false 1 (H2 ++ [some (AObj.cells (encP x))]) v39) λv41=>bG v37 false λw42=>gO w42 (alnS v41) λv43=>bG v37 false λw44=>gO w44 (abI .gtr v43 (I 200)) λv45=>
     bO (apick v37 (B true) v45) λv46=>bG v46 false λw47=>gO w47 (zhZ 9 (.ptr H2.length 0)) λv48=>bG v46 false λw49=>gO w49 (ald false 1 (H2 ++ [some (AObj.cells (encP x))]) v48) λv50=>bG v46 false λw51=>gO w51 (alnS v50) λv52=>bG v46 false λw53=>gO w53 (abI .gtr v52 (I 30)) λv54=>
     bO (apick v46 (B true) v54) λv55=>bB v55 λt56=>bI t56 (B false=B (decide (fewS l most))) (bO (abI .add (I j) (I 1)) λv57=>R [v,v57] (H2 ++ [some (AObj.cells (encP x))]))):=by
    intro h1
    by_cases h2 : 200 < x.s.n
    ·by_cases h3 : x.s.n≤32768
     ·simp only [zbZ,zcxZ,beq_self_eq_true,zbsZ,zeZ,Nat.zero_add,zlZ top1,zdZ,i5,zwbZ,h2,dTt,abI_leq,h3,zoZ,if_true,if_false,Bool.false_eq_true,show ((true == false)=false) from rfl,zgdZ,zpZ,zbcZ]
      exact no (.inr (.inl ⟨h2,h3⟩))
     ·simp only [zbZ,zcxZ,beq_self_eq_true,zbsZ,zeZ,Nat.zero_add,zlZ top1,zdZ,i5,zwbZ,h2,dTt,abI_leq,h3,dFf,zoZ,if_true,if_false,Bool.false_eq_true]
      have:=rest h1 (λq=>h3 q.2)
      simp only [zbZ,zcxZ,beq_self_eq_true,zbsZ,zeZ,Nat.zero_add,zlZ top1,zdZ] at this ⊢;exact this
    ·simp only [zbZ,zcxZ,beq_self_eq_true,zbsZ,zeZ,Nat.zero_add,zlZ top1,zdZ,i5,zwbZ,h2,dFf,show ((false == true)=false) from rfl,zgdZ,zoZ,if_false,Bool.false_eq_true]
     have:=rest h1 (λq=>h2 q.1)
     simp only [zbZ,zcxZ,beq_self_eq_true,zbsZ,zeZ,Nat.zero_add,zlZ top1,zdZ] at this ⊢;exact this
   by_cases h1 : (60 : Int) < (x.s.b.length : Int)
   ·by_cases h2 : (x.s.b.length : Int)=4097
    ·have e2 : decide ((x.s.b.length : Int) ≠ 4097)=false:=by simp [h2]
     have:=mid (λq=>by omega)
     simp only [h1,dTt,beq_self_eq_true,zbsZ,zbZ,zeZ,Nat.zero_add,zlZ top1,zdZ,i6,x.hb.len,zkjZ,e2,zoZ,if_true,zcxZ] at this ⊢;exact this
    ·simp only [h1,dTt,beq_self_eq_true,zbsZ,zbZ,zeZ,Nat.zero_add,zlZ top1,zdZ,i6,x.hb.len,zkjZ,h2,ne_eq,not_false_eq_true,zoZ,if_true,zcxZ,bG_undef,show ((true == false)=false) from rfl,zgdZ,zpZ,zbcZ]
     exact no (.inl ⟨by omega,by omega⟩)
   ·simp only [h1,dFf,show ((false == true)=false) from rfl,zgdZ,zbZ,zoZ,if_false,Bool.false_eq_true]
    have:=mid (λq=>by omega)
    simp only [zbZ,zcxZ,beq_self_eq_true,zbsZ,zeZ,Nat.zero_add] at this ⊢;exact this
  ·have jI : ¬ (j : Int) < (l.length : Int):=by omega
   simp only [jI,dFf,zmZ];rw [decide_eq_true];refine ⟨by omega,λx hx=>?_⟩;obtain ⟨i,hi⟩:=List.mem_iff_getElem?.1 hx;exact hall i x (by have:=(gSI.1 hi).1; omega) hi))
def zyiZ (s : StS) (x : Stp) : StS :=
 if x.kind.toNat % 16=0∨x.kind.toNat % 16=1 then (openS s (nameK x.name) (decide (x.kind.toNat % 16=0))).2
 else if x.kind.toNat % 16=2∨x.kind.toNat % 16=3 then (zbgkZ s x.ino x.pos x.b).2
 else if x.kind.toNat % 16=5 then (truncS s x.ino x.n).2
 else if x.kind.toNat % 16=6 then (allocS s x.ino x.pos x.n x.keep).2
 else if x.kind.toNat % 16=7 then (punchS s x.ino x.pos x.n).2
 else if x.kind.toNat % 16=8 then (renS s (nameK x.name) (nameK x.to)).2
 else if x.kind.toNat % 16=9 then (remS s (nameK x.name)).2
 else if x.kind.toNat % 16=10 then (syncS s x.inos).2
 else if x.kind.toNat % 16=11 then (syncS s []).2
 else if x.kind.toNat % 16=12 then (syncS s [x.ino]).2
 else if x.kind.toNat % 16=13 then armS s x.n
 else if x.kind.toNat % 16=14 then restS s x.bits
 else s
theorem writeS_w2 {N : Nat} {s : StS} (h : SW N s) (ino pos : Int) {b : List UInt8} (hb : b.length≤60∨b.length=4097) : SW (N + 4099) (zbgkZ s ino pos b).2:=by
 rcases hb with hb | hb
 ·exact (writeS_w h ino pos b).mono (by omega)
 ·unfold zbgkZ
  split
  ·exact h.mono (by omega)
  ·rw [if_pos (by unfold fitsW; omega)]
   exact h.mono (by omega)
theorem doStep_w {N : Nat} {s : StS} (h : SW N s) {x : Stp} (hx : ¬ wideS x) (hn : x.n≤9223372036854775807) : SW (N + 4099) (zyiZ s x):=by
 unfold wideS at hx;unfold zyiZ
 by_cases k0 : x.kind.toNat % 16=0∨x.kind.toNat % 16=1
 ·rw [if_pos k0]; exact (openS_w h _ _).mono (by omega)
 rw [if_neg k0]
 by_cases k1 : x.kind.toNat % 16=2∨x.kind.toNat % 16=3
 ·rw [if_pos k1]; exact writeS_w2 h _ _ (by omega)
 rw [if_neg k1]
 by_cases k2 : x.kind.toNat % 16=5
 ·rw [if_pos k2]; exact (truncS_w h _ _).mono (by omega)
 rw [if_neg k2]
 by_cases k3 : x.kind.toNat % 16=6
 ·rw [if_pos k3]; exact allocS_w h _ _ _ _
 rw [if_neg k3]
 by_cases k4 : x.kind.toNat % 16=7
 ·rw [if_pos k4]; exact (punchS_w h _ _ _).mono (by omega)
 rw [if_neg k4]
 by_cases k5 : x.kind.toNat % 16=8
 ·rw [if_pos k5]; exact (renS_w h _ _).mono (by omega)
 rw [if_neg k5]
 by_cases k6 : x.kind.toNat % 16=9
 ·rw [if_pos k6]; exact (remS_w h _).mono (by omega)
 rw [if_neg k6]
 by_cases k7 : x.kind.toNat % 16=10
 ·rw [if_pos k7]; exact (syncS_w h _).mono (by omega)
 rw [if_neg k7]
 by_cases k8 : x.kind.toNat % 16=11
 ·rw [if_pos k8]; exact (syncS_w h _).mono (by omega)
 rw [if_neg k8]
 by_cases k9 : x.kind.toNat % 16=12
 ·rw [if_pos k9]; exact (syncS_w h _).mono (by omega)
 rw [if_neg k9]
 by_cases k10 : x.kind.toNat % 16=13
 ·rw [if_pos k10]; exact (armS_w h hn).mono (by omega)
 rw [if_neg k10]
 by_cases k11 : x.kind.toNat % 16=14
 ·rw [if_pos k11]; exact (restS_w h _).mono (by omega)
 rw [if_neg k11];exact h.mono (by omega)
theorem nameK_len (k : UInt8) : (nameK k).length≤100:=by
 have hm : k.toNat % 18 < 18:=Nat.mod_lt _ (by omega);have : ∀ i,i < 18→(nameT.getD i []).length≤100:=by decide
 exact this _ hm
theorem abI_eq8 {a b : Int} : abI .eql (.lit (.int .u8 a)) (.lit (.int .u8 b))=some (B (decide (a=b))):=zkvZ
theorem cast0 : ((0 : Nat) : Int)=0:=rfl
theorem cast1 : ((1 : Nat) : Int)=1:=rfl
theorem pkJ : (∀ (x : AV) (K : AV→Prop),bO (some x) K=K x)∧(∀ (b : Bool) (K : Bool→Prop),bB (.lit (.bool b)) K=K b)∧(∀ (a b : Prop),bI true a b=a)∧(∀ (a b : Prop),bI false a b=b)∧(∀ h : Decidable True,@decide True h=true)∧(∀ h : Decidable False,@decide False h=false)∧(∀ a b : Int,abI .eql (.lit (.int .u8 a)) (.lit (.int .u8 b))=some (B (decide (a=b))))∧((0 : Nat) : Int)=0∧((1 : Nat) : Int)=1 :=
 ⟨λ_ _=>zbZ,λ_ _=>zpZ,λ_ _=>zbcZ,λ_ _=>zmZ,λ_=>decide_eq_true trivial,λ_=>decide_eq_false id,λ_ _=>zkvZ,rfl,rfl⟩
theorem absf_onez {x : Int} : absf 1 1 (zrow [(I 0)] 1) [(0,1,I x)]=some (.imm [I x] 1 1):=by simp [absf,zrow,zjoZ]
theorem Do_c {N : Nat} {s : StS} {os od : Nat} {p q : AV} {H : AH} (h : Duo s s os od p q H) (hw : SW N s) (hN : N + 40000≤900000) (x : StpV) (hx : ¬ wideS x.s) (hnn : x.s.n≤9223372036854775807) :
  ∃ r H',(r=B true∧∃ p' q',Duo (zyiZ s x.s) (zyiZ s x.s) os od p' q' H')∧BCall Tryz.prog 32 [.ptr os 0,.ptr od 0,.agg (encP x)] H r H':=salvorlaw13_Do_ok (by
 unfold zbejZ;have o1:=SV.oneA x.hb;have o2:=SV.oneA x.ht;have o3:=SV.oneA x.hi;have hkt:=x.s.kind.toNat_lt;have e1 : anew H (.agg (encP x))=some (.ptr H.length 0,H ++ [some (.cells (encP x))]):=by simp [encP,o1,o2,o3]
 have g:=Grew.app H [some (.cells (encP x))];have duo1:=h.grew g;have c5 : (H ++ [some (AObj.cells (encP x))])[H.length]? = some (some (.cells (encP x))):=top1;have xl : H.length < (H ++ [some (AObj.cells (encP x))]).length:=by simp
 have xn : H.length ≠ os:=by have:=h.P.os_lt; omega
 have xp : H.length ∉ idS p:=λz=>by have:=h.P.p_lt _ z; omega
 have nb:=nameK_len x.s.name;have nt:=nameK_len x.s.to;have hbn:=x.hb.noId;have htn:=x.ht.noId;have hin:=x.hi.noId;unfold wideS at hx;rw [e1,zboZ];generalize (H ++ [some (AObj.cells (encP x))])=H1 at *;have i0 : (encP x)[0]? = some (.lit (.int .u8 x.s.kind.toNat)):=rfl;have i1 : (encP x)[1]? = some (.lit (.int .u8 x.s.name.toNat)):=rfl;have i2 : (encP x)[2]? = some (.lit (.int .u8 x.s.to.toNat)):=rfl;have i3 : (encP x)[3]? = some (I x.s.ino):=rfl;have i4 : (encP x)[4]? = some (I x.s.pos):=rfl;have i5 : (encP x)[5]? = some (I x.s.n):=rfl;have i6 : (encP x)[6]? = some (x.bv):=rfl;have i7 : (encP x)[7]? = some (B x.s.keep):=rfl;have i8 : (encP x)[8]? = some (x.tv):=rfl;have i9 : (encP x)[9]? = some (x.iv):=rfl
 have er : abI .rem (.lit (.int .u8 x.s.kind.toNat)) (.lit (.int .u8 16))=some (.lit (.int .u8 ((x.s.kind.toNat % 16 : Nat) : Int))):=by
  have : abI .rem (.lit (.int .u8 (x.s.kind.toNat : Int))) (.lit (.int .u8 (16 : Nat)))=some (.lit (.int .u8 ((x.s.kind.toNat % 16 : Nat) : Int))):=by rw [abI_rem (by omega) (by omega)]; congr 3
  exact this
 have hk16 : x.s.kind.toNat % 16 < 16:=Nat.mod_lt _ (by omega);simp only [zeZ,Nat.zero_add,zbZ,zlZ c5,zdZ,i0,i1,i2,i3,i4,i5,i6,i7,i8,i9];refine bP_of (Name_p x.s.name) ?_
 try simp only [zeZ,Nat.zero_add,zbZ,zlZ c5,zdZ,i0,i1,i2,i3,i4,i5,i6,i7,i8,i9]
 refine bP_of (Name_p x.s.to) ?_
 try simp only [zeZ,Nat.zero_add,zbZ,zlZ c5,zdZ,i0,i1,i2,i3,i4,i5,i6,i7,i8,i9,er]
 have fin : ∀ (s' : StS) (p' q' : AV) (H' : AH),Duo s' s' os od p' q' H'→zyiZ s x.s=s'→(B true : AV)=B true∧∃ p' q',Duo (zyiZ s x.s) (zyiZ s x.s) os od p' q' H':=by
  intro s' p' q' H' hd e;rw [e];exact ⟨rfl,p',q',hd⟩
 have hds:=zyiZ s x.s;obtain ⟨k,hk⟩ : ∃ k,x.s.kind.toNat % 16=k:=⟨_,rfl⟩;rw [hk] at hk16 er
 
 simp only [hk];have hcases : k=0∨k=1∨k=2∨k=3∨k=4∨k=5∨k=6∨k=7∨k=8∨k=9∨k=10∨k=11∨k=12∨k=13∨k=14∨k=15:=by omega
 rcases hcases with rfl | rfl | rfl | rfl | rfl | rfl | rfl | rfl | rfl | rfl | rfl | rfl | rfl | rfl | rfl | rfl
 ·simp only [Int.reduceEq,Int.cast_ofNat_Int,pkJ]
  rw [zwZ]; unfold zxZ;simp only [Int.reduceEq,Int.cast_ofNat_Int,pkJ]
  try simp only [zeZ,Nat.zero_add,zbZ,zlZ c5,zdZ,i0,i1,i2,i3,i4,i5,i6,i7,i8,i9,er,abI_eq8,Int.reduceEq,Int.cast_ofNat_Int,dTt,dFf,cast0,cast1]
  obtain ⟨r,H2,⟨rfl,p2,st2,f2⟩,hc⟩:=Open_c duo1.P hw (by omega) (name:=nameK x.s.name) (by omega) true;refine bC_of hc ?_;have duo2:=duo1.stepP st2 f2;have c6 : H2[H.length]? = some (some (.cells (encP x))):=by rw [f2.same _ xl xn xp]; exact c5
  simp only [zjZ,gCS,gCZ,zbZ];rw [zqcZ]; unfold zltZ
  try simp only [zeZ,Nat.zero_add,zbZ,zlZ c6,zdZ,i0,i1,i2,i3,i4,i5,i6,i7,i8,i9,er,abI_eq8,Int.reduceEq,Int.cast_ofNat_Int,dTt,dFf,cast0,cast1]
  obtain ⟨r,H3,⟨rfl,q3,ds3,f3⟩,hc⟩:=ROpen_c duo2.D hw (by omega) (name:=nameK x.s.name) (by omega) true;refine bC_of hc ?_;have duo3:=duo2.stepD ds3 f3;simp only [zjZ,gCS,gCZ,zbZ];rw [zqyZ]; unfold zlpZ
  try simp only [zeZ,Nat.zero_add,zbZ,zlZ c5,zdZ,i0,i1,i2,i3,i4,i5,i6,i7,i8,i9,zkvZ,dTt,zcxZ,beq_self_eq_true,zbsZ,zoZ,if_true,true_and]
  exact (fin _ _ _ _ duo3 (by unfold zyiZ; simp [hk])).2
 ·simp only [Int.reduceEq,Int.cast_ofNat_Int,pkJ]
  rw [zwZ]; unfold zxZ;simp only [Int.reduceEq,Int.cast_ofNat_Int,pkJ]
  try simp only [zeZ,Nat.zero_add,zbZ,zlZ c5,zdZ,i0,i1,i2,i3,i4,i5,i6,i7,i8,i9,er,abI_eq8,Int.reduceEq,Int.cast_ofNat_Int,dTt,dFf,cast0,cast1]
  obtain ⟨r,H2,⟨rfl,p2,st2,f2⟩,hc⟩:=Open_c duo1.P hw (by omega) (name:=nameK x.s.name) (by omega) false;refine bC_of hc ?_;have duo2:=duo1.stepP st2 f2;have c6 : H2[H.length]? = some (some (.cells (encP x))):=by rw [f2.same _ xl xn xp]; exact c5
  simp only [zjZ,gCS,gCZ,zbZ];rw [zqcZ]; unfold zltZ
  try simp only [zeZ,Nat.zero_add,zbZ,zlZ c6,zdZ,i0,i1,i2,i3,i4,i5,i6,i7,i8,i9,er,abI_eq8,Int.reduceEq,Int.cast_ofNat_Int,dTt,dFf,cast0,cast1]
  obtain ⟨r,H3,⟨rfl,q3,ds3,f3⟩,hc⟩:=ROpen_c duo2.D hw (by omega) (name:=nameK x.s.name) (by omega) false;refine bC_of hc ?_;have duo3:=duo2.stepD ds3 f3;simp only [zjZ,gCS,gCZ,zbZ];rw [zqyZ]; unfold zlpZ
  try simp only [zeZ,Nat.zero_add,zbZ,zlZ c5,zdZ,i0,i1,i2,i3,i4,i5,i6,i7,i8,i9,zkvZ,dTt,zcxZ,beq_self_eq_true,zbsZ,zoZ,if_true,true_and]
  exact (fin _ _ _ _ duo3 (by unfold zyiZ; simp [hk])).2
 ·simp only [Int.reduceEq,Int.cast_ofNat_Int,pkJ]
  rw [zwZ]; unfold zxZ;simp only [Int.reduceEq,Int.cast_ofNat_Int,pkJ];rw [zzZ]; unfold zbbZ;simp only [Int.reduceEq,Int.cast_ofNat_Int,pkJ];rw [zbeZ]; unfold zbfZ;simp only [Int.reduceEq,Int.cast_ofNat_Int,pkJ]
  try simp only [zeZ,Nat.zero_add,zbZ,zlZ c5,zdZ,i0,i1,i2,i3,i4,i5,i6,i7,i8,i9]
  obtain ⟨r,H2,⟨rfl,p2,st2,f2⟩,hc⟩:=Write_c duo1.P hw x.s.ino x.s.pos (by omega) (x.hb.bytes _) (by rw [hbn]; simp);refine bC_of hc ?_;have duo2:=duo1.stepP st2 f2;have c6 : H2[H.length]? = some (some (.cells (encP x))):=by rw [f2.same _ xl xn xp]; exact c5
  simp only [zjZ,gCS,gCZ,zbZ];rw [zoqZ]; unfold zkbZ
  try simp only [zeZ,Nat.zero_add,zbZ,zlZ c6,zdZ,i0,i1,i2,i3,i4,i5,i6,i7,i8,i9]
  obtain ⟨r,H3,⟨rfl,q3,ds3,f3⟩,hc⟩:=RWrite_c duo2.D hw x.s.ino x.s.pos (by omega) x.hb;refine bC_of hc ?_;have duo3:=duo2.stepD ds3 f3;simp only [zjZ,gCS,gCZ,zbZ];rw [zpaZ]; unfold zjuZ
  try simp only [zeZ,Nat.zero_add,zbZ,zlZ c5,zdZ,i0,i1,i2,i3,i4,i5,i6,i7,i8,i9,zkvZ,dTt,zcxZ,beq_self_eq_true,zbsZ,zoZ,if_true,true_and]
  exact (fin _ _ _ _ duo3 (by unfold zyiZ; simp [hk])).2
 ·simp only [Int.reduceEq,Int.cast_ofNat_Int,pkJ]
  rw [zwZ]; unfold zxZ;simp only [Int.reduceEq,Int.cast_ofNat_Int,pkJ];rw [zzZ]; unfold zbbZ;simp only [Int.reduceEq,Int.cast_ofNat_Int,pkJ];rw [zbeZ]; unfold zbfZ;simp only [Int.reduceEq,Int.cast_ofNat_Int,pkJ]
  try simp only [zeZ,Nat.zero_add,zbZ,zlZ c5,zdZ,i0,i1,i2,i3,i4,i5,i6,i7,i8,i9]
  obtain ⟨r,H2,⟨rfl,p2,st2,f2⟩,hc⟩:=Write_c duo1.P hw x.s.ino x.s.pos (by omega) (x.hb.bytes _) (by rw [hbn]; simp);refine bC_of hc ?_;have duo2:=duo1.stepP st2 f2;have c6 : H2[H.length]? = some (some (.cells (encP x))):=by rw [f2.same _ xl xn xp]; exact c5
  simp only [zjZ,gCS,gCZ,zbZ];rw [zoqZ]; unfold zkbZ
  try simp only [zeZ,Nat.zero_add,zbZ,zlZ c6,zdZ,i0,i1,i2,i3,i4,i5,i6,i7,i8,i9]
  obtain ⟨r,H3,⟨rfl,q3,ds3,f3⟩,hc⟩:=RWrite_c duo2.D hw x.s.ino x.s.pos (by omega) x.hb;refine bC_of hc ?_;have duo3:=duo2.stepD ds3 f3;simp only [zjZ,gCS,gCZ,zbZ];rw [zpaZ]; unfold zjuZ
  try simp only [zeZ,Nat.zero_add,zbZ,zlZ c5,zdZ,i0,i1,i2,i3,i4,i5,i6,i7,i8,i9,zkvZ,dTt,zcxZ,beq_self_eq_true,zbsZ,zoZ,if_true,true_and]
  exact (fin _ _ _ _ duo3 (by unfold zyiZ; simp [hk])).2
 ·simp only [Int.reduceEq,Int.cast_ofNat_Int,pkJ]
  rw [zwZ]; unfold zxZ;simp only [Int.reduceEq,Int.cast_ofNat_Int,pkJ];rw [zzZ]; unfold zbbZ;simp only [Int.reduceEq,Int.cast_ofNat_Int,pkJ];rw [zbeZ]; unfold zbfZ;simp only [Int.reduceEq,Int.cast_ofNat_Int,pkJ];rw [zbhZ]; unfold zbgZ;simp only [Int.reduceEq,Int.cast_ofNat_Int,pkJ];simp only [zeZ,Nat.zero_add,zbZ,zlZ c5,zdZ,i0,i1,i2,i3,i4,i5,i6,i7,i8,i9];obtain ⟨R1,hR1,r,H2,⟨rfl,g2⟩,hc⟩:=Read_c duo1.P hw (by omega) x.s.ino x.s.pos x.s.n;refine bC_of hc ?_;have duo2:=duo1.grew g2;have c6:=g2.cells c5;simp only [zjZ,gCS,gCZ,zbZ];rw [zzzZ]; unfold zquZ;simp only [zeZ,Nat.zero_add,zbZ,zlZ c6,zdZ,i0,i1,i2,i3,i4,i5,i6,i7,i8,i9];obtain ⟨R2,hR2,r,H3,⟨rfl,g3⟩,hc⟩:=RRead_c duo2.D hw (by omega) x.s.ino x.s.pos x.s.n;refine bC_of hc ?_;simp only [zjZ,gCS,gCZ,zbZ];rw [zbaeZ]; unfold zqrZ;simp only [acB_spec (hR1.bytes H3),acB_spec (hR2.bytes H3),abT_eql,zbZ,zkvZ,dTt,zcxZ,beq_self_eq_true,zbsZ,zoZ,if_true,true_and];exact (fin _ _ _ _ (duo2.grew g3) (by unfold zyiZ; simp [hk])).2
 ·simp only [Int.reduceEq,Int.cast_ofNat_Int,pkJ]
  rw [zwZ]; unfold zxZ;simp only [Int.reduceEq,Int.cast_ofNat_Int,pkJ];rw [zzZ]; unfold zbbZ;simp only [Int.reduceEq,Int.cast_ofNat_Int,pkJ];rw [zbeZ]; unfold zbfZ;simp only [Int.reduceEq,Int.cast_ofNat_Int,pkJ];rw [zbhZ]; unfold zbgZ;simp only [Int.reduceEq,Int.cast_ofNat_Int,pkJ];rw [zbkZ]; unfold zbjZ;simp only [Int.reduceEq,Int.cast_ofNat_Int,pkJ]
  try simp only [zeZ,Nat.zero_add,zbZ,zlZ c5,zdZ,i0,i1,i2,i3,i4,i5,i6,i7,i8,i9]
  obtain ⟨r,H2,⟨rfl,p2,st2,f2⟩,hc⟩:=Trunc_c duo1.P hw (by omega) x.s.ino x.s.n;refine bC_of hc ?_;have duo2:=duo1.stepP st2 f2;have c6 : H2[H.length]? = some (some (.cells (encP x))):=by rw [f2.same _ xl xn xp]; exact c5
  try simp only [zeZ,Nat.zero_add,zbZ,zlZ c6,zdZ,i0,i1,i2,i3,i4,i5,i6,i7,i8,i9]
  obtain ⟨r,H3,⟨rfl,q3,ds3,f3⟩,hc⟩:=RTrunc_c duo2.D hw (by omega) x.s.ino x.s.n;refine bC_of hc ?_;have duo3:=duo2.stepD ds3 f3
  try simp only [zeZ,Nat.zero_add,zbZ,zlZ c5,zdZ,i0,i1,i2,i3,i4,i5,i6,i7,i8,i9,zkvZ,dTt,zcxZ,beq_self_eq_true,zbsZ,zoZ,if_true,true_and]
  exact (fin _ _ _ _ duo3 (by unfold zyiZ; simp [hk])).2
 ·simp only [Int.reduceEq,Int.cast_ofNat_Int,pkJ]
  rw [zwZ]; unfold zxZ;simp only [Int.reduceEq,Int.cast_ofNat_Int,pkJ];rw [zzZ]; unfold zbbZ;simp only [Int.reduceEq,Int.cast_ofNat_Int,pkJ];rw [zbeZ]; unfold zbfZ;simp only [Int.reduceEq,Int.cast_ofNat_Int,pkJ];rw [zbhZ]; unfold zbgZ;simp only [Int.reduceEq,Int.cast_ofNat_Int,pkJ];rw [zbkZ]; unfold zbjZ;simp only [Int.reduceEq,Int.cast_ofNat_Int,pkJ];rw [zbnZ]; unfold zbmZ;simp only [Int.reduceEq,Int.cast_ofNat_Int,pkJ]
  try simp only [zeZ,Nat.zero_add,zbZ,zlZ c5,zdZ,i0,i1,i2,i3,i4,i5,i6,i7,i8,i9]
  obtain ⟨r,H2,⟨rfl,p2,st2,f2⟩,hc⟩:=Alloc_c duo1.P hw (by omega) x.s.ino x.s.pos x.s.n x.s.keep;refine bC_of hc ?_;have duo2:=duo1.stepP st2 f2;have c6 : H2[H.length]? = some (some (.cells (encP x))):=by rw [f2.same _ xl xn xp]; exact c5
  try simp only [zeZ,Nat.zero_add,zbZ,zlZ c6,zdZ,i0,i1,i2,i3,i4,i5,i6,i7,i8,i9]
  obtain ⟨r,H3,⟨rfl,q3,ds3,f3⟩,hc⟩:=RAlloc_c duo2.D hw (by omega) x.s.ino x.s.pos x.s.n x.s.keep;refine bC_of hc ?_;have duo3:=duo2.stepD ds3 f3
  try simp only [zeZ,Nat.zero_add,zbZ,zlZ c5,zdZ,i0,i1,i2,i3,i4,i5,i6,i7,i8,i9,zkvZ,dTt,zcxZ,beq_self_eq_true,zbsZ,zoZ,if_true,true_and]
  exact (fin _ _ _ _ duo3 (by unfold zyiZ; simp [hk])).2
 ·simp only [Int.reduceEq,Int.cast_ofNat_Int,pkJ]
  rw [zwZ]; unfold zxZ;simp only [Int.reduceEq,Int.cast_ofNat_Int,pkJ];rw [zzZ]; unfold zbbZ;simp only [Int.reduceEq,Int.cast_ofNat_Int,pkJ];rw [zbeZ]; unfold zbfZ;simp only [Int.reduceEq,Int.cast_ofNat_Int,pkJ];rw [zbhZ]; unfold zbgZ;simp only [Int.reduceEq,Int.cast_ofNat_Int,pkJ];rw [zbkZ]; unfold zbjZ;simp only [Int.reduceEq,Int.cast_ofNat_Int,pkJ];rw [zbnZ]; unfold zbmZ;simp only [Int.reduceEq,Int.cast_ofNat_Int,pkJ];rw [zbtZ]; unfold zbqZ;simp only [Int.reduceEq,Int.cast_ofNat_Int,pkJ]
  try simp only [zeZ,Nat.zero_add,zbZ,zlZ c5,zdZ,i0,i1,i2,i3,i4,i5,i6,i7,i8,i9]
  obtain ⟨r,H2,⟨rfl,p2,st2,f2⟩,hc⟩:=Punch_c duo1.P hw (by omega) x.s.ino x.s.pos x.s.n;refine bC_of hc ?_;have duo2:=duo1.stepP st2 f2;have c6 : H2[H.length]? = some (some (.cells (encP x))):=by rw [f2.same _ xl xn xp]; exact c5
  try simp only [zeZ,Nat.zero_add,zbZ,zlZ c6,zdZ,i0,i1,i2,i3,i4,i5,i6,i7,i8,i9]
  obtain ⟨r,H3,⟨rfl,q3,ds3,f3⟩,hc⟩:=RPunch_c duo2.D hw (by omega) x.s.ino x.s.pos x.s.n;refine bC_of hc ?_;have duo3:=duo2.stepD ds3 f3
  try simp only [zeZ,Nat.zero_add,zbZ,zlZ c5,zdZ,i0,i1,i2,i3,i4,i5,i6,i7,i8,i9,zkvZ,dTt,zcxZ,beq_self_eq_true,zbsZ,zoZ,if_true,true_and]
  exact (fin _ _ _ _ duo3 (by unfold zyiZ; simp [hk])).2
 ·simp only [Int.reduceEq,Int.cast_ofNat_Int,pkJ]
  rw [zwZ]; unfold zxZ;simp only [Int.reduceEq,Int.cast_ofNat_Int,pkJ];rw [zzZ]; unfold zbbZ;simp only [Int.reduceEq,Int.cast_ofNat_Int,pkJ];rw [zbeZ]; unfold zbfZ;simp only [Int.reduceEq,Int.cast_ofNat_Int,pkJ];rw [zbhZ]; unfold zbgZ;simp only [Int.reduceEq,Int.cast_ofNat_Int,pkJ];rw [zbkZ]; unfold zbjZ;simp only [Int.reduceEq,Int.cast_ofNat_Int,pkJ];rw [zbnZ]; unfold zbmZ;simp only [Int.reduceEq,Int.cast_ofNat_Int,pkJ];rw [zbtZ]; unfold zbqZ;simp only [Int.reduceEq,Int.cast_ofNat_Int,pkJ];rw [zbzZ]; unfold zbxZ;simp only [Int.reduceEq,Int.cast_ofNat_Int,pkJ]
  try simp only [zeZ,Nat.zero_add,zbZ,zlZ c5,zdZ,i0,i1,i2,i3,i4,i5,i6,i7,i8,i9]
  obtain ⟨r,H2,⟨rfl,p2,st2,f2⟩,hc⟩:=Rename_c duo1.P hw (by omega) (name:=nameK x.s.name) (to:=nameK x.s.to) (by omega) (by omega);refine bC_of hc ?_;have duo2:=duo1.stepP st2 f2;have c6 : H2[H.length]? = some (some (.cells (encP x))):=by rw [f2.same _ xl xn xp]; exact c5
  try simp only [zeZ,Nat.zero_add,zbZ,zlZ c6,zdZ,i0,i1,i2,i3,i4,i5,i6,i7,i8,i9]
  obtain ⟨r,H3,⟨rfl,q3,ds3,f3⟩,hc⟩:=RRename_c duo2.D hw (by omega) (name:=nameK x.s.name) (to:=nameK x.s.to) (by omega) (by omega);refine bC_of hc ?_;have duo3:=duo2.stepD ds3 f3
  try simp only [zeZ,Nat.zero_add,zbZ,zlZ c5,zdZ,i0,i1,i2,i3,i4,i5,i6,i7,i8,i9,zkvZ,dTt,zcxZ,beq_self_eq_true,zbsZ,zoZ,if_true,true_and]
  exact (fin _ _ _ _ duo3 (by unfold zyiZ; simp [hk])).2
 ·simp only [Int.reduceEq,Int.cast_ofNat_Int,pkJ]
  rw [zwZ]; unfold zxZ;simp only [Int.reduceEq,Int.cast_ofNat_Int,pkJ];rw [zzZ]; unfold zbbZ;simp only [Int.reduceEq,Int.cast_ofNat_Int,pkJ];rw [zbeZ]; unfold zbfZ;simp only [Int.reduceEq,Int.cast_ofNat_Int,pkJ];rw [zbhZ]; unfold zbgZ;simp only [Int.reduceEq,Int.cast_ofNat_Int,pkJ];rw [zbkZ]; unfold zbjZ;simp only [Int.reduceEq,Int.cast_ofNat_Int,pkJ];rw [zbnZ]; unfold zbmZ;simp only [Int.reduceEq,Int.cast_ofNat_Int,pkJ];rw [zbtZ]; unfold zbqZ;simp only [Int.reduceEq,Int.cast_ofNat_Int,pkJ];rw [zbzZ]; unfold zbxZ;simp only [Int.reduceEq,Int.cast_ofNat_Int,pkJ];rw [zcsZ]; unfold zcgZ;simp only [Int.reduceEq,Int.cast_ofNat_Int,pkJ]
  try simp only [zeZ,Nat.zero_add,zbZ,zlZ c5,zdZ,i0,i1,i2,i3,i4,i5,i6,i7,i8,i9]
  obtain ⟨r,H2,⟨rfl,p2,st2,f2⟩,hc⟩:=Remove_c duo1.P hw (by omega) (name:=nameK x.s.name) (by omega);refine bC_of hc ?_;have duo2:=duo1.stepP st2 f2;have c6 : H2[H.length]? = some (some (.cells (encP x))):=by rw [f2.same _ xl xn xp]; exact c5
  try simp only [zeZ,Nat.zero_add,zbZ,zlZ c6,zdZ,i0,i1,i2,i3,i4,i5,i6,i7,i8,i9]
  obtain ⟨r,H3,⟨rfl,q3,ds3,f3⟩,hc⟩:=RRemove_c duo2.D hw (by omega) (name:=nameK x.s.name) (by omega);refine bC_of hc ?_;have duo3:=duo2.stepD ds3 f3
  try simp only [zeZ,Nat.zero_add,zbZ,zlZ c5,zdZ,i0,i1,i2,i3,i4,i5,i6,i7,i8,i9,zkvZ,dTt,zcxZ,beq_self_eq_true,zbsZ,zoZ,if_true,true_and]
  exact (fin _ _ _ _ duo3 (by unfold zyiZ; simp [hk])).2
 ·simp only [Int.reduceEq,Int.cast_ofNat_Int,pkJ]
  rw [zwZ]; unfold zxZ;simp only [Int.reduceEq,Int.cast_ofNat_Int,pkJ];rw [zzZ]; unfold zbbZ;simp only [Int.reduceEq,Int.cast_ofNat_Int,pkJ];rw [zbeZ]; unfold zbfZ;simp only [Int.reduceEq,Int.cast_ofNat_Int,pkJ];rw [zbhZ]; unfold zbgZ;simp only [Int.reduceEq,Int.cast_ofNat_Int,pkJ];rw [zbkZ]; unfold zbjZ;simp only [Int.reduceEq,Int.cast_ofNat_Int,pkJ];rw [zbnZ]; unfold zbmZ;simp only [Int.reduceEq,Int.cast_ofNat_Int,pkJ];rw [zbtZ]; unfold zbqZ;simp only [Int.reduceEq,Int.cast_ofNat_Int,pkJ];rw [zbzZ]; unfold zbxZ;simp only [Int.reduceEq,Int.cast_ofNat_Int,pkJ];rw [zcsZ]; unfold zcgZ;simp only [Int.reduceEq,Int.cast_ofNat_Int,pkJ];rw [zdjZ]; unfold zdaZ;simp only [Int.reduceEq,Int.cast_ofNat_Int,pkJ]
  try simp only [zeZ,Nat.zero_add,zbZ,zlZ c5,zdZ,i0,i1,i2,i3,i4,i5,i6,i7,i8,i9]
  obtain ⟨r,H2,⟨rfl,p2,st2,f2⟩,hc⟩:=Sync_c duo1.P hw (by omega) (x.hi.2 _) (by rw [hin]; simp) (by omega);refine bC_of hc ?_;have duo2:=duo1.stepP st2 f2;have c6 : H2[H.length]? = some (some (.cells (encP x))):=by rw [f2.same _ xl xn xp]; exact c5
  try simp only [zeZ,Nat.zero_add,zbZ,zlZ c6,zdZ,i0,i1,i2,i3,i4,i5,i6,i7,i8,i9]
  obtain ⟨r,H3,⟨rfl,q3,ds3,f3⟩,hc⟩:=RSync_c duo2.D hw (by omega) x.hi (by omega);refine bC_of hc ?_;have duo3:=duo2.stepD ds3 f3
  try simp only [zeZ,Nat.zero_add,zbZ,zlZ c5,zdZ,i0,i1,i2,i3,i4,i5,i6,i7,i8,i9,zkvZ,dTt,zcxZ,beq_self_eq_true,zbsZ,zoZ,if_true,true_and]
  exact (fin _ _ _ _ duo3 (by unfold zyiZ; simp [hk])).2
 ·simp only [Int.reduceEq,Int.cast_ofNat_Int,pkJ]
  rw [zwZ]; unfold zxZ;simp only [Int.reduceEq,Int.cast_ofNat_Int,pkJ];rw [zzZ]; unfold zbbZ;simp only [Int.reduceEq,Int.cast_ofNat_Int,pkJ];rw [zbeZ]; unfold zbfZ;simp only [Int.reduceEq,Int.cast_ofNat_Int,pkJ];rw [zbhZ]; unfold zbgZ;simp only [Int.reduceEq,Int.cast_ofNat_Int,pkJ];rw [zbkZ]; unfold zbjZ;simp only [Int.reduceEq,Int.cast_ofNat_Int,pkJ];rw [zbnZ]; unfold zbmZ;simp only [Int.reduceEq,Int.cast_ofNat_Int,pkJ];rw [zbtZ]; unfold zbqZ;simp only [Int.reduceEq,Int.cast_ofNat_Int,pkJ];rw [zbzZ]; unfold zbxZ;simp only [Int.reduceEq,Int.cast_ofNat_Int,pkJ];rw [zcsZ]; unfold zcgZ;simp only [Int.reduceEq,Int.cast_ofNat_Int,pkJ];rw [zdjZ]; unfold zdaZ;simp only [Int.reduceEq,Int.cast_ofNat_Int,pkJ];rw [zecZ]; unfold zdqZ;simp only [Int.reduceEq,Int.cast_ofNat_Int,pkJ]
  try simp only [zeZ,Nat.zero_add,zbZ,zlZ c5,zdZ,i0,i1,i2,i3,i4,i5,i6,i7,i8,i9]
  obtain ⟨r,H2,⟨rfl,p2,st2,f2⟩,hc⟩:=Sync_c duo1.P hw (by omega) (l:=[]) (v:=nilSl) rfl (by simp [idS]) (by simp);refine bC_of hc ?_;have duo2:=duo1.stepP st2 f2;have c6 : H2[H.length]? = some (some (.cells (encP x))):=by rw [f2.same _ xl xn xp]; exact c5
  try simp only [zeZ,Nat.zero_add,zbZ,zlZ c6,zdZ,i0,i1,i2,i3,i4,i5,i6,i7,i8,i9]
  obtain ⟨r,H3,⟨rfl,q3,ds3,f3⟩,hc⟩:=RSync_c duo2.D hw (by omega) (l:=[]) (v:=nilSl) SV.nil (by simp);refine bC_of hc ?_;have duo3:=duo2.stepD ds3 f3
  try simp only [zeZ,Nat.zero_add,zbZ,zlZ c5,zdZ,i0,i1,i2,i3,i4,i5,i6,i7,i8,i9,zkvZ,dTt,zcxZ,beq_self_eq_true,zbsZ,zoZ,if_true,true_and]
  exact (fin _ _ _ _ duo3 (by unfold zyiZ; simp [hk])).2
 ·simp only [Int.reduceEq,Int.cast_ofNat_Int,pkJ]
  rw [zwZ]; unfold zxZ;simp only [Int.reduceEq,Int.cast_ofNat_Int,pkJ];rw [zzZ]; unfold zbbZ;simp only [Int.reduceEq,Int.cast_ofNat_Int,pkJ];rw [zbeZ]; unfold zbfZ;simp only [Int.reduceEq,Int.cast_ofNat_Int,pkJ];rw [zbhZ]; unfold zbgZ;simp only [Int.reduceEq,Int.cast_ofNat_Int,pkJ];rw [zbkZ]; unfold zbjZ;simp only [Int.reduceEq,Int.cast_ofNat_Int,pkJ];rw [zbnZ]; unfold zbmZ;simp only [Int.reduceEq,Int.cast_ofNat_Int,pkJ];rw [zbtZ]; unfold zbqZ;simp only [Int.reduceEq,Int.cast_ofNat_Int,pkJ];rw [zbzZ]; unfold zbxZ;simp only [Int.reduceEq,Int.cast_ofNat_Int,pkJ];rw [zcsZ]; unfold zcgZ;simp only [Int.reduceEq,Int.cast_ofNat_Int,pkJ];rw [zdjZ]; unfold zdaZ;simp only [Int.reduceEq,Int.cast_ofNat_Int,pkJ];rw [zecZ]; unfold zdqZ;simp only [Int.reduceEq,Int.cast_ofNat_Int,pkJ];rw [zfxZ]; unfold zerZ;simp only [Int.reduceEq,Int.cast_ofNat_Int,pkJ]
  try simp only [zeZ,Nat.zero_add,zbZ,zlZ c5,zdZ,i0,i1,i2,i3,i4,i5,i6,i7,i8,i9,absf_onez]
  obtain ⟨r,H2,⟨rfl,p2,st2,f2⟩,hc⟩:=Sync_c duo1.P hw (by omega) (l:=[x.s.ino]) (v:=.imm [I x.s.ino] 1 1) rfl (by simp [idS]) (by simp);refine bC_of hc ?_;have duo2:=duo1.stepP st2 f2;have c6 : H2[H.length]? = some (some (.cells (encP x))):=by rw [f2.same _ xl xn xp]; exact c5
  try simp only [zeZ,Nat.zero_add,zbZ,zlZ c6,zdZ,i0,i1,i2,i3,i4,i5,i6,i7,i8,i9,absf_onez]
  obtain ⟨r,H3,⟨rfl,q3,ds3,f3⟩,hc⟩:=RSync_c duo2.D hw (by omega) (l:=[x.s.ino]) (v:=.imm [I x.s.ino] 1 1) ⟨rfl,λ_=>rfl⟩ (by simp);refine bC_of hc ?_;have duo3:=duo2.stepD ds3 f3
  try simp only [zeZ,Nat.zero_add,zbZ,zlZ c5,zdZ,i0,i1,i2,i3,i4,i5,i6,i7,i8,i9,zkvZ,dTt,zcxZ,beq_self_eq_true,zbsZ,zoZ,if_true,true_and]
  exact (fin _ _ _ _ duo3 (by unfold zyiZ; simp [hk])).2
 ·simp only [Int.reduceEq,Int.cast_ofNat_Int,pkJ]
  rw [zwZ]; unfold zxZ;simp only [Int.reduceEq,Int.cast_ofNat_Int,pkJ];rw [zzZ]; unfold zbbZ;simp only [Int.reduceEq,Int.cast_ofNat_Int,pkJ];rw [zbeZ]; unfold zbfZ;simp only [Int.reduceEq,Int.cast_ofNat_Int,pkJ];rw [zbhZ]; unfold zbgZ;simp only [Int.reduceEq,Int.cast_ofNat_Int,pkJ];rw [zbkZ]; unfold zbjZ;simp only [Int.reduceEq,Int.cast_ofNat_Int,pkJ];rw [zbnZ]; unfold zbmZ;simp only [Int.reduceEq,Int.cast_ofNat_Int,pkJ];rw [zbtZ]; unfold zbqZ;simp only [Int.reduceEq,Int.cast_ofNat_Int,pkJ];rw [zbzZ]; unfold zbxZ;simp only [Int.reduceEq,Int.cast_ofNat_Int,pkJ];rw [zcsZ]; unfold zcgZ;simp only [Int.reduceEq,Int.cast_ofNat_Int,pkJ];rw [zdjZ]; unfold zdaZ;simp only [Int.reduceEq,Int.cast_ofNat_Int,pkJ];rw [zecZ]; unfold zdqZ;simp only [Int.reduceEq,Int.cast_ofNat_Int,pkJ];rw [zfxZ]; unfold zerZ;simp only [Int.reduceEq,Int.cast_ofNat_Int,pkJ];rw [zipZ]; unfold zgvZ;simp only [Int.reduceEq,Int.cast_ofNat_Int,pkJ];simp only [zeZ,Nat.zero_add,zbZ,zlZ c5,zdZ,i0,i1,i2,i3,i4,i5,i6,i7,i8,i9];obtain ⟨r,H2,⟨rfl,st2,f2⟩,hc⟩:=Arm_c duo1.P x.s.n;refine bC_of hc ?_;have duo2:=duo1.stepP st2 f2;have c6 : H2[H.length]? = some (some (.cells (encP x))):=by rw [f2.same _ xl xn xp]; exact c5
  rw [zbaiZ]; unfold zqoZ;simp only [zeZ,Nat.zero_add,zbZ,zlZ c6,zdZ,i0,i1,i2,i3,i4,i5,i6,i7,i8,i9];obtain ⟨r,H3,⟨rfl,ds3,f3⟩,hc⟩:=RArm_c duo2.D x.s.n;refine bC_of hc ?_;rw [zqpZ]; unfold zloZ;exact fin _ _ _ _ (duo2.stepD ds3 f3) (by unfold zyiZ; simp [hk])
 ·simp only [Int.reduceEq,Int.cast_ofNat_Int,pkJ]
  rw [zwZ]; unfold zxZ;simp only [Int.reduceEq,Int.cast_ofNat_Int,pkJ];rw [zzZ]; unfold zbbZ;simp only [Int.reduceEq,Int.cast_ofNat_Int,pkJ];rw [zbeZ]; unfold zbfZ;simp only [Int.reduceEq,Int.cast_ofNat_Int,pkJ];rw [zbhZ]; unfold zbgZ;simp only [Int.reduceEq,Int.cast_ofNat_Int,pkJ];rw [zbkZ]; unfold zbjZ;simp only [Int.reduceEq,Int.cast_ofNat_Int,pkJ];rw [zbnZ]; unfold zbmZ;simp only [Int.reduceEq,Int.cast_ofNat_Int,pkJ];rw [zbtZ]; unfold zbqZ;simp only [Int.reduceEq,Int.cast_ofNat_Int,pkJ];rw [zbzZ]; unfold zbxZ;simp only [Int.reduceEq,Int.cast_ofNat_Int,pkJ];rw [zcsZ]; unfold zcgZ;simp only [Int.reduceEq,Int.cast_ofNat_Int,pkJ];rw [zdjZ]; unfold zdaZ;simp only [Int.reduceEq,Int.cast_ofNat_Int,pkJ];rw [zecZ]; unfold zdqZ;simp only [Int.reduceEq,Int.cast_ofNat_Int,pkJ];rw [zfxZ]; unfold zerZ;simp only [Int.reduceEq,Int.cast_ofNat_Int,pkJ];rw [zipZ]; unfold zgvZ;simp only [Int.reduceEq,Int.cast_ofNat_Int,pkJ];rw [zoyZ]; unfold zkfZ;simp only [Int.reduceEq,Int.cast_ofNat_Int,pkJ];simp only [zeZ,Nat.zero_add,zbZ,zlZ c5,zdZ,i0,i1,i2,i3,i4,i5,i6,i7,i8,i9];obtain ⟨r,H2,⟨rfl,st2,f2⟩,hc⟩:=Restart_c duo1.P hw (by omega) (x.ht.2 _) (by rw [htn]; simp) (by omega);refine bC_of hc ?_;have duo2:=duo1.stepP st2 f2;have c6 : H2[H.length]? = some (some (.cells (encP x))):=by rw [f2.same _ xl xn xp]; exact c5
  rw [zbaaZ]; unfold zqiZ;simp only [zeZ,Nat.zero_add,zbZ,zlZ c6,zdZ,i0,i1,i2,i3,i4,i5,i6,i7,i8,i9];obtain ⟨r,H3,⟨rfl,ds3,f3⟩,hc⟩:=RRestart_c duo2.D hw (by omega) x.ht (by omega);refine bC_of hc ?_;rw [zqpZ]; unfold zloZ;exact fin _ _ _ _ (duo2.stepD ds3 f3) (by unfold zyiZ; simp [hk])
 ·simp only [Int.reduceEq,Int.cast_ofNat_Int,pkJ]
  rw [zwZ]; unfold zxZ;simp only [Int.reduceEq,Int.cast_ofNat_Int,pkJ];rw [zzZ]; unfold zbbZ;simp only [Int.reduceEq,Int.cast_ofNat_Int,pkJ];rw [zbeZ]; unfold zbfZ;simp only [Int.reduceEq,Int.cast_ofNat_Int,pkJ];rw [zbhZ]; unfold zbgZ;simp only [Int.reduceEq,Int.cast_ofNat_Int,pkJ];rw [zbkZ]; unfold zbjZ;simp only [Int.reduceEq,Int.cast_ofNat_Int,pkJ];rw [zbnZ]; unfold zbmZ;simp only [Int.reduceEq,Int.cast_ofNat_Int,pkJ];rw [zbtZ]; unfold zbqZ;simp only [Int.reduceEq,Int.cast_ofNat_Int,pkJ];rw [zbzZ]; unfold zbxZ;simp only [Int.reduceEq,Int.cast_ofNat_Int,pkJ];rw [zcsZ]; unfold zcgZ;simp only [Int.reduceEq,Int.cast_ofNat_Int,pkJ];rw [zdjZ]; unfold zdaZ;simp only [Int.reduceEq,Int.cast_ofNat_Int,pkJ];rw [zecZ]; unfold zdqZ;simp only [Int.reduceEq,Int.cast_ofNat_Int,pkJ];rw [zfxZ]; unfold zerZ;simp only [Int.reduceEq,Int.cast_ofNat_Int,pkJ];rw [zipZ]; unfold zgvZ;simp only [Int.reduceEq,Int.cast_ofNat_Int,pkJ];rw [zoyZ]; unfold zkfZ;simp only [Int.reduceEq,Int.cast_ofNat_Int,pkJ];simp only [zeZ,Nat.zero_add,zbZ,zlZ c5,zdZ,i0,i1,i2,i3,i4,i5,i6,i7,i8,i9];obtain ⟨r,K1,⟨rfl,g1⟩,hc⟩:=Size_c duo1.P hw (by omega) x.s.ino;refine bC_of hc ?_;have duo2:=duo1.grew g1;have d1:=g1.cells c5;simp only [zjZ,gCS,gCZ,zbZ];rw [zbanZ]; unfold zqmZ;simp only [zeZ,Nat.zero_add,zbZ,zlZ d1,zdZ,i0,i1,i2,i3,i4,i5,i6,i7,i8,i9];obtain ⟨r,K2,⟨rfl,g2⟩,hc⟩:=RSize_c duo2.D hw (by omega) x.s.ino;refine bC_of hc ?_;have duo3:=duo2.grew g2;have d2:=g2.cells d1;simp only [zjZ,gCS,gCZ,zbZ];rw [zbalZ]; unfold zqqZ;simp only [zeZ,Nat.zero_add,zbZ,zlZ d2,zdZ,i0,i1,i2,i3,i4,i5,i6,i7,i8,i9];obtain ⟨r,K3,⟨rfl,g3⟩,hc⟩:=PRData_c duo3.P hw (by omega) x.s.ino x.s.pos;refine bC_of hc ?_;have duo4:=duo3.grew g3;have d3:=g3.cells d2;simp only [zjZ,gCS,gCZ,zbZ];rw [zbahZ]; unfold zqvZ;simp only [zeZ,Nat.zero_add,zbZ,zlZ d3,zdZ,i0,i1,i2,i3,i4,i5,i6,i7,i8,i9];obtain ⟨r,K4,⟨rfl,g4⟩,hc⟩:=RData_c duo4.D hw (by omega) x.s.ino x.s.pos;refine bC_of hc ?_;have duo5:=duo4.grew g4;have d4:=g4.cells d3;simp only [zjZ,gCS,gCZ,zbZ];rw [zzxZ]; unfold zqnZ;simp only [zeZ,Nat.zero_add,zbZ,zlZ d4,zdZ,i0,i1,i2,i3,i4,i5,i6,i7,i8,i9];obtain ⟨r,K5,⟨rfl,g5⟩,hc⟩:=PRHole_c duo5.P hw (by omega) x.s.ino x.s.pos;refine bC_of hc ?_;have duo6:=duo5.grew g5;have d5:=g5.cells d4;simp only [zjZ,gCS,gCZ,zbZ];rw [zbadZ]; unfold zqsZ;simp only [zeZ,Nat.zero_add,zbZ,zlZ d5,zdZ,i0,i1,i2,i3,i4,i5,i6,i7,i8,i9];obtain ⟨r,K6,⟨rfl,g6⟩,hc⟩:=RHole_c duo6.D hw (by omega) x.s.ino x.s.pos;refine bC_of hc ?_;have duo7:=duo6.grew g6;have d6:=g6.cells d5;simp only [zjZ,gCS,gCZ,zbZ];rw [zbarZ]; unfold zrcZ;simp only [zkvZ,dTt,zbZ,zcxZ,beq_self_eq_true,zbsZ,zoZ,if_true,true_and];exact (fin _ _ _ _ duo7 (by unfold zyiZ; simp [hk])).2)
abbrev XStp:=UInt8 × (UInt8 × (UInt8 × (Int × (Int × (Int × ((Sl UInt8) × (Bool × ((Sl Bool) × ((Sl Int) × Unit)))))))))
theorem slT_sv (x : Sl Bool) (hn : x.nil=true→x.l=[]) : SV encT 1 x.l (if x.nil then .lit (.slice none 0 0) else .imm (x.l.flatMap encT) x.l.length 1):=by
 cases hnil : x.nil with
 | true => simp only [if_true]; rw [hn hnil]; exact SV.nil
 | false => simp only [Bool.false_eq_true,if_false]; exact SV.imm (λ_=>rfl) (λx hx=>rfl)
theorem slU_sv (x : Sl UInt8) (hn : x.nil=true→x.l=[]) : SV encU 1 x.l (if x.nil then .lit (.slice none 0 0) else .imm (x.l.flatMap encU) x.l.length 1):=by
 cases hnil : x.nil with
 | true => simp only [if_true]; rw [hn hnil]; exact SV.nil
 | false => simp only [Bool.false_eq_true,if_false]; exact SV.imm (λ_=>rfl) (λx hx=>rfl)
theorem slZ_sv (x : Sl Int) (hn : x.nil=true→x.l=[]) : SV encZ 1 x.l (if x.nil then .lit (.slice none 0 0) else .imm (x.l.flatMap encZ) x.l.length 1):=by
 cases hnil : x.nil with
 | true => simp only [if_true]; rw [hn hnil]; exact SV.nil
 | false => simp only [Bool.false_eq_true,if_false]; exact SV.imm (λ_=>rfl) (λx hx=>rfl)
def okX (x : XStp) : Prop:=(x.2.2.2.2.2.2.1.nil=true→x.2.2.2.2.2.2.1.l=[])∧(x.2.2.2.2.2.2.2.2.1.nil=true→x.2.2.2.2.2.2.2.2.1.l=[])∧(x.2.2.2.2.2.2.2.2.2.1.nil=true→x.2.2.2.2.2.2.2.2.2.1.l=[])∧x.2.2.2.2.2.1≤9223372036854775807
def stpV (x : XStp) (h : okX x) : StpV:=⟨⟨x.1,x.2.1,x.2.2.1,x.2.2.2.1,x.2.2.2.2.1,x.2.2.2.2.2.1,x.2.2.2.2.2.2.1.l,x.2.2.2.2.2.2.2.1,x.2.2.2.2.2.2.2.2.1.l,x.2.2.2.2.2.2.2.2.2.1.l⟩,_,_,_,slU_sv _ h.1,slT_sv _ h.2.1,slZ_sv _ h.2.2.1⟩
def encXs (x : XStp) : List AV:=[.lit (.int .u8 x.1.toNat)] ++ ([.lit (.int .u8 x.2.1.toNat)] ++ ([.lit (.int .u8 x.2.2.1.toNat)] ++ ([I x.2.2.2.1] ++ ([I x.2.2.2.2.1] ++ ([I x.2.2.2.2.2.1] ++ ([if x.2.2.2.2.2.2.1.nil then .lit (.slice none 0 0) else .imm (x.2.2.2.2.2.2.1.l.flatMap encU) x.2.2.2.2.2.2.1.l.length 1] ++ ([B x.2.2.2.2.2.2.2.1] ++ ([if x.2.2.2.2.2.2.2.2.1.nil then .lit (.slice none 0 0) else .imm (x.2.2.2.2.2.2.2.2.1.l.flatMap encT) x.2.2.2.2.2.2.2.2.1.l.length 1] ++ ([if x.2.2.2.2.2.2.2.2.2.1.nil then .lit (.slice none 0 0) else .imm (x.2.2.2.2.2.2.2.2.2.1.l.flatMap encZ) x.2.2.2.2.2.2.2.2.2.1.l.length 1] ++ [])))))))))
theorem steps_all : ∀ (l : List XStp),(∀ x ∈ l,okX x)→∃ m : List StpV,m.length=l.length∧(∀ y ∈ m,y.s.n≤9223372036854775807)∧∀ enc : XStp→List AV,(∀ x (h : okX x),enc x=encP (stpV x h))→l.flatMap enc=m.flatMap encP
 | [],_ => ⟨[],rfl,by simp,λ_ _=>rfl⟩
 | x :: l,h => by
  obtain ⟨m,h1,h2,h3⟩:=steps_all l λy hy=>h y (by simp [hy])
  have hx:=h x (by simp);refine ⟨stpV x hx :: m,by simp [h1],λy hy=>?_,λenc he=>?_⟩
  ·rcases List.mem_cons.1 hy with rfl | hy
   ·exact hx.2.2.2
   ·exact h2 y hy
  ·rw [List.flatMap_cons,List.flatMap_cons,h3 enc he,he x hx]
theorem steps_sv (s : Sl XStp) (hn : s.nil=true→s.l=[]) (h : ∀ x ∈ s.l,okX x) (enc : XStp→List AV) (he : ∀ x (h : okX x),enc x=encP (stpV x h)) :
  ∃ m : List StpV,SV encP 10 m (if s.nil then .lit (.slice none 0 0) else .imm (s.l.flatMap enc) s.l.length 10)∧m.length=s.l.length∧∀ y ∈ m,y.s.n≤9223372036854775807:=by
 obtain ⟨m,h1,h2,h3⟩:=steps_all s.l h;refine ⟨m, ?_,h1,h2⟩;cases hnil : s.nil with
 | true =>
  simp only [if_true]
  have : m=[]:=by
   have:=hn hnil
   rw [this] at h1;exact List.length_eq_zero_iff.1 h1
  rw [this]; exact SV.nil
 | false =>
  simp only [Bool.false_eq_true,if_false];rw [h3 enc he,← h1];exact SV.imm encP_len λx _=>noIdss_encP x
theorem in64h {n : Int} (h : IntKind.i64.min≤n∧n≤IntKind.i64.max) : -9223372036854775808≤n∧n≤9223372036854775807:=by
 simpa [IntKind.min,IntKind.max,IntKind.signed,IntKind.bits] using h
structure Held (o : Nat) (cs : List AV) (os : Nat) (p : AV) (H : AH) : Prop where
 at' : H[o]? = some (some (.cells cs))
 ne : o ≠ os
 np : o ∉ idS p
theorem Held.step {o : Nat} {cs : List AV} {os : Nat} {p p' : AV} {H H' : AH} (h : Held o cs os p H) (f : StF os p p' H H') : Held o cs os p' H':=by
 have hl:=(gSI.1 h.at').1;exact ⟨(f.same o hl h.ne h.np).trans h.at',h.ne,λz=>(f.ids o z).elim h.np (λz=>by omega)⟩
theorem Held.grew {o : Nat} {cs : List AV} {os : Nat} {p : AV} {H H' : AH} (h : Held o cs os p H) (g : Grew H H') : Held o cs os p H':=⟨g.cells h.at',h.ne,h.np⟩
theorem Held.new {s : StS} {os : Nat} {p : AV} {H : AH} (h : StAt s os p H) (cs : List AV) : Held H.length cs os p (H ++ [some (.cells cs)]) :=
 ⟨top1,by have:=h.os_lt; omega,λz=>by have:=h.p_lt _ z; omega⟩
theorem played_c {room : Int} (hr : room≤9223372036854775807) {l : List StpV} {v : AV} (hv : SV encP 10 l v) (hf : ∀ x ∈ l,¬ wideS x.s∧x.s.n≤9223372036854775807) (hl : l.length≤40) (H : AH) :
  ∃ r H',(∃ s p q,r = .ptr H.length 0∧Duo s s H.length (H.length + 1) p q H'∧SW (4099 * l.length) s∧s=l.foldl (λs x=>zyiZ s x.s) (newS room))∧BCall Tryz.prog 12 [I room,v] H r H':=zbajZ (by
 unfold zvmZ;obtain ⟨r,H1,⟨p,rfl,l1,st0,g,hid⟩,hc⟩:=New_c room H hr;refine bC_of hc ?_;obtain ⟨r,H2,⟨rfl,l2,ds0,g2⟩,hc⟩:=RNew_c room H1 hr;refine bC_of hc ?_;have duo:=duo_new st0 l1 hid ds0 g2;rw [l1] at duo ⊢;refine zrzZ (λm x1 x5 x6 x7 H'=>∃ (j : Nat) (p q : AV),j + m=l.length∧v=x1∧x5 = .ptr H.length 0∧x6 = .ptr (H.length + 1) 0∧x7=I j∧Duo ((l.take j).foldl (λs x=>zyiZ s x.s) (newS room)) ((l.take j).foldl (λs x=>zyiZ s x.s) (newS room)) H.length (H.length + 1) p q H'∧SW (4099 * j) ((l.take j).foldl (λs x=>zyiZ s x.s) (newS room))) ?_ l.length ⟨0,p,nilSl,by omega,rfl,rfl,rfl,rfl,duo,newS_w room⟩;rintro m x1 x5 x6 x7 H3 R hR ⟨j,p,q,hj,rfl,rfl,rfl,rfl,duo,hw⟩;unfold zmtZ;have e5 : abN .neq nilP (.ptr H.length 0) (.lit (.pointer none))=some (B true):=rfl;simp only [hv.len,zbZ,zhfZ,zcxZ];rcases Nat.lt_or_ge j l.length with hlt | hge
 ·have hx:=gEG hlt
  have hmem:=List.getElem_mem hlt;generalize l[j]=x at hx hmem;obtain ⟨f1,f2⟩:=hf x hmem;obtain ⟨r,H4,⟨rfl,p',q',duo'⟩,hc⟩:=Do_c duo hw (by omega) x f1 f2;have hw':=doStep_w hw f1 f2;have q2 : abI .add (I (j : Int)) (I 1)=some (I ((j + 1 : Nat) : Int)):=by rw [zbdZ (by omega) (by omega)]; congr 3
  have htk : (l.take (j + 1)).foldl (λs x=>zyiZ s x.s) (newS room)=zyiZ ((l.take j).foldl (λs x=>zyiZ s x.s) (newS room)) x.s:=by
   rw [List.take_add_one,hx,List.foldl_append]; rfl
  simp only [show ((j : Int) < (l.length : Int)) by omega,dTt,beq_self_eq_true,zbsZ,zbZ,e5,zoZ,if_true,zpZ,zbcZ,hv.idx encP_len hx rfl,rdP];refine bC_of hc ?_;simp only [q2,zbZ];exact hR (m - 1) _ _ _ _ _ (by omega) ⟨j + 1,p',q',by omega,rfl,rfl,rfl,rfl,by rw [htk]; exact duo',by rw [htk,show 4099 * (j + 1)=4099 * j + 4099 by omega]; exact hw'⟩
 ·have ej : j=l.length:=by omega
  subst ej;rw [List.take_length] at duo hw;simp only [Int.lt_irrefl,dFf,show ((false == true)=false) from rfl,zgdZ,zbZ,zoZ,if_false,Bool.false_eq_true,zpZ,zmZ];exact ⟨_,p,q,by trivial,duo,hw,rfl⟩)
def nam (o : OpM) : Prop:=o.kind=1∨o.kind=6∨o.kind=7
def cW (w : OpM) (d : Nd) : Nd:=if d.ino=w.ino then (match chgC w d with | some c => ⟨d.ino,c.1,c.2⟩ | none => d) else d
theorem cW_ino (w : OpM) (d : Nd) : (cW w d).ino=d.ino:=by
 unfold cW
 split
 ·split <;> rfl
 ·rfl
theorem cW_ne {w : OpM} {d : Nd} (h : d.ino ≠ w.ino) : cW w d=d:=by unfold cW; rw [if_neg h]
theorem cW_id {w : OpM} {ds : List Nd} (h : ∀ x ∈ ds,cW w x=x) : ds.map (cW w)=ds:=by
 have:=List.map_congr_left (g:=id) h
 rw [this,List.map_id]
theorem chgD_map {w : OpM} {ds : List Nd} (hs : srtK cmpI Nd.ino ds) : chgD ds w=ds.map (cW w):=by
 unfold chgD
 by_cases hk : hasK Nd.ino ds w.ino
 ·obtain ⟨d,h1,h2,h3⟩:=zvcZ koI hs hk
  rw [h2];cases hc : chgC w d with
  | none =>
   simp only [hc];refine (cW_id λx hx=>?_).symm;unfold cW
   split
   ·rename_i e
    have:=zbfjZ koI hs hx (List.mem_of_getElem? h1) (e.trans h3.symm)
    rw [this,hc]
   ·rfl
  | some c =>
   simp only [hc];apply List.ext_getElem?;intro j;rw [List.getElem?_map,List.getElem?_set];have hl:=(gSI.1 h1).1
   by_cases hj : posK cmpI Nd.ino ds w.ino=j
   ·rw [if_pos hj,← hj,h1,if_pos hl]
    simp only [Option.map_some,cW,h3,if_true,hc]
   ·rw [if_neg hj]
    cases hx : ds[j]? with
    | none => rfl
    | some x =>
     have e : x.ino ≠ w.ino:=λe=>hj (by rw [← e]; exact posK_at koI hs hx)
     simp only [Option.map_some,cW,if_neg e]
 ·rw [atK_none hk]
  refine (cW_id λx hx=>?_).symm;unfold cW;rw [if_neg λe=>hk ⟨x,hx,e⟩]
theorem apW {i : Img} (h : MayW i.1 i.2) {w : OpM} (hw : ¬ nam w) : zexZ i.1 i.2 w=(i.1,i.2.map (cW w)):=by
 unfold nam at hw;rw [← chgD_map h.sd];unfold zexZ;rw [if_pos (mayI_w.2 h),if_neg (by omega)]
 split
 ·rfl
 ·rename_i hc
  rw [if_neg (by omega),if_neg (by omega),chgD_other hc]
theorem posK_mp {f : Nd→Nd} (hf : ∀ d,(f d).ino=d.ino) {ds : List Nd} {k : Int} : posK cmpI Nd.ino (ds.map f) k=posK cmpI Nd.ino ds k:=by
 unfold posK;rw [List.takeWhile_map,List.length_map]
 congr 2
 funext x
 simp only [Function.comp,hf]
theorem hasK_mp {f : Nd→Nd} (hf : ∀ d,(f d).ino=d.ino) {ds : List Nd} {k : Int} : hasK Nd.ino (ds.map f) k ↔ hasK Nd.ino ds k:=by
 unfold hasK;simp only [List.mem_map]
 constructor
 ·rintro ⟨x,⟨y,hy,rfl⟩,e⟩; exact ⟨y,hy,by rw [← e,hf]⟩
 ·rintro ⟨y,hy,e⟩; exact ⟨_,⟨y,hy,rfl⟩,by rw [hf,e]⟩
theorem remD_mp {f : Nd→Nd} (hf : ∀ d,(f d).ino=d.ino) {ns : List Nm} {ds : List Nd} {s : List UInt8} : remD ns (ds.map f) s=(remD ns ds s).map f:=by
 unfold remD
 split
 ·unfold delK
  rw [posK_mp hf,List.map_append,List.map_take,List.map_drop]
 ·rfl
theorem ap_mp {f : Nd→Nd} (hf : ∀ d,(f d).ino=d.ino) {ns : List Nm} {ds : List Nd} {o : OpM} (h : MayW ns ds) (h2 : MayW ns (ds.map f)) (h1 : o.kind=1→f ⟨o.ino,0,[]⟩=⟨o.ino,0,[]⟩)
  (hc : ¬ nam o→∀ d,cW o (f d)=f (cW o d)) : zexZ ns (ds.map f) o=((zexZ ns ds o).1,(zexZ ns ds o).2.map f):=by
 by_cases hn : nam o
 ·unfold zexZ
  rw [if_pos (mayI_w.2 h),if_pos (mayI_w.2 h2)]
  by_cases k1 : o.kind=1
  ·have e : creI ns (ds.map f) o ↔ creI ns ds o:=by unfold creI; rw [hasK_mp hf]
   rw [if_pos k1,if_pos k1]
   by_cases c : creI ns ds o
   ·rw [if_pos c,if_pos (e.2 c)]
    simp only;unfold insK;rw [posK_mp hf,List.map_append,List.map_cons,List.map_take,List.map_drop,h1 k1]
   ·rw [if_neg c,if_neg λq=>c (e.1 q)]
  ·unfold nam at hn
   have kc : ¬ (o.kind=2∨o.kind=3∨o.kind=4∨o.kind=5):=by omega
   rw [if_neg k1,if_neg k1,if_neg kc,if_neg kc,remD_mp hf,remD_mp hf]
   by_cases k6 : o.kind=6
   ·rw [if_pos k6,if_pos k6]
    split <;> rfl
   ·rw [if_neg k6,if_neg k6]
    split <;> rfl
 ·rw [apW (i:=(ns,ds.map f)) h2 hn,apW (i:=(ns,ds)) h hn]
  simp only [List.map_map]
  congr 1
  exact List.map_congr_left λd _=>hc hn d
theorem cm {i : Img} (h : MayW i.1 i.2) {w o : OpM} (hw : ¬ nam w) (h1 : o.kind=1→w.ino ≠ o.ino) (h2 : ¬ nam o→w.ino ≠ o.ino) :
  zexZ (zexZ i.1 i.2 w).1 (zexZ i.1 i.2 w).2 o=zexZ (zexZ i.1 i.2 o).1 (zexZ i.1 i.2 o).2 w:=by
 have hm:=applyI_w h w;rw [apW (i:=zexZ i.1 i.2 o) (applyI_w h o) hw];rw [apW h hw] at hm ⊢;refine ap_mp (cW_ino w) h hm (λk=>?_) λhn d=>?_
 ·unfold cW
  rw [if_neg λe=>h1 k e.symm]
 ·have hne:=h2 hn
  by_cases e : d.ino=o.ino
  ·have q : d.ino ≠ w.ino:=λq=>hne (q.symm.trans e)
   rw [cW_ne q,cW_ne (w:=w) (d:=cW o d) (by rw [cW_ino]; exact q)]
  ·rw [cW_ne e,cW_ne (w:=o) (d:=cW w d) (by rw [cW_ino]; exact e)]
def foldI (l : List OpM) (i : Img) : Img:=l.foldl (λp o=>zexZ p.1 p.2 o) i
theorem push {l : List Int} {o : OpM} (ho : zbgmZ l o) : ∀ {R : List OpM} {K : Img},MayW K.1 K.2→(∀ w ∈ R,¬ zbgmZ l w∧(o.kind=1→w.ino ≠ o.ino))→zexZ (foldI R K).1 (foldI R K).2 o=foldI R (zexZ K.1 K.2 o)
 | [],K,_,_ => rfl
 | w :: R,K,h,hw => by
  obtain ⟨h1,h2⟩:=hw w (by simp);have ih:=push ho (R:=R) (K:=zexZ K.1 K.2 w) (applyI_w h w) λz hz=>hw z (by simp [hz])
  show zexZ (foldI R (zexZ K.1 K.2 w)).1 (foldI R (zexZ K.1 K.2 w)).2 o=foldI R (zexZ (zexZ K.1 K.2 o).1 (zexZ K.1 K.2 o).2 w)
  rw [ih]
  congr 1
  unfold zbgmZ at h1 ho;refine cm h (λq=>h1 ?_) h2 λhn e=>h1 ?_
  ·unfold nam at q; omega
  ·unfold nam at hn
   rw [e]
   right; right; right
   rcases ho with ho | ho | ho | ho
   ·omega
   ·omega
   ·omega
   ·exact ho
theorem reord {l : List Int} : ∀ {r R : List OpM} {K : Img},MayW K.1 K.2→(∀ w ∈ R,¬ zbgmZ l w)→(R ++ r).Pairwise (λw o=>o.kind=1→w.ino ≠ o.ino)→foldI (syncF l r (K,R)).2 (syncF l r (K,R)).1=foldI r (foldI R K)
 | [],R,K,_,_,_ => rfl
 | o :: r,R,K,h,hw,hp => by
  unfold syncF
  split
  ·rename_i ho
   rw [reord (applyI_w h o) hw (hp.sublist ((List.Sublist.refl R).append (List.sublist_cons_self o r)))];rw [← push ho h λw hz=>⟨hw w hz,(List.pairwise_append.1 hp).2.2 w hz o (by simp)⟩];rfl
  ·rename_i ho
   rw [reord (R:=R ++ [o]) h (λw hz=>?_) (by rw [List.append_assoc]; exact hp)]
   ·show foldI r (foldI (R ++ [o]) K)=foldI r (zexZ (foldI R K).1 (foldI R K).2 o)
    unfold foldI;rw [List.foldl_append (l':=[o])]; rfl
   ·simp only [List.mem_append,List.mem_singleton] at hz
    rcases hz with hz | rfl
    ·exact hw w hz
    ·exact ho
def FrX (X : Int) (K K' : Img) : Prop:=MayW K'.1 K'.2∧K'.1=K.1∧∀ d : Nd,d.ino=X→(d ∈ K'.2 ↔ d ∈ K.2)
theorem FrX.refl {X : Int} {K : Img} (h : MayW K.1 K.2) : FrX X K K:=⟨h,rfl,λ_ _=>Iff.rfl⟩
theorem FrX.step {X : Int} {K K' : Img} (h : FrX X K K') {o : OpM} (hn : ¬ nam o) (hx : o.ino ≠ X) : FrX X K (zexZ K'.1 K'.2 o):=by
 refine ⟨applyI_w h.1 o, ?_,λd hd=>?_⟩
 ·rw [apW h.1 hn]; exact h.2.1
 ·rw [apW h.1 hn,← chgD_map h.1.sd]
  exact (mem_chgD_ne h.1.sd (by rw [hd]; exact λe=>hx e.symm)).trans (h.2.2 d hd)
theorem FrX.keep {X : Int} {bits : List Bool} {K : Img} : ∀ {r : List OpM} {i : Nat} {K' : Img},FrX X K K'→(∀ o ∈ r,¬ nam o∧o.ino ≠ X)→FrX X K (keepF bits i r K')
 | [],i,K',h,_ => h
 | o :: r,i,K',h,ho => by
  unfold keepF;refine FrX.keep ?_ λz hz=>ho z (by simp [hz])
  split
  ·exact h.step (ho o (by simp)).1 (ho o (by simp)).2
  ·exact h
theorem FrX.fold {X : Int} {K : Img} : ∀ {r : List OpM} {K' : Img},FrX X K K'→(∀ o ∈ r,¬ nam o∧o.ino ≠ X)→FrX X K (foldI r K')
 | [],K',h,_ => h
 | o :: r,K',h,ho => FrX.fold (r:=r) (h.step (ho o (by simp)).1 (ho o (by simp)).2) λz hz=>ho z (by simp [hz])
theorem FrX.get {X : Int} {K A B : Img} (a : FrX X K A) (b : FrX X K B) (hk : hasK Nd.ino A.2 X) : A.1=B.1∧hasG B.1 B.2 X∧getN A.1 A.2 X=getN B.1 B.2 X:=by
 obtain ⟨d,hd,rfl⟩:=hk;have hb:=(b.2.2 d rfl).2 ((a.2.2 d rfl).1 hd);exact ⟨a.2.1.trans b.2.1.symm,(getN_w b.1 hb).2,(getN_w a.1 hd).1.trans (getN_w b.1 hb).1.symm⟩
structure IvC (m : Int) (s : StS) : Prop where
 now : s.now=foldI s.pend s.kept
 pw : s.pend.Pairwise λw o=>o.kind=1→w.ino ≠ o.ino
 le : ∀ w ∈ s.pend,w.ino≤m
 nl : ∀ x ∈ s.now.1,x.ino≤m
 kl : ∀ x ∈ s.kept.1,x.ino≤m
theorem nle {m : Int} {i : Img} (h : ∀ x ∈ i.1,x.ino≤m) {o : OpM} (ho : o.ino≤m) : ∀ x ∈ (zexZ i.1 i.2 o).1,x.ino≤m:=by
 have hr : ∀ (l : List Nm) (s : List UInt8),∀ x ∈ remNs l s,x ∈ l:=λl s x hx=>by
  unfold remNs at hx;split at hx
  ·exact delK_sub.subset hx
  ·exact hx
 intro x hx;unfold zexZ at hx;split at hx
 ·split at hx
  ·split at hx
   ·rcases zybZ.1 hx with rfl | hx
    ·exact ho
    ·exact h x hx
   ·exact h x hx
  ·split at hx
   ·exact h x hx
   ·split at hx
    ·split at hx
     ·rename_i hok
      rcases zybZ.1 hx with rfl | hx
      ·obtain ⟨y,e1,e2,e3⟩:=atK_has hok.1
       show nameI i.1 o.name≤m
       unfold nameI;rw [e1]; exact h y e2
      ·exact h x (delK_sub.subset (hr _ _ x hx))
     ·exact h x hx
    ·split at hx
     ·exact h x (hr _ _ x hx)
     ·exact h x hx
 ·exact h x hx
theorem IvC.mono {m m' : Int} {s : StS} (h : IvC m s) (hm : m≤m') : IvC m' s :=
 ⟨h.now,h.pw,λw hw=>Int.le_trans (h.le w hw) hm,λx hx=>Int.le_trans (h.nl x hx) hm,λx hx=>Int.le_trans (h.kl x hx) hm⟩
theorem IvC.deed {m : Int} {s : StS} (h : IvC m s) : IvC m (deedS s).2:=by
 obtain ⟨e1,e2,e3,e4,e5⟩:=zguZ s;exact ⟨by rw [e1,e2,e3]; exact h.now,by rw [e3]; exact h.pw,by rw [e3]; exact h.le,by rw [e1]; exact h.nl,by rw [e2]; exact h.kl⟩
theorem IvC.do {m : Int} {s : StS} (h : IvC m s) {o : OpM} (ho : o.ino≤m) (h1 : o.kind=1→∀ w ∈ s.pend,w.ino ≠ o.ino) : IvC m (doS s o).2:=by
 obtain ⟨e1,e2,e3,e4,e5⟩:=zguZ s;unfold doS
 split
 ·refine ⟨?_, ?_,λw hw=>?_,nle h.nl ho,by simp only [e2]; exact h.kl⟩
  ·simp only [e2]
   unfold foldI;rw [List.foldl_append]
   show _=zexZ (foldI s.pend s.kept).1 (foldI s.pend s.kept).2 o
   rw [← h.now]
  ·simp only
   rw [List.pairwise_append];refine ⟨h.pw,by simp,λw hw z hz=>?_⟩;simp only [List.mem_singleton] at hz;subst hz;exact λk=>h1 k w hw
  ·simp only [List.mem_append,List.mem_singleton] at hw
   rcases hw with hw | rfl
   ·exact h.le w hw
   ·exact ho
 ·exact h.deed
theorem doS_made (s : StS) (o : OpM) : (doS s o).2.made=s.made:=by
 obtain ⟨e1,e2,e3,e4,e5⟩:=zguZ s;unfold doS
 split
 ·exact e4
 ·exact e4
def IvS (s : StS) : Prop:=IvC s.made s
theorem IvS.do {s : StS} (h : IvS s) {o : OpM} (ho : o.ino≤s.made) (h1 : o.kind ≠ 1) : IvS (doS s o).2:=by
 unfold IvS;rw [doS_made];exact IvC.do h ho λk=>absurd k h1
theorem IvS.new (n : Int) : IvS (newS n):=⟨rfl,by simp [newS],by simp [newS],by simp [newS],by simp [newS]⟩
theorem IvS.open {s : StS} (h : IvS s) (name : List UInt8) (make : Bool) : IvS (openS s name make).2:=by
 unfold openS
 split
 ·exact h
 ·split
  ·exact h
  ·have hd : IvC (s.made + 1) (doS s (opCre name (s.made + 1))).2:=(IvC.mono h (by omega)).do (o:=opCre name (s.made + 1)) (by simp [opCre]) λ_ w hw=>by
    have:=IvC.le h w hw
    show w.ino ≠ s.made + 1
    omega
   split
   ·rename_i hf
    have e : (doS s (opCre name (s.made + 1))).2=(deedS s).2:=by
     unfold doS at hf ⊢;split at hf
     ·simp at hf
     ·rename_i q; rw [if_neg q]
    rw [e]
    show IvC (deedS s).2.made (deedS s).2
    rw [(zguZ s).2.2.2.1];exact IvC.deed h
   ·exact ⟨hd.now,hd.pw,hd.le,hd.nl,hd.kl⟩
theorem IvS.ino {N : Nat} {s : StS} (h : IvS s) (hw : SW N s) {i : Int} (hc : ¬ (zsZ s i).2 ≠ 0) : i≤s.made:=by
 unfold zsZ at hc;split at hc
 ·simp at hc
 ·split at hc
  ·rename_i hg
   obtain ⟨x,hx,e⟩:=(hw.now.1.ino i).1 hg.2;rw [← e]; exact h.nl x hx
  ·simp at hc
theorem IvS.wr {c : List Ext} {ino pos : Int} {b : List UInt8} : ∀ {l : List Sp} {s : StS},IvS s→ino≤s.made→IvS (wrS c ino pos b l s).2
 | [],s,h,_ => h
 | q :: r,s,h,hi => by
  have hd : IvS (doS s (opWr ino q.pos (partB b pos q))).2:=h.do hi (by simp [opWr]);unfold wrS
  split
  ·exact h
  ·split
   ·exact hd
   ·exact IvS.wr hd (by rw [doS_made]; exact hi)
theorem syncF_sub {l : List Int} : ∀ {r : List OpM} {x : Img × List OpM},(syncF l r x).2.Sublist (x.2 ++ r)
 | [],x => by simp [syncF]
 | o :: r,x => by
  unfold syncF
  split
  ·exact (syncF_sub (r:=r) (x:=(zexZ x.1.1 x.1.2 o,x.2))).trans ((List.Sublist.refl _).append (List.sublist_cons_self o r))
  ·have:=syncF_sub (l:=l) (r:=r) (x:=(x.1,x.2 ++ [o]))
   simpa using this
theorem syncF_ns {l : List Int} : ∀ {r : List OpM} {x : Img × List OpM},(∀ o ∈ x.2,¬ zbgmZ l o)→∀ o ∈ (syncF l r x).2,¬ zbgmZ l o
 | [],x,h => h
 | o :: r,x,h => by
  unfold syncF
  split
  ·exact syncF_ns (r:=r) (x:=(zexZ x.1.1 x.1.2 o,x.2)) h
  ·rename_i q
   refine syncF_ns (r:=r) (x:=(x.1,x.2 ++ [o])) λz hz=>?_
   simp only [List.mem_append,List.mem_singleton] at hz;rcases hz with hz | rfl
   ·exact h z hz
   ·exact q
theorem syncF_l {m : Int} {l : List Int} : ∀ {r : List OpM} {x : Img × List OpM},(∀ y ∈ x.1.1,y.ino≤m)→(∀ o ∈ r,o.ino≤m)→∀ y ∈ (syncF l r x).1.1,y.ino≤m
 | [],x,h,_ => h
 | o :: r,x,h,ho => by
  unfold syncF
  split
  ·exact syncF_l (r:=r) (x:=(zexZ x.1.1 x.1.2 o,x.2)) (nle h (ho o (by simp))) λz hz=>ho z (by simp [hz])
  ·exact syncF_l (r:=r) (x:=(x.1,x.2 ++ [o])) h λz hz=>ho z (by simp [hz])
theorem keepF_l {m : Int} {bits : List Bool} : ∀ {r : List OpM} {i : Nat} {x : Img},(∀ y ∈ x.1,y.ino≤m)→(∀ o ∈ r,o.ino≤m)→∀ y ∈ (keepF bits i r x).1,y.ino≤m
 | [],i,x,h,_ => h
 | o :: r,i,x,h,ho => by
  unfold keepF;refine keepF_l ?_ λz hz=>ho z (by simp [hz])
  split
  ·exact nle h (ho o (by simp))
  ·exact h
theorem IvS.sync {N : Nat} {s : StS} (h : IvS s) (hw : SW N s) (l : List Int) : IvS (syncS s l).2:=by
 obtain ⟨e1,e2,e3,e4,e5⟩:=zguZ s;obtain ⟨a,hk,-⟩:=hw.kept;unfold syncS
 split
 ·have hs:=syncF_sub (l:=l) (r:=s.pend) (x:=(s.kept,[]))
  have hI : IvC s.made s:=h
  show IvC (deedS s).2.made _
  rw [e4];refine ⟨?_,hI.pw.sublist hs,λw hz=>hI.le w (hs.subset hz),by simp only [e1]; exact hI.nl,syncF_l (x:=(s.kept,[])) hI.kl hI.le⟩;simp only [e1];rw [reord (R:=[]) hk.1 (by simp) hI.pw];exact hI.now
 ·show IvC (deedS s).2.made (deedS s).2
  rw [e4];exact IvC.deed h
theorem IvS.rest {s : StS} (h : IvS s) (bits : List Bool) : IvS (restS s bits):=by
 have hI : IvC s.made s:=h;have hk:=keepF_l (bits:=bits) (i:=0) hI.kl hI.le;exact ⟨rfl,by simp [restS],by simp [restS],hk,hk⟩
theorem ite_iv {c : Prop} [Decidable c] {a b : StS} (h1 : IvS a) (h2 : IvS b) : IvS (if c then a else b):=by
 by_cases h : c
 ·rw [if_pos h]; exact h1
 ·rw [if_neg h]; exact h2
theorem IvS.step {N : Nat} {s : StS} (h : IvS s) (hw : SW N s) (x : Stp) : IvS (zyiZ s x):=by
 have hI : IvC s.made s:=h;have hm:=hw.made.1;unfold zyiZ;refine ite_iv (h.open _ _) (ite_iv ?_ (ite_iv ?_ (ite_iv ?_ (ite_iv ?_ (ite_iv ?_ (ite_iv ?_ (ite_iv (h.sync hw _) (ite_iv (h.sync hw _) (ite_iv (h.sync hw _) (ite_iv ⟨hI.now,hI.pw,hI.le,hI.nl,hI.kl⟩ (ite_iv (h.rest _) h)))))))))))
 ·unfold zbgkZ
  split
  ·exact h
  ·rename_i hc
   split
   ·exact h
   ·exact h.wr (h.ino hw hc)
 ·unfold truncS
  split
  ·exact h
  ·rename_i hc
   split
   ·exact h
   ·exact h.do (h.ino hw hc) (by simp [opTr])
 ·unfold allocS
  split
  ·exact h
  ·rename_i hc
   split
   ·exact h
   ·split
    ·exact h
    ·exact h.do (h.ino hw hc) (by simp [opAl])
 ·unfold punchS
  split
  ·exact h
  ·rename_i hc
   split
   ·exact h
   ·exact h.do (h.ino hw hc) (by simp [opPu])
 ·unfold renS
  split
  ·exact h
  ·split
   ·exact h
   ·exact h.do hm (by simp [opRen])
 ·unfold remS
  split
  ·exact h
  ·exact h.do hm (by simp [opRem])
theorem IvS.steps : ∀ {l : List StpV} {N : Nat} {s : StS},IvS s→SW N s→(∀ x ∈ l,¬ wideS x.s∧x.s.n≤9223372036854775807)→IvS (l.foldl (λs x=>zyiZ s x.s) s)
 | [],N,s,h,_,_ => h
 | x :: l,N,s,h,hw,hx => IvS.steps (l:=l) (h.step hw x.s) (doStep_w hw (hx x (by simp)).1 (hx x (by simp)).2) λz hz=>hx z (by simp [hz])
theorem synced {N : Nat} {s : StS} (h : IvS s) (hw : SW N s) {name : List UInt8} (hf : (findS s name).2=0) (ok : (syncS s [(findS s name).1]).1=0) (bits : List Bool) :
  hasK Nm.name s.now.1 name∧(findS s name).1=nameI s.now.1 name∧(syncS s [(findS s name).1]).2.now=s.now∧(restS (syncS s [(findS s name).1]).2 bits).now.1=s.now.1∧hasG (restS (syncS s [(findS s name).1]).2 bits).now.1 (restS (syncS s [(findS s name).1]).2 bits).now.2 (findS s name).1∧getN s.now.1 s.now.2 (findS s name).1=getN (restS (syncS s [(findS s name).1]).2 bits).now.1 (restS (syncS s [(findS s name).1]).2 bits).now.2 (findS s name).1:=by
 obtain ⟨a1,a2,a3,a4⟩:=findS_0 hf;obtain ⟨e1,e2,e3,e4,e5⟩:=zguZ s;obtain ⟨x,hx,hxe⟩:=a2
 have hin : hasK Nd.ino s.now.2 (findS s name).1:=by
  rw [a4,← hxe,nameI_mem hw.now.1.srt hx];exact (hw.now.1.ino x.ino).2 ⟨x,hx,rfl⟩
 generalize (findS s name).1=X at *;have h2:=h.sync hw [X];have hw2:=syncS_w hw [X];obtain ⟨a,hk,-⟩:=hw2.kept;have en : (syncS s [X]).2.now=s.now:=by unfold syncS; split <;> exact e1
 have hp : ∀ o ∈ (syncS s [X]).2.pend,¬ nam o∧o.ino ≠ X:=by
  have : (syncS s [X]).2.pend=(syncF [X] s.pend (s.kept,[])).2:=by
   unfold syncS at ok ⊢
   split
   ·rfl
   ·rename_i q; rw [if_neg q] at ok; simp at ok
  rw [this];intro o ho;have hs:=syncF_ns (l:=[X]) (r:=s.pend) (x:=(s.kept,[])) (by simp) o ho;unfold zbgmZ at hs;simp only [List.mem_singleton] at hs;unfold nam;omega
 have hI : IvC _ (syncS s [X]).2:=h2;have fa : FrX X (syncS s [X]).2.kept (syncS s [X]).2.now:=by rw [hI.now]; exact (FrX.refl hk.1).fold hp
 have fb : FrX X (syncS s [X]).2.kept (restS (syncS s [X]).2 bits).now:=(FrX.refl hk.1).keep hp;rw [en] at fa;obtain ⟨g1,g2,g3⟩:=fa.get fb hin;exact ⟨⟨x,hx,hxe⟩,a4,en,g1.symm,g2,g3⟩
end Go.Proofs.YtlhiaihmkjlaaaaGreat.Av
end
section
end
