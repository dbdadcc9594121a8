/- Texts of this proof, one behind the other, packed into one file by a program of this session. No condition. -/
import Derived.Test.YtlhiaihmkjlaaaaGreatMrK
set_option linter.unusedVariables false
set_option linter.unusedSimpArgs false
set_option maxRecDepth 100000
section
namespace Go.Proofs.YtlhiaihmkjlaaaaGreat.Av
open Go Go.RowKit
def opAl (ino pos n : Int) (keep : Bool) : OpM:=⟨4,ino,pos,n,keep,[],[],[]⟩
def opPu (ino pos n : Int) : OpM:=⟨5,ino,pos,n,false,[],[],[]⟩
theorem opAl_b (ino pos n : Int) (keep : Bool) : OpB (opAl ino pos n keep):=⟨by simp [opAl],by simp [opAl],by simp [opAl]⟩
theorem opPu_b (ino pos n : Int) : OpB (opPu ino pos n):=⟨by simp [opPu],by simp [opPu],by simp [opPu]⟩
def punchS (s : StS) (ino pos n : Int) : Int × StS :=
 if (zsZ s ino).2 ≠ 0 then ((zsZ s ino).2,s) else if zwxZ (zsZ s ino).1 pos n=none then (5,s) else doS s (opPu ino pos n)
def allocS (s : StS) (ino pos n : Int) (keep : Bool) : Int × StS :=
 if (zsZ s ino).2 ≠ 0 then ((zsZ s ino).2,s) else if ztqZ (zsZ s ino).1 pos n keep=none then (5,s)
 else if freeS s < (cL (ztqZ (zsZ s ino).1 pos n keep)).length - (zsZ s ino).1.2.length then (4,s) else doS s (opAl ino pos n keep)
theorem punchS_w {N : Nat} {s : StS} (h : SW N s) (ino pos n : Int) : SW (N + 1) (punchS s ino pos n).2:=by
 unfold punchS
 split
 ·exact h.mono (by omega)
 ·split
  ·exact h.mono (by omega)
  ·exact doS_w h (opPu_b ino pos n)
theorem allocS_w {N : Nat} {s : StS} (h : SW N s) (ino pos n : Int) (keep : Bool) : SW (N + 4099) (allocS s ino pos n keep).2:=by
 unfold allocS
 split
 ·exact h.mono (by omega)
 ·split
  ·exact h.mono (by omega)
  ·split
   ·exact h.mono (by omega)
   ·exact doS_w h (opAl_b ino pos n keep)
noncomputable def dataS (s : StS) (ino pos : Int) : Int × Int :=
 if (zsZ s ino).2 ≠ 0 then (0,(zsZ s ino).2) else match dataC (zsZ s ino).1.1 (zsZ s ino).1.2 pos with | none => (0,5) | some n => (n,0)
noncomputable def holeS (s : StS) (ino pos : Int) : Int × Int :=
 if (zsZ s ino).2 ≠ 0 then (0,(zsZ s ino).2) else match holeC (zsZ s ino).1.1 (zsZ s ino).1.2 pos with | none => (0,5) | some n => (n,0)
theorem alloc_bnd {c : Cont} {pos n : Int} {keep : Bool} : (cL (ztqZ c pos n keep)).length≤c.2.length + 4098:=by
 have h:=chg_len (o:=opAl 0 pos n keep) (d:=⟨0,c.1,c.2⟩)
 simpa [chgC,opAl] using h
theorem RFree_c {N : Nat} {s : StS} {os : Nat} {p : AV} {H : AH} (h : DsAt s os p H) (hw : SW N s) (hN : N≤900000) : BCall Tryz.prog 110 [.ptr os 0] H (I (freeS s)) H:=by
 obtain ⟨r,H',⟨rfl,rfl⟩,hc⟩:=zufZ (a0:=.ptr os 0) (H:=H) (K:=λr H'=>r=I (freeS s)∧H'=H) (by
  obtain ⟨a,b,c,d,pv,h⟩:=h;unfold zohZ;have hu:=ref_Used_p h.now (hw.now.sm (by omega));rw [usedI_w hw.now.1] at hu;have hs:=sumL_few hw.now;have hcap:=hw.cap;have e1 : abI .sub (I s.cap) (I (sumL s.now.2 : Int))=some (I (s.cap - sumL s.now.2)):=zfpZ (by omega) (by omega);have e2 : amm imx [I (s.cap - sumL s.now.2),(I 0)]=some (I (freeS s)):=by rw [zbggZ,imx_eq]; rfl
  simp only [zkZ,zbZ,zeZ,Nat.zero_add,zlZ h.obj,zdZ,gCS,gCZ,(rdD _ _ _ _ _ _ _ _ _).1];refine bP_of hu ?_;simp only [e1,zbZ,e2];exact ⟨by trivial,by trivial⟩)
 exact hc
theorem RTrunc_c {N : Nat} {s : StS} {os : Nat} {p : AV} {H : AH} (h : DsAt s os p H) (hw : SW N s) (hN : N < 900000) (ino size : Int) :
  ∃ r H',(r=I (truncS s ino size).1∧∃ p',DsAt (truncS s ino size).2 os p' H'∧StF os p p' H H')∧BCall Tryz.prog 78 [.ptr os 0,I ino,I size] H r H':=zqfZ (by
 unfold zjbZ;obtain ⟨R,hR,r,H1,⟨rfl,g1⟩,hc⟩:=Rfile_c h hw (by omega) ino;have hlen:=zesZ hw ino;refine bC_of hc ?_;unfold truncS;generalize zsZ s ino=ct at *;have oR:=SV.oneA hR;have h1:=h.grew g1;have g2:=Grew.app H1 [some (.cells [I ct.1.1,R])];have h2:=h1.grew g2;simp only [ziZ,gCS,gCZ,zbZ,nwC,zbpZ,stC' _ _ oR,zcaZ,zkuZ,zpZ]
 by_cases hc0 : ct.2=0
 ·simp only [hc0,ne_eq,not_true_eq_false,dFf,zmZ,if_false,zlZ top1,rd2,zbZ]
  obtain ⟨R2,hR2,hp⟩:=zpwZ (size0:=ct.1.1) hR (by omega) size;refine zyZ hp ?_;have oR2:=SV.oneA hR2;have g3:=Grew.app (H1 ++ [some (AObj.cells [I ct.1.1,R])]) [some (.cells [I (cS (zvnZ (ct.1.1,ct.1.2) size)),R2])];have h3:=h2.grew g3;have ff : StF os p p H (H1 ++ [some (AObj.cells [I ct.1.1,R])] ++ [some (.cells [I (cS (zvnZ (ct.1.1,ct.1.2) size)),R2])]):=.of_grew ((g1.trans g2).trans g3);simp only [ziZ,gCS,gCZ,zbZ,nwC,zbpZ,stC' _ _ oR2,zcaZ,zduZ,zpZ];cases ht : zvnZ (ct.1.1,ct.1.2) size with
  | none =>
   have ht' : zvnZ ct.1 size=none:=ht;rw [ht] at h3 ff;simp only [Option.isSome_none,Bool.not_false,zbcZ,ht',if_true];exact ⟨by trivial,p,h3,ff⟩
  | some c2 =>
   have ht' : ¬ zvnZ ct.1 size=none:=by rw [show zvnZ ct.1 size=some c2 from ht]; simp
   rw [ht] at h3 ff;have e2 : abl [(I 0),(I 0),(I 0),(I 0),(B false),(.lit (.string ⟨#[]⟩)),(.lit (.string ⟨#[]⟩)),nilSl] [(0,1,(I 3)),(1,1,I ino),(3,1,I size)]=some (.agg (opA (opTr ino size) nilSl)):=rfl;simp only [Option.isSome_some,Bool.not_true,zmZ,ht',if_false,e2,zbZ];obtain ⟨r,H2,⟨rfl,p2,h4,f4⟩,hcall⟩:=Rdo_c (bv:=nilSl) (o:=opTr ino size) h3 hw (by omega) SV.nil (opTr_b ino size);exact bC_of hcall ⟨rfl,p2,h4,ff.trans f4⟩
 ·simp only [hc0,ne_eq,not_false_eq_true,dTt,zbcZ,if_true]
  exact ⟨by trivial,p,h2,.of_grew (g1.trans g2)⟩)
theorem Punch_c {N : Nat} {s : StS} {os : Nat} {p : AV} {H : AH} (h : StAt s os p H) (hw : SW N s) (hN : N < 900000) (ino pos n : Int) :
  ∃ r H',(r=I (punchS s ino pos n).1∧∃ p',StAt (punchS s ino pos n).2 os p' H'∧StF os p p' H H')∧BCall Tryz.prog 27 [.ptr os 0,I ino,I pos,I n] H r H':=zbbwZ (by
 unfold zxeZ;obtain ⟨R,hR,r,H1,⟨rfl,g1⟩,hc⟩:=zwyZ h hw (by omega) ino;have hlen:=zesZ hw ino;refine bC_of hc ?_;unfold punchS;generalize zsZ s ino=ct at *;have oR:=SV.oneA hR;have h1:=h.grew g1;have g2:=Grew.app H1 [some (.cells [I ct.1.1,R])];have h2:=h1.grew g2;simp only [ziZ,gCS,gCZ,zbZ,nwC,zbpZ,stC' _ _ oR,zcaZ,zkuZ,zpZ]
 by_cases hc0 : ct.2=0
 ·simp only [hc0,ne_eq,not_true_eq_false,dFf,zmZ,if_false,zlZ top1,rd2,zbZ]
  obtain ⟨R2,hR2,hp⟩:=zbeiZ (size:=ct.1.1) hR (by omega) pos n;refine zyZ hp ?_;have oR2:=SV.oneA hR2;have g3:=Grew.app (H1 ++ [some (AObj.cells [I ct.1.1,R])]) [some (.cells [I (cS (zwxZ (ct.1.1,ct.1.2) pos n)),R2])];have h3:=h2.grew g3;have ff : StF os p p H (H1 ++ [some (AObj.cells [I ct.1.1,R])] ++ [some (.cells [I (cS (zwxZ (ct.1.1,ct.1.2) pos n)),R2])]):=.of_grew ((g1.trans g2).trans g3);simp only [ziZ,gCS,gCZ,zbZ,nwC,zbpZ,stC' _ _ oR2,zcaZ,zduZ,zpZ];cases ht : zwxZ (ct.1.1,ct.1.2) pos n with
  | none =>
   have ht' : zwxZ ct.1 pos n=none:=ht;rw [ht] at h3 ff;simp only [Option.isSome_none,Bool.not_false,zbcZ,ht',if_true];exact ⟨by trivial,p,h3,ff⟩
  | some c2 =>
   have ht' : ¬ zwxZ ct.1 pos n=none:=by rw [show zwxZ ct.1 pos n=some c2 from ht]; simp
   rw [ht] at h3 ff;have e2 : abl [(I 0),(I 0),(I 0),(I 0),(B false),(.lit (.string ⟨#[]⟩)),(.lit (.string ⟨#[]⟩)),nilSl] [(0,1,(I 5)),(1,1,I ino),(2,1,I pos),(3,1,I n)]=some (.agg (opA (opPu ino pos n) nilSl)):=rfl;simp only [Option.isSome_some,Bool.not_true,zmZ,ht',if_false,e2,zbZ];obtain ⟨r,H2,⟨rfl,p2,h4,f4⟩,hcall⟩:=do_c (bv:=nilSl) (o:=opPu ino pos n) h3 hw (by omega) SV.nil (opPu_b ino pos n);exact bC_of hcall ⟨rfl,p2,h4,ff.trans f4⟩
 ·simp only [hc0,ne_eq,not_false_eq_true,dTt,zbcZ,if_true]
  exact ⟨by trivial,p,h2,.of_grew (g1.trans g2)⟩)
theorem RPunch_c {N : Nat} {s : StS} {os : Nat} {p : AV} {H : AH} (h : DsAt s os p H) (hw : SW N s) (hN : N < 900000) (ino pos n : Int) :
  ∃ r H',(r=I (punchS s ino pos n).1∧∃ p',DsAt (punchS s ino pos n).2 os p' H'∧StF os p p' H H')∧BCall Tryz.prog 80 [.ptr os 0,I ino,I pos,I n] H r H':=ztcZ (by
 unfold zmpZ;obtain ⟨R,hR,r,H1,⟨rfl,g1⟩,hc⟩:=Rfile_c h hw (by omega) ino;have hlen:=zesZ hw ino;refine bC_of hc ?_;unfold punchS;generalize zsZ s ino=ct at *;have oR:=SV.oneA hR;have h1:=h.grew g1;have g2:=Grew.app H1 [some (.cells [I ct.1.1,R])];have h2:=h1.grew g2;simp only [ziZ,gCS,gCZ,zbZ,nwC,zbpZ,stC' _ _ oR,zcaZ,zkuZ,zpZ]
 by_cases hc0 : ct.2=0
 ·simp only [hc0,ne_eq,not_true_eq_false,dFf,zmZ,if_false,zlZ top1,rd2,zbZ]
  obtain ⟨R2,hR2,hp⟩:=zvzZ (size:=ct.1.1) hR (by omega) pos n;refine zyZ hp ?_;have oR2:=SV.oneA hR2;have g3:=Grew.app (H1 ++ [some (AObj.cells [I ct.1.1,R])]) [some (.cells [I (cS (zwxZ (ct.1.1,ct.1.2) pos n)),R2])];have h3:=h2.grew g3;have ff : StF os p p H (H1 ++ [some (AObj.cells [I ct.1.1,R])] ++ [some (.cells [I (cS (zwxZ (ct.1.1,ct.1.2) pos n)),R2])]):=.of_grew ((g1.trans g2).trans g3);simp only [ziZ,gCS,gCZ,zbZ,nwC,zbpZ,stC' _ _ oR2,zcaZ,zduZ,zpZ];cases ht : zwxZ (ct.1.1,ct.1.2) pos n with
  | none =>
   have ht' : zwxZ ct.1 pos n=none:=ht;rw [ht] at h3 ff;simp only [Option.isSome_none,Bool.not_false,zbcZ,ht',if_true];exact ⟨by trivial,p,h3,ff⟩
  | some c2 =>
   have ht' : ¬ zwxZ ct.1 pos n=none:=by rw [show zwxZ ct.1 pos n=some c2 from ht]; simp
   rw [ht] at h3 ff;have e2 : abl [(I 0),(I 0),(I 0),(I 0),(B false),(.lit (.string ⟨#[]⟩)),(.lit (.string ⟨#[]⟩)),nilSl] [(0,1,(I 5)),(1,1,I ino),(2,1,I pos),(3,1,I n)]=some (.agg (opA (opPu ino pos n) nilSl)):=rfl;simp only [Option.isSome_some,Bool.not_true,zmZ,ht',if_false,e2,zbZ];obtain ⟨r,H2,⟨rfl,p2,h4,f4⟩,hcall⟩:=Rdo_c (bv:=nilSl) (o:=opPu ino pos n) h3 hw (by omega) SV.nil (opPu_b ino pos n);exact bC_of hcall ⟨rfl,p2,h4,ff.trans f4⟩
 ·simp only [hc0,ne_eq,not_false_eq_true,dTt,zbcZ,if_true]
  exact ⟨by trivial,p,h2,.of_grew (g1.trans g2)⟩)
theorem Alloc_c {N : Nat} {s : StS} {os : Nat} {p : AV} {H : AH} (h : StAt s os p H) (hw : SW N s) (hN : N < 900000) (ino pos n : Int) (keep : Bool) :
  ∃ r H',(r=I (allocS s ino pos n keep).1∧∃ p',StAt (allocS s ino pos n keep).2 os p' H'∧StF os p p' H H')∧BCall Tryz.prog 26 [.ptr os 0,I ino,I pos,I n,B keep] H r H':=zymZ (by
 unfold zrqZ;obtain ⟨R,hR,r,H1,⟨rfl,g1⟩,hc⟩:=zwyZ h hw (by omega) ino;have hlen:=zesZ hw ino;refine bC_of hc ?_;unfold allocS;generalize zsZ s ino=ct at *;have oR:=SV.oneA hR;have h1:=h.grew g1;have g2:=Grew.app H1 [some (.cells [I ct.1.1,R])];have h2:=h1.grew g2;simp only [ziZ,gCS,gCZ,zbZ,nwC,zbpZ,stC' _ _ oR,zcaZ,zkuZ,zpZ]
 by_cases hc0 : ct.2=0
 ·simp only [hc0,ne_eq,not_true_eq_false,dFf,zmZ,if_false,zlZ top1,rd2,zbZ]
  obtain ⟨R2,hR2,hp⟩:=zycZ (size:=ct.1.1) hR (by omega) pos n keep;refine zyZ hp ?_;have oR2:=SV.oneA hR2;have g3:=Grew.app (H1 ++ [some (AObj.cells [I ct.1.1,R])]) [some (.cells [I (cS (ztqZ (ct.1.1,ct.1.2) pos n keep)),R2])];have h3:=h2.grew g3;have ff : StF os p p H (H1 ++ [some (AObj.cells [I ct.1.1,R])] ++ [some (.cells [I (cS (ztqZ (ct.1.1,ct.1.2) pos n keep)),R2])]):=.of_grew ((g1.trans g2).trans g3);simp only [ziZ,gCS,gCZ,zbZ,nwC,zbpZ,stC' _ _ oR2,zcaZ,zduZ,zpZ];cases ht : ztqZ (ct.1.1,ct.1.2) pos n keep with
  | none =>
   have ht' : ztqZ ct.1 pos n keep=none:=ht;rw [ht] at h3 ff;simp only [Option.isSome_none,Bool.not_false,zbcZ,ht',if_true];exact ⟨by trivial,p,h3,ff⟩
  | some c2 =>
   have ht' : ¬ ztqZ ct.1 pos n keep=none:=by rw [show ztqZ ct.1 pos n keep=some c2 from ht]; simp
   have e2 : abl [(I 0),(I 0),(I 0),(I 0),(B false),(.lit (.string ⟨#[]⟩)),(.lit (.string ⟨#[]⟩)),nilSl] [(0,1,(I 4)),(1,1,I ino),(2,1,I pos),(3,1,I n),(4,1,B keep)]=some (.agg (opA (opAl ino pos n keep) nilSl)):=rfl;have hb:=alloc_bnd (c:=(ct.1.1,ct.1.2)) (pos:=pos) (n:=n) (keep:=keep);have hs:=hR2.len;have hs0:=hR.len;rw [ht] at hb hs h3 ff g3;simp only at hb;have e3 : abI .sub (I ((cL (some c2)).length : Int)) (I (ct.1.2.length : Int))=some (I (((cL (some c2)).length : Int) - (ct.1.2.length : Int))):=zfpZ (by omega) (by omega);have g23:=g3.cells (o:=H1.length) (x:=some (AObj.cells [I ct.1.1,R])) top1;simp only [Option.isSome_some,Bool.not_true,zmZ,reduceCtorEq,if_false,zbZ,zeZ,Nat.zero_add,zlZ top1,zlZ g23,zdZ,gCS,gCZ,hs,hs0,e3];refine bC_of (Free_c h3 hw (by omega)) ?_;simp only [ztmZ,zbZ,zlZ top1,zlZ g23,zdZ,gCS,gCZ,hs,hs0,true_and,zpZ]
   by_cases c4 : freeS s < ((cL (some c2)).length : Int) - (ct.1.2.length : Int)
   ·simp only [c4,dTt,zbcZ,if_true]
    exact ⟨by trivial,p,h3,ff⟩
   ·simp only [c4,dFf,zmZ,if_false,e2,zbZ]
    obtain ⟨r,H2,⟨rfl,p2,h4,f4⟩,hcall⟩:=do_c (bv:=nilSl) (o:=opAl ino pos n keep) h3 hw (by omega) SV.nil (opAl_b ino pos n keep);exact bC_of hcall ⟨rfl,p2,h4,ff.trans f4⟩
 ·simp only [hc0,ne_eq,not_false_eq_true,dTt,zbcZ,if_true]
  exact ⟨by trivial,p,h2,.of_grew (g1.trans g2)⟩)
theorem RAlloc_c {N : Nat} {s : StS} {os : Nat} {p : AV} {H : AH} (h : DsAt s os p H) (hw : SW N s) (hN : N < 900000) (ino pos n : Int) (keep : Bool) :
  ∃ r H',(r=I (allocS s ino pos n keep).1∧∃ p',DsAt (allocS s ino pos n keep).2 os p' H'∧StF os p p' H H')∧BCall Tryz.prog 79 [.ptr os 0,I ino,I pos,I n,B keep] H r H':=zpzZ (by
 unfold zjhZ;obtain ⟨R,hR,r,H1,⟨rfl,g1⟩,hc⟩:=Rfile_c h hw (by omega) ino;have hlen:=zesZ hw ino;refine bC_of hc ?_;unfold allocS;generalize zsZ s ino=ct at *;have oR:=SV.oneA hR;have h1:=h.grew g1;have g2:=Grew.app H1 [some (.cells [I ct.1.1,R])];have h2:=h1.grew g2;simp only [ziZ,gCS,gCZ,zbZ,nwC,zbpZ,stC' _ _ oR,zcaZ,zkuZ,zpZ]
 by_cases hc0 : ct.2=0
 ·simp only [hc0,ne_eq,not_true_eq_false,dFf,zmZ,if_false,zlZ top1,rd2,zbZ]
  obtain ⟨R2,hR2,hp⟩:=zpqZ (size:=ct.1.1) hR (by omega) pos n keep;refine zyZ hp ?_;have oR2:=SV.oneA hR2;have g3:=Grew.app (H1 ++ [some (AObj.cells [I ct.1.1,R])]) [some (.cells [I (cS (ztqZ (ct.1.1,ct.1.2) pos n keep)),R2])];have h3:=h2.grew g3;have ff : StF os p p H (H1 ++ [some (AObj.cells [I ct.1.1,R])] ++ [some (.cells [I (cS (ztqZ (ct.1.1,ct.1.2) pos n keep)),R2])]):=.of_grew ((g1.trans g2).trans g3);simp only [ziZ,gCS,gCZ,zbZ,nwC,zbpZ,stC' _ _ oR2,zcaZ,zduZ,zpZ];cases ht : ztqZ (ct.1.1,ct.1.2) pos n keep with
  | none =>
   have ht' : ztqZ ct.1 pos n keep=none:=ht;rw [ht] at h3 ff;simp only [Option.isSome_none,Bool.not_false,zbcZ,ht',if_true];exact ⟨by trivial,p,h3,ff⟩
  | some c2 =>
   have ht' : ¬ ztqZ ct.1 pos n keep=none:=by rw [show ztqZ ct.1 pos n keep=some c2 from ht]; simp
   have e2 : abl [(I 0),(I 0),(I 0),(I 0),(B false),(.lit (.string ⟨#[]⟩)),(.lit (.string ⟨#[]⟩)),nilSl] [(0,1,(I 4)),(1,1,I ino),(2,1,I pos),(3,1,I n),(4,1,B keep)]=some (.agg (opA (opAl ino pos n keep) nilSl)):=rfl;have hb:=alloc_bnd (c:=(ct.1.1,ct.1.2)) (pos:=pos) (n:=n) (keep:=keep);have hs:=hR2.len;have hs0:=hR.len;rw [ht] at hb hs h3 ff g3;simp only at hb;have e3 : abI .sub (I ((cL (some c2)).length : Int)) (I (ct.1.2.length : Int))=some (I (((cL (some c2)).length : Int) - (ct.1.2.length : Int))):=zfpZ (by omega) (by omega);have g23:=g3.cells (o:=H1.length) (x:=some (AObj.cells [I ct.1.1,R])) top1;simp only [Option.isSome_some,Bool.not_true,zmZ,reduceCtorEq,if_false,zbZ,zeZ,Nat.zero_add,zlZ top1,zlZ g23,zdZ,gCS,gCZ,hs,hs0,e3];refine bC_of (RFree_c h3 hw (by omega)) ?_;simp only [ztmZ,zbZ,zlZ top1,zlZ g23,zdZ,gCS,gCZ,hs,hs0,true_and,zpZ]
   by_cases c4 : freeS s < ((cL (some c2)).length : Int) - (ct.1.2.length : Int)
   ·simp only [c4,dTt,zbcZ,if_true]
    exact ⟨by trivial,p,h3,ff⟩
   ·simp only [c4,dFf,zmZ,if_false,e2,zbZ]
    obtain ⟨r,H2,⟨rfl,p2,h4,f4⟩,hcall⟩:=Rdo_c (bv:=nilSl) (o:=opAl ino pos n keep) h3 hw (by omega) SV.nil (opAl_b ino pos n keep);exact bC_of hcall ⟨rfl,p2,h4,ff.trans f4⟩
 ·simp only [hc0,ne_eq,not_false_eq_true,dTt,zbcZ,if_true]
  exact ⟨by trivial,p,h2,.of_grew (g1.trans g2)⟩)
theorem RData_c {N : Nat} {s : StS} {os : Nat} {p : AV} {H : AH} (h : DsAt s os p H) (hw : SW N s) (hN : N≤900000) (ino pos : Int) :
  ∃ r H',(r = .tup [I (dataS s ino pos).1,I (dataS s ino pos).2]∧Grew H H')∧BCall Tryz.prog 87 [.ptr os 0,I ino,I pos] H r H':=zubZ (by
 unfold zomZ;obtain ⟨R,hR,r,H1,⟨rfl,g1⟩,hc⟩:=Rfile_c h hw (by omega) ino;have hlen:=zesZ hw ino;refine bC_of hc ?_;unfold dataS;generalize zsZ s ino=ct at *;have oR:=SV.oneA hR;have g2:=Grew.app H1 [some (.cells [I ct.1.1,R])];simp only [ziZ,gCS,gCZ,zbZ,nwC,zbpZ,stC' _ _ oR,zcaZ,zkuZ,zpZ]
 by_cases hc0 : ct.2=0
 ·simp only [hc0,ne_eq,not_true_eq_false,dFf,zmZ,if_false,zlZ top1,rd2,zbZ]
  refine zyZ (ref_DataContent_p hR (by omega) pos) ?_;cases ht : dataC ct.1.1 ct.1.2 pos with
  | none =>
   simp only [oI,ziZ,gCS,gCZ,zbZ,zduZ,Bool.not_false,zpZ,zbcZ];exact ⟨by trivial,g1.trans g2⟩
  | some n =>
   simp only [oI,ziZ,gCS,gCZ,zbZ,zduZ,Bool.not_true,zpZ,zmZ];exact ⟨by trivial,g1.trans g2⟩
 ·simp only [hc0,ne_eq,not_false_eq_true,dTt,zbcZ,if_true]
  exact ⟨by trivial,g1.trans g2⟩)
theorem PRData_c {N : Nat} {s : StS} {os : Nat} {p : AV} {H : AH} (h : StAt s os p H) (hw : SW N s) (hN : N≤900000) (ino pos : Int) :
  ∃ r H',(r = .tup [I (dataS s ino pos).1,I (dataS s ino pos).2]∧Grew H H')∧BCall Tryz.prog 86 [.ptr os 0,I ino,I pos] H r H':=zbczZ (by
 unfold zzeZ
 have key : ∃ r H',(r = .tup [I (dataS s ino pos).1,I (dataS s ino pos).2]∧Grew H H')∧BCall Tryz.prog 141 [.ptr os 0,I ino,I pos,.fn (.func 142) [] []] H r H':=zqcZ (by
  unfold znrZ;obtain ⟨R,hR,r,H1,⟨rfl,g1⟩,hc⟩:=zwyZ h hw (by omega) ino;have hlen:=zesZ hw ino;refine bC_of hc ?_;unfold dataS;generalize zsZ s ino=ct at *;have oR:=SV.oneA hR;have g2:=Grew.app H1 [some (.cells [I ct.1.1,R])];simp only [ziZ,gCS,gCZ,zbZ,nwC,zbpZ,stC' _ _ oR,zcaZ,zkuZ,zpZ]
  by_cases hc0 : ct.2=0
  ·have gf : zbchZ Tryz.prog 142=true:=by kernel_rfl
   simp only [hc0,ne_eq,not_true_eq_false,dFf,zmZ,if_false,zlZ top1,rd2,zbZ,bF_fn,gf,Bool.not_true,Bool.or_false,bT_true,List.nil_append,List.append_nil];refine bC_of (extent_Data_p hR (by omega) pos _) ?_;cases ht : dataC ct.1.1 ct.1.2 pos with
   | none =>
    simp only [oI,ziZ,gCS,gCZ,zbZ,zduZ,Bool.not_false,zpZ,zbcZ];exact ⟨by trivial,g1.trans g2⟩
   | some n =>
    simp only [oI,ziZ,gCS,gCZ,zbZ,zduZ,Bool.not_true,zpZ,zmZ];exact ⟨by trivial,g1.trans g2⟩
  ·simp only [hc0,ne_eq,not_false_eq_true,dTt,zbcZ,if_true]
   exact ⟨by trivial,g1.trans g2⟩)
 obtain ⟨r,H',⟨rfl,g⟩,hc⟩:=key;refine bC_of hc ?_;simp only [ziZ,gCS,gCZ,zbZ];exact ⟨by trivial,g⟩)
theorem RHole_c {N : Nat} {s : StS} {os : Nat} {p : AV} {H : AH} (h : DsAt s os p H) (hw : SW N s) (hN : N≤900000) (ino pos : Int) :
  ∃ r H',(r = .tup [I (holeS s ino pos).1,I (holeS s ino pos).2]∧Grew H H')∧BCall Tryz.prog 89 [.ptr os 0,I ino,I pos] H r H':=zukZ (by
 unfold zoqZ;obtain ⟨R,hR,r,H1,⟨rfl,g1⟩,hc⟩:=Rfile_c h hw (by omega) ino;have hlen:=zesZ hw ino;refine bC_of hc ?_;unfold holeS;generalize zsZ s ino=ct at *;have oR:=SV.oneA hR;have g2:=Grew.app H1 [some (.cells [I ct.1.1,R])];simp only [ziZ,gCS,gCZ,zbZ,nwC,zbpZ,stC' _ _ oR,zcaZ,zkuZ,zpZ]
 by_cases hc0 : ct.2=0
 ·simp only [hc0,ne_eq,not_true_eq_false,dFf,zmZ,if_false,zlZ top1,rd2,zbZ]
  refine zyZ (ref_HoleContent_p hR (by omega) pos) ?_;cases ht : holeC ct.1.1 ct.1.2 pos with
  | none =>
   simp only [oI,ziZ,gCS,gCZ,zbZ,zduZ,Bool.not_false,zpZ,zbcZ];exact ⟨by trivial,g1.trans g2⟩
  | some n =>
   simp only [oI,ziZ,gCS,gCZ,zbZ,zduZ,Bool.not_true,zpZ,zmZ];exact ⟨by trivial,g1.trans g2⟩
 ·simp only [hc0,ne_eq,not_false_eq_true,dTt,zbcZ,if_true]
  exact ⟨by trivial,g1.trans g2⟩)
theorem PRHole_c {N : Nat} {s : StS} {os : Nat} {p : AV} {H : AH} (h : StAt s os p H) (hw : SW N s) (hN : N≤900000) (ino pos : Int) :
  ∃ r H',(r = .tup [I (holeS s ino pos).1,I (holeS s ino pos).2]∧Grew H H')∧BCall Tryz.prog 88 [.ptr os 0,I ino,I pos] H r H':=zbdqZ (by
 unfold zzsZ
 have key : ∃ r H',(r = .tup [I (holeS s ino pos).1,I (holeS s ino pos).2]∧Grew H H')∧BCall Tryz.prog 141 [.ptr os 0,I ino,I pos,.fn (.func 144) [] []] H r H':=zqcZ (by
  unfold znrZ;obtain ⟨R,hR,r,H1,⟨rfl,g1⟩,hc⟩:=zwyZ h hw (by omega) ino;have hlen:=zesZ hw ino;refine bC_of hc ?_;unfold holeS;generalize zsZ s ino=ct at *;have oR:=SV.oneA hR;have g2:=Grew.app H1 [some (.cells [I ct.1.1,R])];simp only [ziZ,gCS,gCZ,zbZ,nwC,zbpZ,stC' _ _ oR,zcaZ,zkuZ,zpZ]
  by_cases hc0 : ct.2=0
  ·have gf : zbchZ Tryz.prog 144=true:=by kernel_rfl
   simp only [hc0,ne_eq,not_true_eq_false,dFf,zmZ,if_false,zlZ top1,rd2,zbZ,bF_fn,gf,Bool.not_true,Bool.or_false,bT_true,List.nil_append,List.append_nil];refine bC_of (extent_Hole_p hR (by omega) pos _) ?_;cases ht : holeC ct.1.1 ct.1.2 pos with
   | none =>
    simp only [oI,ziZ,gCS,gCZ,zbZ,zduZ,Bool.not_false,zpZ,zbcZ];exact ⟨by trivial,g1.trans g2⟩
   | some n =>
    simp only [oI,ziZ,gCS,gCZ,zbZ,zduZ,Bool.not_true,zpZ,zmZ];exact ⟨by trivial,g1.trans g2⟩
  ·simp only [hc0,ne_eq,not_false_eq_true,dTt,zbcZ,if_true]
   exact ⟨by trivial,g1.trans g2⟩)
 obtain ⟨r,H',⟨rfl,g⟩,hc⟩:=key;refine bC_of hc ?_;simp only [ziZ,gCS,gCZ,zbZ];exact ⟨by trivial,g⟩)
theorem RSize_c {N : Nat} {s : StS} {os : Nat} {p : AV} {H : AH} (h : DsAt s os p H) (hw : SW N s) (hN : N≤900000) (ino : Int) : ∃ r H',(r = .tup [I (zsZ s ino).1.1,I (zsZ s ino).2]∧Grew H H')∧BCall Tryz.prog 85 [.ptr os 0,I ino] H r H':=zumZ (by
 unfold zojZ;obtain ⟨R,hR,r,H1,⟨rfl,g1⟩,hc⟩:=Rfile_c h hw hN ino;have oR:=SV.oneA hR;refine bC_of hc ?_;have g2:=Grew.app H1 [some (AObj.cells [I (zsZ s ino).1.1,R])];simp only [ziZ,gCS,gCZ,zbZ,nwC,zbpZ,stC' _ _ oR,zcaZ,zeZ,Nat.zero_add,zlZ top1,zdZ];exact ⟨by trivial,g1.trans g2⟩)
theorem RRead_c {N : Nat} {s : StS} {os : Nat} {p : AV} {H : AH} (h : DsAt s os p H) (hw : SW N s) (hN : N < 900000) (ino pos n : Int) :
  ∃ R,SV encU 1 (readS s ino pos n).1 R∧∃ r H',(r = .tup [R,I (readS s ino pos n).2]∧Grew H H')∧BCall Tryz.prog 50 [.ptr os 0,I ino,I pos,I n] H r H':=by
 obtain ⟨R,hR,r,H1,⟨rfl,g1⟩,hc⟩:=Rfile_c h hw (by omega) ino;have hlen:=zesZ hw ino;have oR:=SV.oneA hR;have g2:=Grew.app H1 [some (.cells [I (zsZ s ino).1.1,R])]
 by_cases hc0 : (zsZ s ino).2=0
 ·obtain ⟨d,hd,hdi,hdc,hoff⟩:=zozZ hw hc0
  by_cases hb : pos < 0∨n < 0∨4096 < n
  ·have e : readS s ino pos n=([],5):=by unfold readS; rw [if_neg (by rw [hc0]; simp),if_pos hb]
   rw [e];refine ⟨nilSl,SV.nil,zgcZ ?_⟩;unfold zfbZ;refine bC_of hc ?_;simp only [ziZ,gCS,gCZ,zbZ,nwC,zbpZ,stC' _ _ oR,zcaZ,zkuZ,hc0,ne_eq,not_true_eq_false,dFf,zpZ,zmZ,zglZ,zcrZ];have done : True∧Grew H (H1 ++ [some (AObj.cells [I (zsZ s ino).1.1,R])]):=⟨trivial,g1.trans g2⟩
   by_cases c1 : pos < 0
   ·simp only [c1,dTt,show ((true == false)=false) from rfl,zfxZ,zbZ,zoZ,if_true,zcrZ,zpZ,zbcZ]
    exact done
   ·by_cases c2 : n < 0
    ·simp only [c1,dFf,beq_self_eq_true,zbrZ,zbZ,zglZ,c2,dTt,zoZ,if_false,Bool.false_eq_true,zcrZ,show ((true == false)=false) from rfl,zfxZ,if_true,zpZ,zbcZ]
     exact done
    ·have c3 : 4096 < n:=by omega
     simp only [c1,dFf,beq_self_eq_true,zbrZ,zbZ,zglZ,c2,zoZ,if_false,Bool.false_eq_true,zcrZ,ztmZ,c3,dTt,zpZ,zbcZ];exact done
  ·have e : readS s ino pos n=(readC (zsZ s ino).1.1 (zsZ s ino).1.2 pos n,0):=by unfold readS; rw [if_neg (by rw [hc0]; simp),if_neg hb]
   rw [e];have hmc:=hw.now.1.mc d hd;obtain ⟨R2,hR2,hp⟩:=ref_ReadContent_p hR (by omega) pos n;refine ⟨R2,hR2,zgcZ ?_⟩;unfold zfbZ;refine bC_of hc ?_;have c1 : ¬ pos < 0:=by omega
   have c2 : ¬ n < 0:=by omega
   have c3 : ¬ 4096 < n:=by omega
   simp only [ziZ,gCS,gCZ,zbZ,nwC,zbpZ,stC' _ _ oR,zcaZ,zkuZ,hc0,ne_eq,not_true_eq_false,dFf,zpZ,zmZ,zglZ,zcrZ,c1,c2,ztmZ,c3,beq_self_eq_true,zbrZ,zoZ,if_false,Bool.false_eq_true,zlZ top1,rd2];exact zyZ hp ⟨rfl,g1.trans g2⟩
 ·have e : readS s ino pos n=([],(zsZ s ino).2):=by unfold readS; rw [if_pos hc0]
  rw [e];refine ⟨nilSl,SV.nil,zgcZ ?_⟩;unfold zfbZ;refine bC_of hc ?_;simp only [ziZ,gCS,gCZ,zbZ,nwC,zbpZ,stC' _ _ oR,zcaZ,zkuZ,hc0,ne_eq,not_false_eq_true,dTt,zpZ,zbcZ];exact ⟨by trivial,g1.trans g2⟩
theorem RRename_c {N : Nat} {s : StS} {os : Nat} {p : AV} {H : AH} (h : DsAt s os p H) (hw : SW N s) (hN : N < 900000) {name to : List UInt8} (hn : name.length≤9223372036854775807) (ht : to.length≤9223372036854775807) :
  ∃ r H',(r=I (renS s name to).1∧∃ p',DsAt (renS s name to).2 os p' H'∧StF os p p' H H')∧BCall Tryz.prog 81 [.ptr os 0,S (bstr name),S (bstr to)] H r H':=zrwZ (by
 unfold zllZ;have h':=h;obtain ⟨a,b,c,d,pv,hc⟩:=h
 have stop : ∀ (x : Int),renS s name to=(x,s)→(I x : AV)=I (renS s name to).1∧∃ p',DsAt (renS s name to).2 os p' H∧StF os p p' H H:=by
  intro x e;rw [e];exact ⟨rfl,p,h',.refl _ _ _⟩
 simp only [zkZ,zbZ,zeZ,Nat.zero_add,zlZ hc.obj,zdZ,gCS,gCZ,zpZ];cases ho : s.off with
 | true =>
  simp only [zbcZ]
  exact stop 8 (by
   have e : findS s name=(0,8):=by unfold findS; rw [if_pos ho]
   unfold renS; rw [if_neg (by rw [ho]; simp),if_pos (.inl (by rw [e]; simp)),e])
 | false =>
  simp only [zmZ];refine zyZ (ziwZ hn) ?_
  by_cases hm : mayN name
  ·simp only [hm,dTt,zduZ,Bool.not_true,zbZ,zcrZ,beq_self_eq_true,zbrZ,gP_true]
   refine zyZ (ziwZ ht) ?_
   by_cases hm2 : mayN to
   ·have hf:=znhZ hc.now (hw.now.sm (by omega)) name
    simp only [hm2,dTt,zduZ,Bool.not_true,zbZ,zoZ,if_false,Bool.false_eq_true,zpZ,zmZ,zkZ,zeZ,Nat.zero_add,zlZ hc.obj,(rdD _ _ _ _ _ _ _ _ _).1];refine zyZ hf ?_;simp only [zglZ,zbZ,zpZ,zbcuZ]
    by_cases hk : hasK Nm.name s.now.1 name
    ·have e : findS s name=(nameI s.now.1 name,0):=by unfold findS; rw [if_neg (by rw [ho]; simp),if_neg (λq=>q hm),if_pos hk]
     have eT : abT .eql (S (bstr name)) (S (bstr to))=some (B (decide (name=to))):=abT_eql;simp only [hk,not_true_eq_false,dFf,zmZ,eT,zbZ,zpZ]
     by_cases he : name=to
     ·subst he
      simp only [eq_self,dTt,zbcZ];exact stop 0 (by unfold renS; rw [if_neg (λq=>q.2 hm2),if_pos (.inr rfl),e])
     ·have hno : ¬ (s.off=false∧¬ mayN to):=λq=>q.2 hm2
      have hne : ¬ ((findS s name).2 ≠ 0∨name=to):=by rintro (q | q); exact q (by rw [e]); exact he q
      have er : renS s name to=doS s (opRen name to):=by unfold renS; rw [if_neg hno,if_neg hne]
      have e2 : abl [(I 0),(I 0),(I 0),(I 0),(B false),(.lit (.string ⟨#[]⟩)),(.lit (.string ⟨#[]⟩)),nilSl] [(0,1,(I 6)),(5,1,S (bstr name)),(6,1,S (bstr to))]=some (.agg (opA (opRen name to) nilSl)):=rfl;simp only [he,dFf,zmZ,e2,zbZ];obtain ⟨r,H2,⟨rfl,p2,h4,f4⟩,hcall⟩:=Rdo_c (bv:=nilSl) (o:=opRen name to) h' hw (by omega) SV.nil (renS_ob hno hne);rw [er];exact bC_of hcall ⟨rfl,p2,h4,f4⟩
    ·simp only [hk,not_false_eq_true,dTt,zbcZ]
     exact stop 3 (by
      have e : findS s name=(0,3):=by unfold findS; rw [if_neg (by rw [ho]; simp),if_neg (λq=>q hm),if_neg hk]
      unfold renS; rw [if_neg (λq=>q.2 hm2),if_pos (.inl (by rw [e]; simp)),e])
   ·simp only [hm2,dFf,zduZ,Bool.not_false,zbZ,zoZ,if_false,Bool.false_eq_true,zpZ,zbcZ]
    exact stop 5 (by unfold renS; rw [if_pos ⟨ho,hm2⟩])
  ·simp only [hm,dFf,zduZ,Bool.not_false,zbZ,zcrZ,show ((true == false)=false) from rfl,zfxZ,gP_false,zoZ,if_true,zpZ,zbcZ]
   exact stop 5 (by
    have e : findS s name=(0,5):=by unfold findS; rw [if_neg (by rw [ho]; simp),if_pos hm]
    unfold renS
    by_cases hm2 : mayN to
    ·rw [if_neg (λq=>q.2 hm2),if_pos (.inl (by rw [e]; simp)),e]
    ·rw [if_pos ⟨ho,hm2⟩]))
theorem RRemove_c {N : Nat} {s : StS} {os : Nat} {p : AV} {H : AH} (h : DsAt s os p H) (hw : SW N s) (hN : N < 900000) {name : List UInt8} (hn : name.length≤9223372036854775807) :
  ∃ r H',(r=I (remS s name).1∧∃ p',DsAt (remS s name).2 os p' H'∧StF os p p' H H')∧BCall Tryz.prog 82 [.ptr os 0,S (bstr name)] H r H':=zsaZ (by
 unfold zloZ;have h':=h;obtain ⟨a,b,c,d,pv,hc⟩:=h
 have stop : ∀ (x y : Int),findS s name=(x,y)→y ≠ 0→(I y : AV)=I (remS s name).1∧∃ p',DsAt (remS s name).2 os p' H∧StF os p p' H H:=by
  intro x y e hy;have : remS s name=(y,s):=by unfold remS; rw [if_pos (by rw [e]; exact hy),e]
  rw [this];exact ⟨rfl,p,h',.refl _ _ _⟩
 simp only [zkZ,zbZ,zeZ,Nat.zero_add,zlZ hc.obj,zdZ,gCS,gCZ,zpZ];cases ho : s.off with
 | true =>
  simp only [zbcZ];exact stop 0 8 (by unfold findS; rw [if_pos ho]) (by omega)
 | false =>
  simp only [zmZ];refine zyZ (ziwZ hn) ?_
  by_cases hm : mayN name
  ·have hf:=znhZ hc.now (hw.now.sm (by omega)) name
   simp only [hm,dTt,zduZ,Bool.not_true,zbZ,zpZ,zmZ,zkZ,zeZ,Nat.zero_add,zlZ hc.obj,(rdD _ _ _ _ _ _ _ _ _).1];refine zyZ hf ?_;simp only [zglZ,zbZ,zpZ,zbcuZ]
   by_cases hk : hasK Nm.name s.now.1 name
   ·have e : findS s name=(nameI s.now.1 name,0):=by unfold findS; rw [if_neg (by rw [ho]; simp),if_neg (λq=>q hm),if_pos hk]
    have er : remS s name=doS s (opRem name):=by unfold remS; rw [if_neg (by rw [e]; simp)]
    have e2 : abl [(I 0),(I 0),(I 0),(I 0),(B false),(.lit (.string ⟨#[]⟩)),(.lit (.string ⟨#[]⟩)),nilSl] [(0,1,(I 7)),(5,1,S (bstr name))]=some (.agg (opA (opRem name) nilSl)):=rfl;simp only [hk,not_true_eq_false,dFf,zmZ,e2,zbZ];obtain ⟨r,H2,⟨rfl,p2,h4,f4⟩,hcall⟩:=Rdo_c (bv:=nilSl) (o:=opRem name) h' hw (by omega) SV.nil (opRem_b hm);rw [er];exact bC_of hcall ⟨rfl,p2,h4,f4⟩
   ·simp only [hk,not_false_eq_true,dTt,zbcZ]
    exact stop 0 3 (by unfold findS; rw [if_neg (by rw [ho]; simp),if_neg (λq=>q hm),if_neg hk]) (by omega)
  ·simp only [hm,dFf,zduZ,Bool.not_false,zbZ,zpZ,zbcZ]
   exact stop 0 5 (by unfold findS; rw [if_neg (by rw [ho]; simp),if_pos hm]) (by omega))
theorem SV.cutB {b : List UInt8} {v : AV} (hv : SV encU 1 b v) {l k : Nat} {li ki : Int} (e1 : li=l) (e2 : ki=k) (h1 : l≤k) (h2 : k≤b.length) : ∃ r,aslS 1 v (some (I li)) (some (I ki)) none=some r∧SV encU 1 ((b.drop l).take (k - l)) r:=by
 subst e1; subst e2
 have key : ∀ H : AH,∃ r,aslS 1 v (some (I (l : Int))) (some (I (k : Int))) none=some r∧zaZ H 1 r=some (((b.drop l).take (k - l)).flatMap encU,((b.drop l).take (k - l)).length)∧(noIds v=true→noIds r=true):=by
  intro H;obtain ⟨r,s1,s2,-,-,s5⟩:=zrvZ (hv.bytes H) (lo:=some (I (l : Int))) (hi:=some (I (k : Int))) (l:=l) (k:=k) (by simp [abnd]) (by simp [abnd]) h1 h2;refine ⟨r,s1, ?_,s5⟩;have hl : ((b.drop l).take (k - l)).length=k - l:=by rw [List.length_take,List.length_drop]; omega
  rw [s2,zbctZ,hl];simp only [encB_drop,zbgcZ,Nat.mul_one]
 obtain ⟨r,s1,s2,s5⟩:=key [];refine ⟨r,s1,s5 hv.1,λH=>?_⟩;obtain ⟨r2,t1,t2,-⟩:=key H;rw [s1] at t1;injection t1 with t1;rw [t1];exact t2
theorem wr_content {N : Nat} {s : StS} (hw : SW N s) {ino p : Int} {bs : List UInt8} (h0 : (zsZ s ino).2=0) (hd : (doS s (opWr ino p bs)).1=0) :
  (zsZ (doS s (opWr ino p bs)).2 ino).2=0∧∀ a,(∀ x,p≤x→x < p + bs.length→a ≠ x / 8)→(hasL (zsZ (doS s (opWr ino p bs)).2 ino).1.2 a ↔ hasL (zsZ s ino).1.2 a):=by
 obtain ⟨d,hmem,hino,hcont,hoff⟩:=zozZ hw h0
 have hdd : (deedS s).1=true:=by
  unfold doS at hd;split at hd
  ·assumption
  ·simp at hd
 have hoff2 : (deedS s).2.off=false:=by
  unfold deedS at hdd ⊢;split at hdd
  ·cases hdd
  ·rename_i hn
   rw [if_neg hn]
   split <;> exact hoff
 have e : doS s (opWr ino p bs)=(0,{ (deedS s).2 with now:=ziaZ s.now.1 s.now.2 (opWr ino p bs),pend:=s.pend ++ [opWr ino p bs] }):=by unfold doS; rw [if_pos hdd]
 have hmay:=hw.now.1
 have ea : ziaZ s.now.1 s.now.2 (opWr ino p bs)=(s.now.1,chgD s.now.2 (opWr ino p bs)):=by
  unfold ziaZ;rw [if_pos (mayI_w.2 hmay),if_neg (by simp [opWr]),if_pos (.inl rfl)]
 have hM:=hmay.chg (o:=opWr ino p bs) (.inl rfl)
 have hin : ino ∈ (chgD s.now.2 (opWr ino p bs)).map Nd.ino:=by
  rw [chgD_inos hmay.sd];exact List.mem_map.2 ⟨d,hmem,hino⟩
 obtain ⟨d',hm',hi'⟩:=List.mem_map.1 hin;obtain ⟨g1,g2⟩:=getN_w hM hm';obtain ⟨k1,k2⟩:=getN_w hmay hmem;rw [hi'] at g1 g2;rw [hino] at k1 k2
 have ec : zsZ (doS s (opWr ino p bs)).2 ino=((d'.size,d'.l),0):=by
  rw [e];unfold zsZ;simp only [ea,hoff2];rw [if_neg (by simp),if_pos g2,g1]
 rw [ec,hcont];refine ⟨rfl,λa ha=>?_⟩;rcases mem_chgD hmay.sd hm' with q | ⟨-,f,hf,hfi,hc⟩
 ·have : d'=d:=by
   obtain ⟨z1,-⟩:=getN_w hmay q;rw [hi',k1] at z1;exact z1.symm
  rw [this]
 ·have : f=d:=by
   obtain ⟨z1,-⟩:=getN_w hmay hf;rw [hfi] at z1;have z2 : getN s.now.1 s.now.2 ino=f:=z1;rw [k1] at z2;exact z2.symm
  subst this;unfold chgC at hc;rw [if_pos (show (opWr ino p bs).kind=2 from rfl)] at hc;unfold ztsZ at hc;split at hc
  ·injection hc with hc
   by_cases hb : (opWr ino p bs).b=[]
   ·rw [if_pos hb] at hc
    have : d'.l=f.l:=(congrArg Prod.snd hc).symm;rw [show ((d'.size,d'.l) : Cont).2=d'.l from rfl,this]
   ·rw [if_neg hb] at hc
    have : d'.l=ztdZ f.l p bs:=(congrArg Prod.snd hc).symm;rw [show (((d'.size,d'.l),(0 : Int)).1).2=d'.l from rfl,this,wr_has]
    constructor
    ·rintro (q | ⟨x,x1,x2,x3⟩)
     ·exact q
     ·exact absurd x3 (ha x x1 x2)
    ·exact .inl
  ·cases hc
theorem writeC_some {N : Nat} {s : StS} (hw : SW N s) {ino pos : Int} {b : List UInt8} (h0 : (zsZ s ino).2=0) : (ztsZ ((zsZ s ino).1.1,(zsZ s ino).1.2) pos b).isSome=decide (fitsW pos b.length):=by
 obtain ⟨d,hmem,hino,hcont,hoff⟩:=zozZ hw h0;have hmc:=hw.now.1.mc d hmem;rw [hcont];unfold ztsZ fitsW
 by_cases h : 0≤pos∧b.length≤4096∧pos≤1099511627776 - b.length
 ·rw [if_pos ⟨hmc,h⟩,decide_eq_true h]; rfl
 ·rw [if_neg (λq=>h q.2),decide_eq_false h]; rfl
theorem cuts_nil {f : Nat} {p n : Int} (h : cutsS f p n 8=[]) (hf : n.toNat≤f) : n≤0:=by
 cases f with
 | zero => omega
 | succ f =>
  unfold cutsS at h;split at h
  ·simp at h
  ·omega
theorem cuts_cons {f : Nat} {p n : Int} {q : Sp} {r : List Sp} (h : cutsS f p n 8=q :: r) (hp : 0≤p) : 0 < n∧q=⟨p,min n (8 - p % 8)⟩∧∃ g,f=g + 1∧r=cutsS g (p + min n (8 - p % 8)) (n - min n (8 - p % 8)) 8:=by
 cases f with
 | zero => simp [cutsS] at h
 | succ f =>
  unfold cutsS at h;split at h
  ·rename_i hn
   injection h with h1 h2;exact ⟨hn,h1.symm,f,rfl,h2.symm⟩
  ·simp at h
theorem RWrite_c {N : Nat} {s : StS} {os : Nat} {p v : AV} {H : AH} (h : DsAt s os p H) (hw : SW N s) (ino pos : Int) {b : List UInt8} (hN : N + 9 * b.length < 900000) (hv : SV encU 1 b v) :
  ∃ r H',(r = .tup [I (zbgnZ s ino pos b).1.1,I (zbgnZ s ino pos b).1.2]∧∃ p',DsAt (zbgnZ s ino pos b).2 os p' H'∧StF os p p' H H')∧BCall Tryz.prog 77 [.ptr os 0,I ino,I pos,v] H r H':=ztiZ (by
 unfold zmuZ;obtain ⟨R,hR,r,H1,⟨rfl,g1⟩,hc⟩:=Rfile_c h hw (by omega) ino;have hlen:=zesZ hw ino;refine bC_of hc ?_;unfold zbgnZ;have hsome:=writeC_some (pos:=pos) (b:=b) hw (ino:=ino);have h00 : (zsZ s ino).2=0→(zsZ s ino).2=0:=id;have hkeep : zsZ s ino=zsZ s ino:=rfl;generalize hct : zsZ s ino=ct at *;have oR:=SV.oneA hR;have h1:=h.grew g1;have g2:=Grew.app H1 [some (.cells [I ct.1.1,R])];have h2:=h1.grew g2;have alv : alnS v=some (I b.length):=hv.len;simp only [ziZ,gCS,gCZ,zbZ,nwC,zbpZ,stC' _ _ oR,zcaZ,zkuZ,zpZ]
 by_cases hc0 : ct.2=0
 ·obtain ⟨R2,hR2,hpW⟩:=zwfZ (size:=ct.1.1) hR (by omega) pos hv (by omega)
  have oR2:=SV.oneA hR2;rw [hsome hc0] at hpW;simp only [hc0,ne_eq,not_true_eq_false,dFf,zmZ,if_false,zlZ top1,rd2,zbZ];refine zyZ hpW ?_;generalize cS (ztsZ (ct.1.1,ct.1.2) pos b)=sz;have g3:=Grew.app (H1 ++ [some (AObj.cells [I ct.1.1,R])]) [some (.cells [I sz,R2])];have h3:=h2.grew g3;have ff : StF os p p H (H1 ++ [some (AObj.cells [I ct.1.1,R])] ++ [some (.cells [I sz,R2])]):=.of_grew ((g1.trans g2).trans g3);simp only [ziZ,gCS,gCZ,zbZ,nwC,zbpZ,stC' _ _ oR2,zcaZ,zduZ,zpZ]
  by_cases hf : fitsW pos b.length
  ·have hf' : 0≤pos∧b.length≤4096∧pos≤1099511627776 - b.length:=hf
   have e1 : abl [(I 0),(I 0)] [(0,1,I pos),(1,1,I (b.length : Int))]=some (.agg (encSp ⟨pos,b.length⟩)):=rfl;obtain ⟨V,hV,hp⟩:=ref1_Parts_p ⟨pos,b.length⟩ (unit:=8) (by omega);simp only [hf,dTt,Bool.not_true,zmZ,not_true_eq_false,if_false,alv,zbZ,e1];refine zyZ hp ?_
   have hpe : zbfhZ ⟨pos,b.length⟩ 8=cutsS b.length pos b.length 8:=by
    unfold zbfhZ;rw [if_pos ⟨⟨by unfold May; simp only; omega,by unfold May; simp only; omega,by simp only; omega⟩,by simp only; omega,by omega⟩]
    show cutsS ((b.length : Int)).toNat pos b.length 8=_
    rw [show ((b.length : Int)).toNat=b.length by omega]
   have hin : ∀ q ∈ zbfhZ ⟨pos,b.length⟩ 8,pos≤q.pos∧0 < q.len∧q.len≤8∧q.pos + q.len≤pos + b.length:=λq hq=>parts_in hf hq
   have hpl:=parts_len hf;generalize zbfhZ ⟨pos,b.length⟩ 8=L at hV hin hpl hpe;have hosH : os < H.length:=h.os_lt;have hpH:=h.p_lt;have hH1 : H.length≤H1.length:=g1.1;generalize (H1 ++ [some (AObj.cells [I ct.1.1,R])] ++ [some (AObj.cells [I sz,R2])])=H0 at h3 ff;refine zmwZ (λm x0 x1 x3 x14 x15 x16 H'=>∃ (k : Nat) (s' : StS) (p' : AV) (done : Int) (f : Nat),k + m=L.length∧x0 = .ptr os 0∧x1=I ino∧v=x3∧V=x14∧x15=I done∧x16=I k∧DsAt s' os p' H'∧StF os p p' H H'∧SW (N + 9 * k) s'∧0≤done∧done≤b.length∧L.drop k=cutsS f (pos + done) (b.length - done) 8∧(b.length - done).toNat≤f∧(zsZ s' ino).2=0∧(b.length≤done∨∀ a,(pos + done) / 8≤a→(hasL (zsZ s' ino).1.2 a ↔ hasL ct.1.2 a))∧wrS ct.1.2 ino pos b (L.drop k) s'=wrS ct.1.2 ino pos b L s) ?_ L.length
    ⟨0,s,p,0,b.length,by omega,rfl,rfl,rfl,rfl,rfl,rfl,h3,ff,hw,by omega,by omega,by simpa using hpe,by omega,by rw [hct]; exact hc0,.inr (λa _=>by rw [hct]),rfl⟩
   rintro m x0 x1 x3 x14 x15 x16 H2 R3 hR3 ⟨k,s',p',done,f,hk,rfl,rfl,rfl,rfl,rfl,rfl,hs',fs',hws',hd0,hd1,hdrop,hfl,hcs,hhas,heq⟩;rw [← heq];unfold zheZ;obtain ⟨a,b',c,d,pv,hsc⟩:=id hs';have sm:=hws'.now.sm (by omega);rcases Nat.lt_or_ge k L.length with hlt | hge
   ·have hx:=gEG hlt
    have hq:=hin L[k] (List.getElem_mem hlt);generalize L[k]=q at hx hq;obtain ⟨q1,q2,q3,q4⟩:=hq;have kI : (k : Int) < (L.length : Int):=by omega
    have hdr : L.drop k=q :: L.drop (k + 1):=zmiZ hx;rw [hdr] at hdrop ⊢;obtain ⟨c1,c2,g,rfl,c3⟩:=cuts_cons hdrop.symm (by omega);have hqp : q.pos=pos + done:=by rw [c2]
    have hql : q.len=min (b.length - done) (8 - (pos + done) % 8):=by rw [c2]
    have hmod:=Int.emod_nonneg (pos + done) (show (8 : Int) ≠ 0 by omega);generalize hW : wrS ct.1.2 ino pos b (q :: L.drop (k + 1)) s'=W
    -- what is there now
    obtain ⟨dd,hmem,hdi,hcont,hoff⟩:=zozZ hws' hcs;obtain ⟨RG,hRG,hpG⟩:=ref_Get_p hsc.now sm ino;obtain ⟨k1,k2⟩:=getN_w hws'.now.1 hmem;rw [hdi] at k1 k2;rw [k1] at hRG hpG;rw [decide_eq_true k2] at hpG;have oRG:=SV.oneA hRG;have hsrt:=zbfgZ (hws'.now.1.mc dd hmem).2.2;have hll:=hws'.now.2 dd hmem;have g5:=Grew.app H2 [some (.cells [I dd.size,RG])];have rq : ald false 1 (H2 ++ [some (AObj.cells [I dd.size,RG])]) (.ip (encSp q ++ (L.drop (k + 1)).flatMap encSp))=some (I q.pos):=rfl;have e3 : abI .quo (I q.pos) (I 8)=some (I (q.pos / 8)):=zbgjZ (by omega) (by omega) (by omega);have sh0 : zhZ 0 (.ip (encSp q ++ (L.drop (k + 1)).flatMap encSp))=some (.ip (encSp q ++ (L.drop (k + 1)).flatMap encSp)):=rfl;have sh1 : zhZ 1 (.ip (encSp q ++ (L.drop (k + 1)).flatMap encSp))=some (.ip (I q.len :: (L.drop (k + 1)).flatMap encSp)):=rfl;simp only [hV.len,zglZ,zbZ,zpZ,kI,dTt,zbcZ,zkZ,zeZ,Nat.zero_add,zlZ hsc.obj,(rdD _ _ _ _ _ _ _ _ _).1];refine zyZ hpG ?_;simp only [ziZ,gCS,gCZ,zbZ,nwC,zbpZ,stC' _ _ oRG,zcaZ,zlZ top1,rd2,hV.idx zbfuZ hx rfl,sh0,rq,e3];refine bP_of (ref_find_p (size:=dd.size) hRG hsrt (by omega) (q.pos / 8)) ?_;have hs5:=hs'.grew g5;have fs5 : StF os p p' H (H2 ++ [some (AObj.cells [I dd.size,RG])]):=fs'.grew g5
    have hhq : hasL dd.l (q.pos / 8) ↔ hasL ct.1.2 (q.pos / 8):=by
     rcases hhas with z | z
     ·omega
     ·have:=z (q.pos / 8) (by rw [hqp]; exact Int.le_refl _)
      rwa [hcont] at this
    have efind : (if hasL dd.l (q.pos / 8) then (posL dd.l (q.pos / 8) : Int) else -1) < 0 ↔ ¬ hasL ct.1.2 (q.pos / 8):=by
     rw [← hhq]
     by_cases z : hasL dd.l (q.pos / 8)
     ·rw [if_pos z]; constructor
      ·intro y; omega
      ·intro y; exact absurd z y
     ·rw [if_neg z]; simp [z]
    generalize (H2 ++ [some (AObj.cells [I dd.size,RG])])=H5 at hs5 fs5;have e4 : abI .add (I done) (I q.len)=some (I (done + q.len)):=zbdZ (by omega) (by omega);have rl : ∀ HH : AH,ald false 1 HH (.ip (I q.len :: (L.drop (k + 1)).flatMap encSp))=some (I q.len):=λ_=>rfl
    have deed : ¬ (¬ hasL ct.1.2 (q.pos / 8)∧freeS s'=0)→bO (ald false 1 H5 (.ip (encSp q ++ (L.drop (k + 1)).flatMap encSp))) (λv30=>bO (zhZ 1 (.ip (encSp q ++ (L.drop (k + 1)).flatMap encSp))) λv32=>bO (ald false 1 H5 v32) λv33=>bO (abI .add (I done) v33) λv34=>bO (aslS 1 v (some (I done)) (some v34) none) λv35=>
      bO (abl [(I 0),(I 0),(I 0),(I 0),(B false),(.lit (.string ⟨#[]⟩)),(.lit (.string ⟨#[]⟩)),nilSl] [(0,1,(I 2)),(1,1,I ino),(2,1,v30),(7,1,v35)]) λv36=>bC (BCall Tryz.prog 100 [.ptr os 0,v36] H5) λv37 H38=>bO (abI .neq v37 (I 0)) λv39=>bB v39 λt40=>bI t40
       (AV.tup [I done,v37] = .tup [I W.1.1,I W.1.2]∧∃ p',DsAt W.2 os p' H38∧StF os p p' H H38)
       (bO (zhZ 1 (.ip (encSp q ++ (L.drop (k + 1)).flatMap encSp))) λv42=>bO (ald false 1 H38 v42) λv43=>bO (abI .add (I done) v43) λv44=>bO (abI .add (I k) (I 1)) λv45=>R3 [.ptr os 0,I ino,v,V,v44,v45] H38)):=by
     intro hno;obtain ⟨rb,s1,s2⟩:=hv.cutB (li:=done) (ki:=done + q.len) (l:=done.toNat) (k:=(done + q.len).toNat) (by omega) (by omega) (by omega) (by omega)
     have hpb : (b.drop done.toNat).take ((done + q.len).toNat - done.toNat)=partB b pos q:=by
      unfold partB;rw [hqp,show (pos + done - pos).toNat=done.toNat by omega,show (done + q.len).toNat - done.toNat=q.len.toNat by omega]
     rw [hpb] at s2;have hpl2:=partB_len (b:=b) (pos:=pos) (q:=q) ⟨q1,q2,q3,q4⟩
     have e5 : abl [(I 0),(I 0),(I 0),(I 0),(B false),(.lit (.string ⟨#[]⟩)),(.lit (.string ⟨#[]⟩)),nilSl] [(0,1,(I 2)),(1,1,I ino),(2,1,I q.pos),(7,1,rb)]=some (.agg (opA (opWr ino q.pos (partB b pos q)) rb)):=by
      have:=SV.oneA s2
      simp [abl,opA,opWr,zbsZ this];rfl
     have rq5 : ald false 1 H5 (.ip (encSp q ++ (L.drop (k + 1)).flatMap encSp))=some (I q.pos):=rfl;simp only [hV.idx zbfuZ hx rfl,zbZ,sh0,rq5,sh1,rl,e4,s1,e5];obtain ⟨r6,H6,⟨rfl,p6,h6,f6⟩,hcall⟩:=Rdo_c (o:=opWr ino q.pos (partB b pos q)) hs5 hws' (by omega) s2 (opWr_b (by omega));have hws6:=doS_w (o:=opWr ino q.pos (partB b pos q)) hws' (opWr_b (by omega));refine bC_of hcall ?_;simp only [zkuZ,zbZ,zpZ]
     by_cases hd : (doS s' (opWr ino q.pos (partB b pos q))).1=0
     ·have hwt : wt (opWr ino q.pos (partB b pos q))≤9:=by
       show 1 + (partB b pos q).length + (if (2 : Int)=4 then 4098 else 0)≤9
       rw [if_neg (by omega)]; omega
      obtain ⟨w1,w2⟩:=wr_content hws' hcs hd;simp only [hd,ne_eq,not_true_eq_false,dFf,zmZ,hV.idx zbfuZ hx rfl,zbZ,sh1,rl,e4,zbdZ (a:=k) (b:=1) (by omega) (by omega)];refine hR3 (m - 1) _ _ _ _ _ _ _ (by omega) ⟨k + 1,_,p6,done + q.len,g,by omega,rfl,rfl,rfl,rfl,rfl,by simp,h6,fs5.trans f6,hws6.mono (by omega),by omega,by omega, ?_,by omega,w1, ?_, ?_⟩
      ·rw [c3,← hql]
       congr 1 <;> omega
      ·rcases Nat.lt_or_ge (done + q.len).toNat b.length with z | z
       ·refine .inr λa ha=>?_
        have hdiv : (pos + (done + q.len)) / 8=q.pos / 8 + 1:=by omega
        rw [w2 a (λx x1 x2=>by rw [hpl2] at x2; omega)];rcases hhas with y | y
        ·omega
        ·exact y a (by omega)
       ·exact .inl (by omega)
      ·rw [← heq,hdr]
       conv => rhs; unfold wrS
       rw [if_neg hno,if_neg (by rw [hd]; simp)]
     ·have eW : W=((q.pos - pos,(doS s' (opWr ino q.pos (partB b pos q))).1),(doS s' (opWr ino q.pos (partB b pos q))).2):=by
       rw [← hW]; unfold wrS; rw [if_neg hno,if_pos hd]
      rw [eW];simp only [hd,ne_eq,not_false_eq_true,dTt,zbcZ];exact ⟨by rw [show q.pos - pos=done by omega],p6,h6,fs5.trans f6⟩
    simp only [zglZ,zbZ,zcrZ,decide_eq_decide.2 efind]
    by_cases hh : hasL ct.1.2 (q.pos / 8)
    ·simp only [hh,not_true_eq_false,dFf,show ((false == true)=false) from rfl,zfxZ,gC_false,zbZ,zoZ,if_false,Bool.false_eq_true,zpZ,zmZ]
     exact deed (λx=>x.1 hh)
    ·simp only [hh,not_false_eq_true,dTt,beq_self_eq_true,zbrZ,gC_true,zbZ]
     refine bC_of (RFree_c hs5 hws' (by omega)) ?_;simp only [zjaZ,zbZ,zoZ,if_true,zpZ]
     by_cases hfr : freeS s'=0
     ·have eW : W=((q.pos - pos,4),s'):=by
       rw [← hW]; unfold wrS; rw [if_pos ⟨hh,hfr⟩]
      rw [eW];simp only [hfr,dTt,zbcZ];exact ⟨by rw [show q.pos - pos=done by omega],p',hs5,fs5⟩
     ·simp only [hfr,dFf,zmZ]
      exact deed (λx=>hfr x.2)
   ·have kI : ¬ (k : Int) < (L.length : Int):=by omega
    have hdr : L.drop k=[]:=List.drop_of_length_le hge;rw [hdr] at hdrop ⊢
    have:=cuts_nil hdrop.symm hfl
    have hdn : done=b.length:=by omega
    unfold wrS;simp only [zglZ,zbZ,zpZ,kI,dFf,zmZ,hV.len,hdn];exact ⟨by trivial,p',hs',fs'⟩
  ·simp only [hf,dFf,Bool.not_false,zbcZ,not_false_eq_true,if_true]
   exact ⟨by trivial,p,h3,ff⟩
 ·simp only [hc0,ne_eq,not_false_eq_true,dTt,zbcZ,if_true]
  exact ⟨by trivial,p,h2,.of_grew (g1.trans g2)⟩)
theorem RSync_c {N : Nat} {s : StS} {os : Nat} {p v : AV} {H : AH} (h : DsAt s os p H) (hw : SW N s) (hN : N≤900000) {l : List Int} (hv : SV encZ 1 l v) (hl : l.length≤1000000) :
  ∃ r H',(r=I (syncS s l).1∧∃ p',DsAt (syncS s l).2 os p' H'∧StF os p p' H H')∧BCall Tryz.prog 83 [.ptr os 0,v] H r H':=zuiZ (by
 unfold zoiZ;obtain ⟨a0,b0,c0,d0,pv0,hc0⟩:=id h;simp only [zkZ,zbZ,zeZ,Nat.zero_add,zlZ hc0.obj,zdZ,gCS,gCZ,zcrZ];cases ho : s.off with
 | true =>
  have e : syncS s l=(8,s):=by
   have : deedS s=(false,s):=by
    unfold deedS;rw [if_pos (.inl ho)]
    congr 1
    cases s;simp only at ho;subst ho;rfl
   unfold syncS;rw [this]; rfl
  rw [e];simp only [show ((true == false)=false) from rfl,zfxZ,gC_false,zbZ,zoZ,if_true,zpZ,zbcZ];exact ⟨by trivial,p,h,.refl _ _ _⟩
 | false =>
 obtain ⟨r,H1,⟨rfl,h1,f1⟩,hc⟩:=Rdeed_c h hw.armed;simp only [beq_self_eq_true,zbrZ,gC_true,zbZ];refine bC_of hc ?_;obtain ⟨e1,e2,e3,e4,e5⟩:=zkeZ s;have hwd:=deedS_w hw;have hpl : (deedS s).2.pend.length≤N:=by rw [e3]; exact hw.plen
 have hob : ∀ o ∈ (deedS s).2.pend,OpB o:=by rw [e3]; exact hw.ob
 have hkw : ∃ a,Few1 a (deedS s).2.kept∧a + wts (deedS s).2.pend≤N:=by rw [e2,e3]; exact hw.kept
 unfold syncS;rw [← e2,← e3];simp only [zduZ,zbZ,zoZ,if_false,Bool.false_eq_true,zpZ];cases hd : (deedS s).1 with
 | false =>
  simp only [Bool.not_false,zbcZ,Bool.false_eq_true,if_false];exact ⟨by trivial,p,h1,f1⟩
 | true =>
  clear e1 e2 e3 e4 e5 hc hc0 ho;generalize (deedS s).2=s1 at *;simp only [if_true];obtain ⟨a,b,c,d,pv,h1⟩:=h1;have hpn : pv.length=s1.pend.length:=by rw [← h1.pm,List.length_map]
  have hidp : ∀ j ∈ idS p,j < H1.length:=λj q=>zrZ h1.ps j q
  have hos : os < H1.length:=h1.lt;have hH : H.length≤H1.length:=f1.len;simp only [Bool.not_true,zmZ];generalize hres : syncF l s1.pend (s1.kept,[])=res;refine zotZ (λm x0 x1 x5 x6 H'=>∃ (k : Nat) (ki : Img) (c' d' : AV) (lv : List OpV),k + m=s1.pend.length∧x0 = .ptr os 0∧v=x1∧x6=I k∧DsC { s1 with kept:=ki } os a b c' d' p pv H'∧StF os p p H1 H'∧syncF l (s1.pend.drop k) (ki,lv.map OpV.o)=res∧(∃ a,Few1 a ki∧a + wts (lv.map OpV.o) + wts (s1.pend.drop k)≤N)∧zaZ H' 8 x5=some (lv.flatMap encO,lv.length)∧zjsZ x5=true∧(∀ j ∈ idS x5,H1.length≤j)) ?_ s1.pend.length ⟨0,s1.kept,c,d,[],by omega,rfl,rfl,rfl,h1,.refl _ _ _,hres,by obtain ⟨x,y,z⟩:=hkw; exact ⟨x,y,by simp only [List.map_nil,List.drop_zero]; simp only [wts,List.map_nil,List.sum_nil] at *; omega⟩,rfl,rfl,by simp [idS]⟩;rintro m x0 x1 x5 x6 H2 R hR ⟨k,ki,c',d',lv,hk,rfl,rfl,rfl,h2,f2,hsy,hfew,ls,lo,li⟩
  have lvN : lv.length≤N:=by
   obtain ⟨x,-,y⟩:=hfew
   have:=wts_len (l:=lv.map OpV.o)
   rw [List.length_map] at this;omega
  have alv : alnS p=some (I (s1.pend.length : Nat)):=by rw [← hpn]; exact zhxZ h2.ps
  have hl2:=f2.len;unfold zicZ;simp only [zkZ,zbZ,zeZ,Nat.zero_add,zlZ h2.obj,zdZ,gCS,gCZ,alv,zglZ,zpZ];rcases Nat.lt_or_ge k s1.pend.length with hlt | hge
  ·have hx:=gEG (show k < pv.length by omega)
   generalize pv[k]'(by omega)=x at hx;have hxo : s1.pend[k]? = some x.o:=by rw [← h1.pm,List.getElem?_map,hx]; rfl
   have hdrop : s1.pend.drop k=x.o :: s1.pend.drop (k + 1):=zmiZ hxo;have hxb:=hob x.o (List.mem_of_getElem? hxo);rw [hdrop] at hsy hfew;have ox:=SV.oneA x.h;have kI : (k : Int) < (s1.pend.length : Int):=by omega
   obtain ⟨pp,q1,q2⟩:=op_at h2.ps hx;have n8 : anew H2 (.agg [(I 0),(I 0),(I 0),(I 0),(B false),(.lit (.string ⟨#[]⟩)),(.lit (.string ⟨#[]⟩)),nilSl])=some (.ptr H2.length 0,H2 ++ [some (.cells [I 0,I 0,I 0,I 0,B false,S ⟨#[]⟩,S ⟨#[]⟩,nilSl])]):=by simp
   have t8 : ast 8 (H2 ++ [some (.cells [I 0,I 0,I 0,I 0,B false,S ⟨#[]⟩,S ⟨#[]⟩,nilSl])]) (.ptr H2.length 0) (.agg (opA x.o x.bv))=some (H2 ++ [some (.cells (opA x.o x.bv))]):=by
    rw [zcoZ (n:=8) (xs:=opA x.o x.bv) (cs:=[I 0,I 0,I 0,I 0,B false,S ⟨#[]⟩,S ⟨#[]⟩,nilSl]) (by simp [opA,ox]) (by simp) rfl (by simp)];simp [zlaZ,opA]
   have g3:=Grew.app H2 [some (.cells (opA x.o x.bv))];have rd8 : ztZ true 8 (opA x.o x.bv) 0=some (.agg (opA x.o x.bv)):=rfl;have i0 : (opA x.o x.bv)[0]? = some (I x.o.kind):=rfl;have i1 : (opA x.o x.bv)[1]? = some (I x.o.ino):=rfl;have h3:=h2.grew g3;have f3 : StF os p p H1 (H2 ++ [some (AObj.cells (opA x.o x.bv))]):=f2.grew g3;have ls3:=g3.slice ls;have sm : Sm ki.1 ki.2:=by obtain ⟨x,y,z⟩:=hfew; exact y.sm (by omega)
   have topx : (H2 ++ [some (AObj.cells (opA x.o x.bv))])[H2.length]? = some (some (.cells (opA x.o x.bv))):=top1;have hl3 : (H2 ++ [some (AObj.cells (opA x.o x.bv))]).length=H2.length + 1:=by simp
   simp only [kI,dTt,zbcZ,q1,q2,zbZ,n8,zbpZ,t8,zcaZ];generalize (H2 ++ [some (AObj.cells (opA x.o x.bv))])=H3 at *;simp only [zeZ,Nat.zero_add,zbZ,zlZ topx,zdZ,i0,zjaZ,zcrZ]
   have inner : zfoZ R (.ptr os 0) v x5 (I k) (.ptr H2.length 0) (B (decide (x.o.kind=1∨x.o.kind=6∨x.o.kind=7))) (I 0) H3 (λr H'=>r=I 0∧∃ p',DsAt { s1 with kept:=res.1,pend:=res.2 } os p' H'∧StF os p p' H H'):=by
    refine zobZ R (λn y0 y1 y5 y6 y7 y8 y9 H'=>∃ j : Nat,j + n=l.length∧y0 = .ptr os 0∧v=y1∧x5=y5∧y6=I k∧y7 = .ptr H2.length 0∧y8=B (decide (x.o.kind=1∨x.o.kind=6∨x.o.kind=7∨x.o.ino ∈ l.take j))∧y9=I j∧H3=H') ?_ l.length ⟨0,by omega,rfl,rfl,rfl,rfl,rfl,by simp,rfl,rfl⟩;rintro n y0 y1 y5 y6 y7 y8 y9 H' T hT ⟨j,hj,rfl,rfl,rfl,rfl,rfl,rfl,rfl,rfl⟩;unfold zhkZ;simp only [hv.len,zbZ,zglZ,zpZ];rcases Nat.lt_or_ge j l.length with hjl | hjl
    ·have hz:=gEG hjl
     generalize l[j]=z at hz;have jI : (j : Int) < (l.length : Int):=by omega
     have q0 : ∀ HH : AH,ald false 1 HH (.ip (encZ z ++ (l.drop (j + 1)).flatMap encZ))=some (I z):=λ_=>rfl
     have q2 : abI .add (I (j : Int)) (I 1)=some (I ((j + 1 : Nat) : Int)):=by rw [zbdZ (by omega) (by omega)]; congr 3
     have htk : l.take (j + 1)=l.take j ++ [z]:=by rw [List.take_add_one,hz]; rfl
     by_cases hs : x.o.kind=1∨x.o.kind=6∨x.o.kind=7∨x.o.ino ∈ l.take j
     ·simp only [jI,hs,dTt,zbcZ,zcrZ,show ((true == false)=false) from rfl,zfxZ,zbZ,zoZ,if_true,q2]
      refine hT (n - 1) _ _ _ _ _ _ _ _ (by omega) ⟨j + 1,by omega,rfl,rfl,rfl,rfl,rfl, ?_,rfl,rfl⟩;rw [decide_eq_true];rw [htk];rcases hs with q | q | q | q
      ·exact .inl q
      ·exact .inr (.inl q)
      ·exact .inr (.inr (.inl q))
      ·exact .inr (.inr (.inr (List.mem_append_left _ q)))
     ·simp only [jI,hs,dTt,dFf,zbcZ,zcrZ,beq_self_eq_true,zbrZ,zbZ,zeZ,zlZ topx,zdZ,Nat.add_zero,Nat.zero_add,i1,hv.idx (λ_=>rfl) hz rfl,q0,zjaZ,zoZ,if_false,Bool.false_eq_true,q2]
      refine hT (n - 1) _ _ _ _ _ _ _ _ (by omega) ⟨j + 1,by omega,rfl,rfl,rfl,rfl,rfl, ?_,rfl,rfl⟩;rw [htk];refine congrArg (fun t : Bool => (B t : AV)) (decide_eq_decide.2 ?_);simp only [List.mem_append,List.mem_singleton]
      constructor
      ·intro q; exact .inr (.inr (.inr (.inr q)))
      ·rintro (q | q | q | q | q)
       ·exact absurd (.inl q) hs
       ·exact absurd (.inr (.inl q)) hs
       ·exact absurd (.inr (.inr (.inl q))) hs
       ·exact absurd (.inr (.inr (.inr q))) hs
       ·exact q
    ·have jI : ¬ (j : Int) < (l.length : Int):=by omega
     rw [List.take_of_length_le hjl];simp only [jI,dFf,zmZ]
     by_cases hst : staysO l x.o
     ·have hst' : x.o.kind=1∨x.o.kind=6∨x.o.kind=7∨x.o.ino ∈ l:=hst
      obtain ⟨RA,hRA,hpA⟩:=ref_Apply_p (o:=x.o) (bv:=x.bv) h3.kept sm x.h (by have:=hxb.1; omega) (by have:=hxb.2.1; omega) (by have:=hxb.2.2; omega);obtain ⟨a',b',rfl,oa,ob⟩:=hRA.agg2;simp only [hst',dTt,zbcZ,zkZ,zbZ,zeZ,Nat.zero_add,zlZ h3.obj,(rdD _ _ _ _ _ _ _ _ _).2,zlZ topx,rd8];refine bP_of hpA ?_;obtain ⟨h4,f4⟩:=h3.set (s':={ s1 with kept:=ziaZ ki.1 ki.2 x.o }) h3.now hRA rfl;simp only [zkZ,zbZ,zeZ,Nat.zero_add,(stD h3.obj oa ob).2,zcaZ];rw [zhhZ]; unfold zepZ;simp only [zbdZ (a:=k) (b:=1) (by omega) (by omega),zbZ];refine hR (m - 1) _ _ _ _ _ (by omega) ⟨k + 1,_,a',b',lv,by omega,rfl,rfl,by simp,h4,f3.trans f4, ?_, ?_, ?_,lo,li⟩
      ·rw [← hsy]; conv => rhs; unfold syncF
       rw [if_pos hst]
      ·obtain ⟨y,z,w⟩:=hfew
       have e : wts (x.o :: s1.pend.drop (k + 1))=wt x.o + wts (s1.pend.drop (k + 1)):=by simp [wts]
       exact ⟨y + wt x.o,z.step x.o,by omega⟩
      ·exact zcZ ls3 λj hj=>by
        have:=li j hj
        exact f4.same j (by have:=zrZ ls3 j hj; omega) (by omega) (λq=>by have:=hidp j q; omega)
     ·have hst' : ¬ (x.o.kind=1∨x.o.kind=6∨x.o.kind=7∨x.o.ino ∈ l):=hst
      have eA : absl H3 8 1 (zrow [(I 0),(I 0),(I 0),(I 0),(B false),(.lit (.string ⟨#[]⟩)),(.lit (.string ⟨#[]⟩)),nilSl] 1) [(0,8,.agg (opA x.o x.bv))]=some (.sl H3.length 0 1 8 (.ex 1),H3 ++ [some (.cells (encO x))]):=by
       simp [absl,absf,zrow,encO,opA,zbcjZ,ox,zlaZ]
      have g4:=Grew.app H3 [some (.cells (encO x))];have x1' : zdeZ (H3 ++ [some (AObj.cells (encO x))]) 8 (.sl H3.length 0 1 8 (.ex 1))=some (encO x,1):=znZ (by simp [zaZ,encO,opA]);obtain ⟨r,H5,a1,a2,a3,a4,a5,a6⟩:=zjmZ (bytes:=96) (g4.slice ls3) lo x1' (by omega);simp only [hst',dFf,zmZ,zlZ topx,rd8,zbZ,eA,zbpZ,a1];rw [zhhZ]; unfold zepZ;simp only [zbdZ (a:=k) (b:=1) (by omega) (by omega),zbZ];have h4:=h3.grew g4;have f4:=f3.grew g4;have lt4 : ∀ j,j < H1.length→j ∉ idS x5:=λj hj q=>by have:=li j q; omega
      have len4 : (H3 ++ [some (AObj.cells (encO x))]).length=H3.length + 1:=by simp
      have k5 : ∀ j,j < H1.length→H5[j]? = (H3 ++ [some (AObj.cells (encO x))])[j]?:=λj hj=>a5 j (by omega) (lt4 j hj)
      refine hR (m - 1) _ _ _ _ _ (by omega) ⟨k + 1,ki,c',d',lv ++ [x],by omega,rfl,rfl,by simp, ?_, ?_, ?_, ?_, ?_,a2, ?_⟩
      ·exact ⟨by rw [k5 os hos]; exact h4.obj,h4.now,h4.kept,h4.pm,zcZ h4.ps λj hj=>k5 j (hidp j hj),h4.po,h4.pi⟩
      ·exact ⟨by omega,λj hj hne hjp=>by rw [k5 j hj]; exact f4.same j hj hne hjp,λ_ q=>.inl q⟩
      ·rw [← hsy]; conv => rhs; unfold syncF
       rw [if_neg hst];simp
      ·obtain ⟨y,z,w⟩:=hfew
       have e : wts (x.o :: s1.pend.drop (k + 1))=wt x.o + wts (s1.pend.drop (k + 1)):=by simp [wts]
       exact ⟨y,z,by rw [List.map_append]; simp only [List.map_cons,List.map_nil,wts_snoc]; omega⟩
      ·simpa using a3
      ·intro j hj
       rcases a6 j hj with q | q
       ·exact li j q
       ·omega
   by_cases c1 : x.o.kind=1
   ·simp only [c1,dTt,show ((true == false)=false) from rfl,zfxZ,zbZ,zoZ,if_true,zcrZ]
    simp only [c1,true_or,dTt] at inner;exact inner
   ·by_cases c6 : x.o.kind=6
    ·have n1 : ¬ (6 : Int)=1:=by omega
     simp only [c6,n1,dTt,dFf,show ((true == false)=false) from rfl,beq_self_eq_true,zbrZ,zfxZ,zbZ,zeZ,Nat.zero_add,zlZ topx,zdZ,i0,zjaZ,zoZ,if_true,if_false,Bool.false_eq_true,zcrZ];simp only [c6,true_or,or_true,dTt] at inner;exact inner
    ·simp only [c1,c6,dFf,beq_self_eq_true,zbrZ,zbZ,zeZ,Nat.zero_add,zlZ topx,zdZ,i0,zjaZ,zoZ,if_false,Bool.false_eq_true,zcrZ]
     simp only [c1,c6,false_or] at inner;exact inner
  ·have kI : ¬ (k : Int) < (s1.pend.length : Int):=by omega
   have hdrop : s1.pend.drop k=[]:=List.drop_of_length_le hge;rw [hdrop] at hsy hfew;unfold syncF at hsy;rw [← hsy];have e7 : ast 1 H2 (.ptr os 4) x5=some (H2.set os (some (.cells [a,b,c',d',x5,I s1.cap,I s1.made,I s1.armed,B s1.off]))):=fld h2.obj (by simp) (zbiZ lo);have hnx : os ∉ idS x5:=λq=>by have:=li os q; omega
   simp only [kI,dFf,zmZ,zkZ,zbZ,zeZ,Nat.zero_add,e7,zcaZ];refine ⟨by trivial,x5,⟨a,b,c',d',lv,gSS h2.lt,h2.now,h2.kept,rfl,zcZ ls λj hj=>gSN (λe=>hnx (by rw [e]; exact hj)),lo,hnx⟩, ?_⟩;refine ⟨by rw [List.length_set]; omega,λj hj hne hjp=>?_,λj hj=>.inr (by have:=li j hj; omega)⟩;rw [gSN (Ne.symm hne),f2.same j (by omega) hne hjp,f1.same j hj hne hjp])
theorem RCopy_p {ns : List Nm} {ds : List Nd} {v : AV} (hv : ImV ns ds v) (hb : Sm ns ds) : ∃ R,ImV ns ds R∧BPure Tryz.prog 140 [v] R:=by
 have hids:=hv.noIds;obtain ⟨a,b,dv,rfl,sa,sb,rfl⟩:=hv;have b1:=hb.1;have b2:=hb.2.1;rw [List.length_map] at b2;obtain ⟨r,X,⟨a',b',ew,rfl,hew,-,ow⟩,hc⟩:=CopyImage_c (H:=[]) sa sb (by omega) b2 (λd hd=>hb.2.2.2 d.nd (List.mem_map_of_mem hd));obtain ⟨R,hR,fR⟩:=ow.lend;rw [hew] at hR;exact BPure.FZ hids ⟨_,X,⟨R,fR,hR⟩,hc⟩
theorem keepF_past {bits : List Bool} : ∀ {r : List OpM} {i : Nat} {x : Img},bits.length≤i→keepF bits i r x=x
 | [],i,x,h => rfl
 | o :: r,i,x,h => by
  unfold keepF;have : bitAt bits i=false:=by unfold bitAt; rw [List.getElem?_eq_none h]; rfl
  rw [if_neg (by rw [this]; simp)];exact keepF_past (by omega)
theorem RRestart_c {N : Nat} {s : StS} {os : Nat} {p v : AV} {H : AH} (h : DsAt s os p H) (hw : SW N s) (hN : N≤900000) {l : List Bool} (hv : SV encT 1 l v) (hl : l.length≤1000000) :
  ∃ r H',(r = .tup []∧DsAt (restS s l) os nilSl H'∧StF os p nilSl H H')∧BCall Tryz.prog 84 [.ptr os 0,v] H r H':=zqnZ (by
 unfold zkzZ;obtain ⟨a,b,c,d,pv,h1⟩:=h;have hpl:=hw.plen;have hob:=hw.ob;have hpn : pv.length=s.pend.length:=by rw [← h1.pm,List.length_map]
 have alv : alnS p=some (I (s.pend.length : Nat)):=by rw [← hpn]; exact zhxZ h1.ps
 unfold restS;generalize hres : keepF l 0 s.pend s.kept=res;have hos : os < H.length:=h1.lt;refine zmaZ (λm x0 x1 x4 H'=>∃ (k : Nat) (ki : Img) (c' d' : AV),k + m=s.pend.length∧x0 = .ptr os 0∧v=x1∧x4=I k∧DsC { s with kept:=ki } os a b c' d' p pv H'∧StF os p p H H'∧keepF l k (s.pend.drop k) ki=res∧(∃ a,Few1 a ki∧a + wts (s.pend.drop k)≤N)) ?_ s.pend.length ⟨0,s.kept,c,d,by omega,rfl,rfl,rfl,h1,.refl _ _ _,hres,by simp only [List.drop_zero]; exact hw.kept⟩;rintro m x0 x1 x4 H2 R hR ⟨k,ki,c',d',hk,rfl,rfl,rfl,h2,f2,hsy,hfew⟩;unfold zguZ;have sm : Sm ki.1 ki.2:=by obtain ⟨x,y,z⟩:=hfew; exact y.sm (by omega)
 -- the end
 have fin : res=ki→bO (zgZ (.ptr os 0)) (λv30=>bO (zhZ 2 v30) λv31=>bO (ald true 2 H2 v31) λv32=>bC (BCall Tryz.prog 140 [v32] H2) λv33 H34=>bO (zgZ (.ptr os 0)) λv35=>bO (zhZ 0 v35) λv36=>bS (ast 2 H34 v36 v33) λH37=>
   bO (zgZ (.ptr os 0)) λv38=>bO (zhZ 4 v38) λv39=>bS (ast 1 H37 v39 nilSl) λH40=>bO (zgZ (.ptr os 0)) λv41=>bO (zhZ 7 v41) λv42=>bS (ast 1 H40 v42 (I (-1))) λH43=>bO (zgZ (.ptr os 0)) λv44=>bO (zhZ 8 v44) λv45=>bS (ast 1 H43 v45 (B false)) λH46=>
   AV.tup [] = .tup []∧DsAt { s with kept:=res,now:=res,pend:=[],off:=false,armed:=-1 } os nilSl H46∧StF os p nilSl H H46):=by
  rintro rfl;obtain ⟨RC,hRC,hpC⟩:=RCopy_p h2.kept sm;obtain ⟨a',b',rfl,oa,ob⟩:=hRC.agg2;have l2:=h2.lt;simp only [zkZ,zbZ,zeZ,Nat.zero_add,zlZ h2.obj,(rdD _ _ _ _ _ _ _ _ _).2];refine bC_of (hpC H2) ?_;have s1:=(stD h2.obj oa ob).1;have c1 : (H2.set os (some (AObj.cells [a',b',c',d',p,I s.cap,I s.made,I s.armed,B s.off])))[os]? = some (some (.cells [a',b',c',d',p,I s.cap,I s.made,I s.armed,B s.off])):=gSS l2;have s2:=fld c1 (k:=4) (x:=nilSl) (by simp) rfl;have c2 : (H2.set os (some (AObj.cells [a',b',c',d',nilSl,I s.cap,I s.made,I s.armed,B s.off])))[os]? = some (some (.cells [a',b',c',d',nilSl,I s.cap,I s.made,I s.armed,B s.off])):=gSS l2;have s3:=fld c2 (k:=7) (x:=I (-1)) (by simp) rfl;have c3 : (H2.set os (some (AObj.cells [a',b',c',d',nilSl,I s.cap,I s.made,I (-1),B s.off])))[os]? = some (some (.cells [a',b',c',d',nilSl,I s.cap,I s.made,I (-1),B s.off])):=gSS l2;have s4:=fld c3 (k:=8) (x:=B false) (by simp) rfl;simp only [List.set_set,List.set_cons_succ,List.set_cons_zero] at s2 s3 s4;simp only [zkZ,zbZ,zeZ,Nat.zero_add,s1,zcaZ,s2,s3,s4];refine ⟨by trivial,⟨a',b',c',d',[],gSS l2,hRC,h2.kept,rfl,rfl,rfl,by simp [idS]⟩, ?_⟩;refine ⟨by rw [List.length_set]; exact f2.len,λj hj hne hjp=>?_,λj hj=>by simp [idS] at hj⟩;rw [gSN (Ne.symm hne),f2.same j hj hne hjp]
 simp only [zkZ,zbZ,zeZ,Nat.zero_add,zlZ h2.obj,zdZ,gCS,gCZ,alv,zglZ,zcrZ];simp only [zkZ,zbZ,zeZ,Nat.zero_add] at fin;rcases Nat.lt_or_ge k s.pend.length with hlt | hge
 ·have hx:=gEG (show k < pv.length by omega)
  generalize pv[k]'(by omega)=x at hx;have hxo : s.pend[k]? = some x.o:=by rw [← h1.pm,List.getElem?_map,hx]; rfl
  have hdrop : s.pend.drop k=x.o :: s.pend.drop (k + 1):=zmiZ hxo;have hxb:=hob x.o (List.mem_of_getElem? hxo);have kI : (k : Int) < (s.pend.length : Int):=by omega
  obtain ⟨pp,q1,q2⟩:=op_at h2.ps hx;rcases Nat.lt_or_ge k l.length with hkl | hkl
  ·rw [hdrop] at hsy hfew
   have hb:=gEG hkl;generalize l[k]=bt at hb;have hbt : bitAt l k=bt:=by unfold bitAt; rw [hb]; rfl
   have kl : (k : Int) < (l.length : Int):=by omega
   have q0 : ∀ HH : AH,ald false 1 HH (.ip (encT bt ++ (l.drop (k + 1)).flatMap encT))=some (B bt):=λ_=>rfl
   simp only [kI,dTt,beq_self_eq_true,zbrZ,zbZ,hv.len,zglZ,kl,zoZ,if_true,zpZ,zbcZ,hv.idx encT_len hb rfl,q0];cases bt with
   | true =>
    obtain ⟨RA,hRA,hpA⟩:=ref_Apply_p (o:=x.o) (bv:=x.bv) h2.kept sm x.h (by have:=hxb.1; omega) (by have:=hxb.2.1; omega) (by have:=hxb.2.2; omega);obtain ⟨a',b',rfl,oa,ob⟩:=hRA.agg2;have q2' : ald true 8 H2 pp=some (.agg (opA x.o x.bv)):=q2;simp only [zbcZ,zkZ,zbZ,zeZ,Nat.zero_add,zlZ h2.obj,(rdD _ _ _ _ _ _ _ _ _).2,zdZ,gCS,gCZ,q1,q2'];refine bP_of hpA ?_;obtain ⟨h4,f4⟩:=h2.set (s':={ s with kept:=ziaZ ki.1 ki.2 x.o }) h2.now hRA rfl;simp only [zkZ,zbZ,zeZ,Nat.zero_add,(stD h2.obj oa ob).2,zcaZ];rw [zggZ]; unfold zdzZ;simp only [zbdZ (a:=k) (b:=1) (by omega) (by omega),zbZ];refine hR (m - 1) _ _ _ _ (by omega) ⟨k + 1,_,a',b',by omega,rfl,rfl,by simp,h4,f2.trans f4, ?_, ?_⟩
    ·rw [← hsy]; conv => rhs; unfold keepF
     rw [if_pos hbt]
    ·obtain ⟨y,z,w⟩:=hfew
     have e : wts (x.o :: s.pend.drop (k + 1))=wt x.o + wts (s.pend.drop (k + 1)):=by simp [wts]
     exact ⟨y + wt x.o,z.step x.o,by omega⟩
   | false =>
    simp only [zmZ];rw [zggZ]; unfold zdzZ;simp only [zbdZ (a:=k) (b:=1) (by omega) (by omega),zbZ];refine hR (m - 1) _ _ _ _ (by omega) ⟨k + 1,ki,c',d',by omega,rfl,rfl,by simp,h2,f2, ?_, ?_⟩
    ·rw [← hsy]; conv => rhs; unfold keepF
     rw [if_neg (by rw [hbt]; simp)]
    ·obtain ⟨y,z,w⟩:=hfew
     have e : wts (x.o :: s.pend.drop (k + 1))=wt x.o + wts (s.pend.drop (k + 1)):=by simp [wts]
     exact ⟨y,z,by omega⟩
  ·have kl : ¬ (k : Int) < (l.length : Int):=by omega
   rw [keepF_past hkl] at hsy;simp only [kI,dTt,beq_self_eq_true,zbrZ,zbZ,hv.len,zglZ,kl,dFf,zoZ,if_true,zpZ,zmZ]
   have:=fin hsy.symm
   simp only [zlZ h2.obj,zbZ] at this ⊢;exact this
 ·have kI : ¬ (k : Int) < (s.pend.length : Int):=by omega
  have hdrop : s.pend.drop k=[]:=List.drop_of_length_le hge;rw [hdrop] at hsy;unfold keepF at hsy;simp only [kI,dFf,show ((false == true)=false) from rfl,zfxZ,zbZ,zoZ,if_false,Bool.false_eq_true,zpZ,zmZ]
  have:=fin hsy.symm
  simp only [zlZ h2.obj,zbZ] at this ⊢;exact this)
def nameT : List (List UInt8):=[[97],[98],[99],[100,115,116],[109,97,112],[109,97,112,46,110,101,119],[120,45,49],[100,105,115,107],[],[65],[45,97],[97,47,98],[97,98,99,100,101,102,103,104,105,106,107,108,109,110,111,112,113,114,115,116],[97,98,99,100,101,102,103,104,105,106,107,108,109,110,111,112,113,114,115,116,117],[97,98,99,100,101,102,103,104,105,106,107,108,109,110,111,112],[97,98,99,100,101,102,103,104,105,106,107,108,109,110,111,112,113],[46],[48]]
def nameK (k : UInt8) : List UInt8:=nameT.getD (k.toNat % 18) []
theorem Name_p (k : UInt8) : BPure Tryz.prog 18 [.lit (.int .u8 k.toNat)] (S (bstr (nameK k))):=BPure.val rfl rfl (salvorkeep_Name_ok (by
 unfold zkdZ;have e1 : absl [] 1 18 (zrow [(.lit (.string ⟨#[]⟩))] 18) [(0,1,(.lit (.string ⟨#[97]⟩))),(1,1,(.lit (.string ⟨#[98]⟩))),(2,1,(.lit (.string ⟨#[99]⟩))),(3,1,(.lit (.string ⟨#[100,115,116]⟩))),(4,1,(.lit (.string ⟨#[109,97,112]⟩))),(5,1,(.lit (.string ⟨#[109,97,112,46,110,101,119]⟩))),(6,1,(.lit (.string ⟨#[120,45,49]⟩))),(7,1,(.lit (.string ⟨#[100,105,115,107]⟩))),(8,1,(.lit (.string ⟨#[]⟩))),(9,1,(.lit (.string ⟨#[65]⟩))),(10,1,(.lit (.string ⟨#[45,97]⟩))),(11,1,(.lit (.string ⟨#[97,47,98]⟩))),(12,1,(.lit (.string ⟨#[97,98,99,100,101,102,103,104,105,106,107,108,109,110,111,112,113,114,115,116]⟩))),(13,1,(.lit (.string ⟨#[97,98,99,100,101,102,103,104,105,106,107,108,109,110,111,112,113,114,115,116,117]⟩))),(14,1,(.lit (.string ⟨#[97,98,99,100,101,102,103,104,105,106,107,108,109,110,111,112]⟩))),(15,1,(.lit (.string ⟨#[97,98,99,100,101,102,103,104,105,106,107,108,109,110,111,112,113]⟩))),(16,1,(.lit (.string ⟨#[46]⟩))),(17,1,(.lit (.string ⟨#[48]⟩)))]=some (.sl 0 0 18 1 (.ex 18),[some (.cells (nameT.map λs=>S (bstr s)))]):=by rfl
 have hm : k.toNat % 18 < 18:=Nat.mod_lt _ (by omega)
 have e2 : abI .rem (.lit (.int .u8 k.toNat)) (.lit (.int .u8 18))=some (.lit (.int .u8 ((k.toNat % 18 : Nat) : Int))):=by
  simp [abI,aint2,Int.tmod_eq_emod_of_nonneg]
 rw [e1,e2];simp only [zbpZ,zbZ]
 have e3 : aixS 1 (.sl 0 0 18 1 (.ex 18)) (.lit (.int .u8 ((k.toNat % 18 : Nat) : Int)))=some (.ptr 0 (k.toNat % 18)):=by
  simp [aixS,aint];omega
 have e4 : ald false 1 [some (.cells (nameT.map λs=>S (bstr s)))] (.ptr 0 (k.toNat % 18))=some (S (bstr (nameK k))):=by
  rw [zlZ (cs:=nameT.map λs=>S (bstr s)) rfl]
  have : nameT[k.toNat % 18]? = some (nameK k):=by
   unfold nameK;rw [List.getD_eq_getElem?_getD,gEG (show k.toNat % 18 < nameT.length by simp [nameT]; omega)];rfl
  simp [zdZ,this]
 rw [e3];simp only [zbZ,e4]))
structure Stp where
 kind : UInt8
 name : UInt8
 to : UInt8
 ino : Int
 pos : Int
 n : Int
 b : List UInt8
 keep : Bool
 bits : List Bool
 inos : List Int
structure StpV where
 s : Stp
 bv : AV
 tv : AV
 iv : AV
 hb : SV encU 1 s.b bv
 ht : SV encT 1 s.bits tv
 hi : SV encZ 1 s.inos iv
def encP (x : StpV) : List AV:=[.lit (.int .u8 x.s.kind.toNat),.lit (.int .u8 x.s.name.toNat),.lit (.int .u8 x.s.to.toNat),I x.s.ino,I x.s.pos,I x.s.n,x.bv,B x.s.keep,x.tv,x.iv]
theorem encP_len (x : StpV) : (encP x).length=10:=rfl
theorem noIdss_encP (x : StpV) : zdcZ (encP x)=true:=by simp [encP,zdcZ,noIds,x.hb.1,x.ht.1,x.hi.1]
def wideS (x : Stp) : Prop:=(60 < x.b.length∧x.b.length ≠ 4097)∨(200 < x.n∧x.n≤32768)∨200 < x.bits.length∨30 < x.inos.length
instance (x : Stp) : Decidable (wideS x):=by unfold wideS; infer_instance
def fewS (l : List StpV) (most : Int) : Prop:=(l.length : Int)≤most∧∀ x ∈ l,¬ wideS x.s
instance (l : List StpV) (most : Int) : Decidable (fewS l most):=by unfold fewS; infer_instance
theorem anewP (H : AH) : anew H (.agg [(.lit (.int .u8 0)),(.lit (.int .u8 0)),(.lit (.int .u8 0)),(I 0),(I 0),(I 0),nilSl,(B false),nilSl,nilSl])=some (.ptr H.length 0,H ++ [some (.cells [.lit (.int .u8 0),.lit (.int .u8 0),.lit (.int .u8 0),I 0,I 0,I 0,nilSl,B false,nilSl,nilSl])]):=by simp
theorem astP (H : AH) (x : StpV) : ast 10 (H ++ [some (.cells [.lit (.int .u8 0),.lit (.int .u8 0),.lit (.int .u8 0),I 0,I 0,I 0,nilSl,B false,nilSl,nilSl])]) (.ptr H.length 0) (.agg (encP x))=some (H ++ [some (.cells (encP x))]):=by
 have o1:=SV.oneA x.hb;have o2:=SV.oneA x.ht;have o3:=SV.oneA x.hi;rw [zcoZ (n:=10) (xs:=encP x) (cs:=[.lit (.int .u8 0),.lit (.int .u8 0),.lit (.int .u8 0),I 0,I 0,I 0,nilSl,B false,nilSl,nilSl]) (by simp [encP,o1,o2,o3]) (by simp) rfl (by simp)];simp [zlaZ,encP]
theorem rdP (x : StpV) (t : List AV) (H : AH) : ald true 10 H (.ip (encP x ++ t))=some (.agg (encP x)):=rfl
theorem lawFew_p {l : List StpV} {v : AV} (hv : SV encP 10 l v) (hl : l.length≤9223372036854775807) (most : Int) : BPure Tryz.prog 10 [v,I most] (B (decide (fewS l most))):=BPure.val (by simp [zdcZ,noIds,hv.1]) rfl (salvorlaw13_Few_ok (by
 unfold zbbiZ;simp only [hv.len,zbZ,ztmZ,zpZ]
 by_cases c0 : most < (l.length : Int)
 ·simp only [c0,dTt,zbcZ]
  rw [decide_eq_false (λq=>by have:=q.1; omega)]
 ·simp only [c0,dFf,zmZ]
  refine zykZ (λm x0 x5 H'=>∃ j : Nat,j + m=l.length∧v=x0∧x5=I j∧∀ (i : Nat) y,i < j→l[i]? = some y→¬ wideS y.s) ?_ l.length ⟨0,by omega,rfl,rfl,by omega⟩;rintro m x0 x5 H2 R hR ⟨j,hj,rfl,rfl,hall⟩;unfold zqpZ;simp only [hv.len,zbZ,zglZ,zpZ];rcases Nat.lt_or_ge j l.length with hlt | hge
  ·have hx:=gEG hlt
   generalize l[j]=x at hx;have jI : (j : Int) < (l.length : Int):=by omega
   have q2 : abI .add (I (j : Int)) (I 1)=some (I ((j + 1 : Nat) : Int)):=by rw [zbdZ (by omega) (by omega)]; congr 3
   have i5 : (encP x)[5]? = some (I x.s.n):=rfl;have i6 : (encP x)[6]? = some x.bv:=rfl;have i8 : (encP x)[8]? = some x.tv:=rfl;have i9 : (encP x)[9]? = some x.iv:=rfl;simp only [jI,dTt,zbcZ,hv.idx encP_len hx rfl,zbZ,rdP,anewP,zbpZ,astP,zcaZ,zeZ,Nat.zero_add,zlZ top1,zdZ,i6,x.hb.len,ztmZ,zcrZ]
   have no : wideS x.s→B false=B (decide (fewS l most)):=λh=>by
    rw [decide_eq_false (λq=>q.2 x (List.mem_of_getElem? hx) h)]
   have yes : ¬ wideS x.s→∀ H',R [v,I ((j + 1 : Nat) : Int)] H':=λh H'=>hR (m - 1) _ _ _ (by omega) ⟨j + 1,by omega,rfl,rfl,λi y hi hy=>by
    by_cases e : i=j
    ·subst e; rw [hx] at hy; injection hy with hy; subst hy; exact h
    ·exact hall i y (by omega) hy⟩
   -- bytes
   have rest : ¬ (60 < x.s.b.length∧x.s.b.length ≠ 4097)→¬ (200 < x.s.n∧x.s.n≤32768) →
     bO (some (B false)) (λv37=>bG v37 false λw38=>gO w38 (zhZ 8 (.ptr H2.length 0)) λv39=>bG v37 false λw40=>gO w40 (ald false 1 (H2 ++ [some (AObj.cells (encP x))]) v39) λv41=>bG v37 false λw42=>gO w42 (alnS v41) λv43=>bG v37 false λw44=>gO w44 (abI .gtr v43 (I 200)) λv45=>
     bO (apick v37 (B true) v45) λv46=>bG v46 false λw47=>gO w47 (zhZ 9 (.ptr H2.length 0)) λv48=>bG v46 false λw49=>gO w49 (ald false 1 (H2 ++ [some (AObj.cells (encP x))]) v48) λv50=>bG v46 false λw51=>gO w51 (alnS v50) λv52=>bG v46 false λw53=>gO w53 (abI .gtr v52 (I 30)) λv54=>
     bO (apick v46 (B true) v54) λv55=>bB v55 λt56=>bI t56 (B false=B (decide (fewS l most))) (bO (abI .add (I j) (I 1)) λv57=>R [v,v57] (H2 ++ [some (AObj.cells (encP x))]))):=by
    intro h1 h2
    by_cases h3 : (200 : Int) < (x.s.bits.length : Int)
    ·simp only [zbZ,zcrZ,beq_self_eq_true,zbrZ,zeZ,Nat.zero_add,zlZ top1,zdZ,i8,x.ht.len,ztmZ,h3,dTt,zoZ,if_false,Bool.false_eq_true,show ((true == false)=false) from rfl,zfxZ,if_true,zpZ,zbcZ]
     exact no (.inr (.inr (.inl (by omega))))
    ·by_cases h4 : (30 : Int) < (x.s.inos.length : Int)
     ·simp only [zbZ,zcrZ,beq_self_eq_true,zbrZ,zeZ,Nat.zero_add,zlZ top1,zdZ,i8,x.ht.len,ztmZ,h3,dFf,zoZ,if_false,Bool.false_eq_true,i9,x.hi.len,h4,dTt,zpZ,zbcZ]
      exact no (.inr (.inr (.inr (by omega))))
     ·simp only [zbZ,zcrZ,beq_self_eq_true,zbrZ,zeZ,Nat.zero_add,zlZ top1,zdZ,i8,x.ht.len,ztmZ,h3,dFf,zoZ,if_false,Bool.false_eq_true,i9,x.hi.len,h4,zpZ,zmZ,q2]
      exact yes (by rintro (q | q | q | q); exact h1 q; exact h2 q; omega; omega) _
   -- numbers
   have mid : ¬ (60 < x.s.b.length∧x.s.b.length ≠ 4097) →
     bO (some (B false)) (λv20=>bG v20 false λw21=>gO w21 (zhZ 5 (.ptr H2.length 0)) λv22=>bG v20 false λw23=>gO w23 (ald false 1 (H2 ++ [some (AObj.cells (encP x))]) v22) λv24=>bG v20 false λw25=>gO w25 (abI .gtr v24 (I 200)) λv26=>bG v20 false λw27=>gO w27 (some v26) λv28=>bG v28 true λw29=>gO w29 (zhZ 5 (.ptr H2.length 0)) λv30=>bG v28 true λw31=>gO w31 (ald false 1 (H2 ++ [some (AObj.cells (encP x))]) v30) λv32=>bG v28 true λw33=>gO w33 (abI .leq v32 (I 32768)) λv34=>bG v20 false λw35=>gO w35 (apick v28 v34 (B false)) λv36=>bO (apick v20 (B true) v36) λv37=>
     bG v37 false λw38=>gO w38 (zhZ 8 (.ptr H2.length 0)) λv39=>bG v37 false λw40=>gO w40 (ald false 1 (H2 ++ [some (AObj.cells (encP x))]) v39) λv41=>bG v37 false λw42=>gO w42 (alnS v41) λv43=>bG v37 false λw44=>gO w44 (abI .gtr v43 (I 200)) λv45=>
     bO (apick v37 (B true) v45) λv46=>bG v46 false λw47=>gO w47 (zhZ 9 (.ptr H2.length 0)) λv48=>bG v46 false λw49=>gO w49 (ald false 1 (H2 ++ [some (AObj.cells (encP x))]) v48) λv50=>bG v46 false λw51=>gO w51 (alnS v50) λv52=>bG v46 false λw53=>gO w53 (abI .gtr v52 (I 30)) λv54=>
     bO (apick v46 (B true) v54) λv55=>bB v55 λt56=>bI t56 (B false=B (decide (fewS l most))) (bO (abI .add (I j) (I 1)) λv57=>R [v,v57] (H2 ++ [some (AObj.cells (encP x))]))):=by
    intro h1
    by_cases h2 : 200 < x.s.n
    ·by_cases h3 : x.s.n≤32768
     ·simp only [zbZ,zcrZ,beq_self_eq_true,zbrZ,zeZ,Nat.zero_add,zlZ top1,zdZ,i5,ztmZ,h2,dTt,abI_leq,h3,zoZ,if_true,if_false,Bool.false_eq_true,show ((true == false)=false) from rfl,zfxZ,zpZ,zbcZ]
      exact no (.inr (.inl ⟨h2,h3⟩))
     ·simp only [zbZ,zcrZ,beq_self_eq_true,zbrZ,zeZ,Nat.zero_add,zlZ top1,zdZ,i5,ztmZ,h2,dTt,abI_leq,h3,dFf,zoZ,if_true,if_false,Bool.false_eq_true]
      have:=rest h1 (λq=>h3 q.2)
      simp only [zbZ,zcrZ,beq_self_eq_true,zbrZ,zeZ,Nat.zero_add,zlZ top1,zdZ] at this ⊢;exact this
    ·simp only [zbZ,zcrZ,beq_self_eq_true,zbrZ,zeZ,Nat.zero_add,zlZ top1,zdZ,i5,ztmZ,h2,dFf,show ((false == true)=false) from rfl,zfxZ,zoZ,if_false,Bool.false_eq_true]
     have:=rest h1 (λq=>h2 q.1)
     simp only [zbZ,zcrZ,beq_self_eq_true,zbrZ,zeZ,Nat.zero_add,zlZ top1,zdZ] at this ⊢;exact this
   by_cases h1 : (60 : Int) < (x.s.b.length : Int)
   ·by_cases h2 : (x.s.b.length : Int)=4097
    ·have e2 : decide ((x.s.b.length : Int) ≠ 4097)=false:=by simp [h2]
     have:=mid (λq=>by omega)
     simp only [h1,dTt,beq_self_eq_true,zbrZ,zbZ,zeZ,Nat.zero_add,zlZ top1,zdZ,i6,x.hb.len,zkuZ,e2,zoZ,if_true,zcrZ] at this ⊢;exact this
    ·simp only [h1,dTt,beq_self_eq_true,zbrZ,zbZ,zeZ,Nat.zero_add,zlZ top1,zdZ,i6,x.hb.len,zkuZ,h2,ne_eq,not_false_eq_true,zoZ,if_true,zcrZ,bG_undef,show ((true == false)=false) from rfl,zfxZ,zpZ,zbcZ]
     exact no (.inl ⟨by omega,by omega⟩)
   ·simp only [h1,dFf,show ((false == true)=false) from rfl,zfxZ,zbZ,zoZ,if_false,Bool.false_eq_true]
    have:=mid (λq=>by omega)
    simp only [zbZ,zcrZ,beq_self_eq_true,zbrZ,zeZ,Nat.zero_add] at this ⊢;exact this
  ·have jI : ¬ (j : Int) < (l.length : Int):=by omega
   simp only [jI,dFf,zmZ];rw [decide_eq_true];refine ⟨by omega,λx hx=>?_⟩;obtain ⟨i,hi⟩:=List.mem_iff_getElem?.1 hx;exact hall i x (by have:=(gSI.1 hi).1; omega) hi))
def zbcrZ (s : StS) (x : Stp) : StS :=
 if x.kind.toNat % 16=0∨x.kind.toNat % 16=1 then (openS s (nameK x.name) (decide (x.kind.toNat % 16=0))).2
 else if x.kind.toNat % 16=2∨x.kind.toNat % 16=3 then (zbgnZ s x.ino x.pos x.b).2
 else if x.kind.toNat % 16=5 then (truncS s x.ino x.n).2
 else if x.kind.toNat % 16=6 then (allocS s x.ino x.pos x.n x.keep).2
 else if x.kind.toNat % 16=7 then (punchS s x.ino x.pos x.n).2
 else if x.kind.toNat % 16=8 then (renS s (nameK x.name) (nameK x.to)).2
 else if x.kind.toNat % 16=9 then (remS s (nameK x.name)).2
 else if x.kind.toNat % 16=10 then (syncS s x.inos).2
 else if x.kind.toNat % 16=11 then (syncS s []).2
 else if x.kind.toNat % 16=12 then (syncS s [x.ino]).2
 else if x.kind.toNat % 16=13 then armS s x.n
 else if x.kind.toNat % 16=14 then restS s x.bits
 else s
theorem writeS_w2 {N : Nat} {s : StS} (h : SW N s) (ino pos : Int) {b : List UInt8} (hb : b.length≤60∨b.length=4097) : SW (N + 4099) (zbgnZ s ino pos b).2:=by
 rcases hb with hb | hb
 ·exact (writeS_w h ino pos b).mono (by omega)
 ·unfold zbgnZ
  split
  ·exact h.mono (by omega)
  ·rw [if_pos (by unfold fitsW; omega)]
   exact h.mono (by omega)
theorem doStep_w {N : Nat} {s : StS} (h : SW N s) {x : Stp} (hx : ¬ wideS x) (hn : x.n≤9223372036854775807) : SW (N + 4099) (zbcrZ s x):=by
 unfold wideS at hx;unfold zbcrZ
 by_cases k0 : x.kind.toNat % 16=0∨x.kind.toNat % 16=1
 ·rw [if_pos k0]; exact (openS_w h _ _).mono (by omega)
 rw [if_neg k0]
 by_cases k1 : x.kind.toNat % 16=2∨x.kind.toNat % 16=3
 ·rw [if_pos k1]; exact writeS_w2 h _ _ (by omega)
 rw [if_neg k1]
 by_cases k2 : x.kind.toNat % 16=5
 ·rw [if_pos k2]; exact (truncS_w h _ _).mono (by omega)
 rw [if_neg k2]
 by_cases k3 : x.kind.toNat % 16=6
 ·rw [if_pos k3]; exact allocS_w h _ _ _ _
 rw [if_neg k3]
 by_cases k4 : x.kind.toNat % 16=7
 ·rw [if_pos k4]; exact (punchS_w h _ _ _).mono (by omega)
 rw [if_neg k4]
 by_cases k5 : x.kind.toNat % 16=8
 ·rw [if_pos k5]; exact (renS_w h _ _).mono (by omega)
 rw [if_neg k5]
 by_cases k6 : x.kind.toNat % 16=9
 ·rw [if_pos k6]; exact (remS_w h _).mono (by omega)
 rw [if_neg k6]
 by_cases k7 : x.kind.toNat % 16=10
 ·rw [if_pos k7]; exact (syncS_w h _).mono (by omega)
 rw [if_neg k7]
 by_cases k8 : x.kind.toNat % 16=11
 ·rw [if_pos k8]; exact (syncS_w h _).mono (by omega)
 rw [if_neg k8]
 by_cases k9 : x.kind.toNat % 16=12
 ·rw [if_pos k9]; exact (syncS_w h _).mono (by omega)
 rw [if_neg k9]
 by_cases k10 : x.kind.toNat % 16=13
 ·rw [if_pos k10]; exact (armS_w h hn).mono (by omega)
 rw [if_neg k10]
 by_cases k11 : x.kind.toNat % 16=14
 ·rw [if_pos k11]; exact (restS_w h _).mono (by omega)
 rw [if_neg k11];exact h.mono (by omega)
theorem nameK_len (k : UInt8) : (nameK k).length≤100:=by
 have hm : k.toNat % 18 < 18:=Nat.mod_lt _ (by omega);have : ∀ i,i < 18→(nameT.getD i []).length≤100:=by decide
 exact this _ hm
theorem abI_eq8 {a b : Int} : abI .eql (.lit (.int .u8 a)) (.lit (.int .u8 b))=some (B (decide (a=b))):=zjaZ
theorem cast0 : ((0 : Nat) : Int)=0:=rfl
theorem cast1 : ((1 : Nat) : Int)=1:=rfl
theorem pkJ : (∀ (x : AV) (K : AV→Prop),bO (some x) K=K x)∧(∀ (b : Bool) (K : Bool→Prop),bB (.lit (.bool b)) K=K b)∧(∀ (a b : Prop),bI true a b=a)∧(∀ (a b : Prop),bI false a b=b)∧(∀ h : Decidable True,@decide True h=true)∧(∀ h : Decidable False,@decide False h=false)∧(∀ a b : Int,abI .eql (.lit (.int .u8 a)) (.lit (.int .u8 b))=some (B (decide (a=b))))∧((0 : Nat) : Int)=0∧((1 : Nat) : Int)=1 :=
 ⟨λ_ _=>zbZ,λ_ _=>zpZ,λ_ _=>zbcZ,λ_ _=>zmZ,λ_=>decide_eq_true trivial,λ_=>decide_eq_false id,λ_ _=>zjaZ,rfl,rfl⟩
theorem absf_onez {x : Int} : absf 1 1 (zrow [(I 0)] 1) [(0,1,I x)]=some (.imm [I x] 1 1):=by simp [absf,zrow,zlaZ]
theorem Do_c {N : Nat} {s : StS} {os od : Nat} {p q : AV} {H : AH} (h : Duo s s os od p q H) (hw : SW N s) (hN : N + 40000≤900000) (x : StpV) (hx : ¬ wideS x.s) (hnn : x.s.n≤9223372036854775807) :
  ∃ r H',(r=B true∧∃ p' q',Duo (zbcrZ s x.s) (zbcrZ s x.s) os od p' q' H')∧BCall Tryz.prog 32 [.ptr os 0,.ptr od 0,.agg (encP x)] H r H':=salvorlaw13_Do_ok (by
 unfold zbepZ;have o1:=SV.oneA x.hb;have o2:=SV.oneA x.ht;have o3:=SV.oneA x.hi;have hkt:=x.s.kind.toNat_lt;have e1 : anew H (.agg (encP x))=some (.ptr H.length 0,H ++ [some (.cells (encP x))]):=by simp [encP,o1,o2,o3]
 have g:=Grew.app H [some (.cells (encP x))];have duo1:=h.grew g;have c5 : (H ++ [some (AObj.cells (encP x))])[H.length]? = some (some (.cells (encP x))):=top1;have xl : H.length < (H ++ [some (AObj.cells (encP x))]).length:=by simp
 have xn : H.length ≠ os:=by have:=h.P.os_lt; omega
 have xp : H.length ∉ idS p:=λz=>by have:=h.P.p_lt _ z; omega
 have nb:=nameK_len x.s.name;have nt:=nameK_len x.s.to;have hbn:=x.hb.noId;have htn:=x.ht.noId;have hin:=x.hi.noId;unfold wideS at hx;rw [e1,zbpZ];generalize (H ++ [some (AObj.cells (encP x))])=H1 at *;have i0 : (encP x)[0]? = some (.lit (.int .u8 x.s.kind.toNat)):=rfl;have i1 : (encP x)[1]? = some (.lit (.int .u8 x.s.name.toNat)):=rfl;have i2 : (encP x)[2]? = some (.lit (.int .u8 x.s.to.toNat)):=rfl;have i3 : (encP x)[3]? = some (I x.s.ino):=rfl;have i4 : (encP x)[4]? = some (I x.s.pos):=rfl;have i5 : (encP x)[5]? = some (I x.s.n):=rfl;have i6 : (encP x)[6]? = some (x.bv):=rfl;have i7 : (encP x)[7]? = some (B x.s.keep):=rfl;have i8 : (encP x)[8]? = some (x.tv):=rfl;have i9 : (encP x)[9]? = some (x.iv):=rfl
 have er : abI .rem (.lit (.int .u8 x.s.kind.toNat)) (.lit (.int .u8 16))=some (.lit (.int .u8 ((x.s.kind.toNat % 16 : Nat) : Int))):=by
  have : abI .rem (.lit (.int .u8 (x.s.kind.toNat : Int))) (.lit (.int .u8 (16 : Nat)))=some (.lit (.int .u8 ((x.s.kind.toNat % 16 : Nat) : Int))):=by rw [abI_rem (by omega) (by omega)]; congr 3
  exact this
 have hk16 : x.s.kind.toNat % 16 < 16:=Nat.mod_lt _ (by omega);simp only [zeZ,Nat.zero_add,zbZ,zlZ c5,zdZ,i0,i1,i2,i3,i4,i5,i6,i7,i8,i9];refine bP_of (Name_p x.s.name) ?_
 try simp only [zeZ,Nat.zero_add,zbZ,zlZ c5,zdZ,i0,i1,i2,i3,i4,i5,i6,i7,i8,i9]
 refine bP_of (Name_p x.s.to) ?_
 try simp only [zeZ,Nat.zero_add,zbZ,zlZ c5,zdZ,i0,i1,i2,i3,i4,i5,i6,i7,i8,i9,er]
 have fin : ∀ (s' : StS) (p' q' : AV) (H' : AH),Duo s' s' os od p' q' H'→zbcrZ s x.s=s'→(B true : AV)=B true∧∃ p' q',Duo (zbcrZ s x.s) (zbcrZ s x.s) os od p' q' H':=by
  intro s' p' q' H' hd e;rw [e];exact ⟨rfl,p',q',hd⟩
 have hds:=zbcrZ s x.s;obtain ⟨k,hk⟩ : ∃ k,x.s.kind.toNat % 16=k:=⟨_,rfl⟩;rw [hk] at hk16 er
 
 simp only [hk];have hcases : k=0∨k=1∨k=2∨k=3∨k=4∨k=5∨k=6∨k=7∨k=8∨k=9∨k=10∨k=11∨k=12∨k=13∨k=14∨k=15:=by omega
 rcases hcases with rfl | rfl | rfl | rfl | rfl | rfl | rfl | rfl | rfl | rfl | rfl | rfl | rfl | rfl | rfl | rfl
 ·simp only [Int.reduceEq,Int.cast_ofNat_Int,pkJ]
  rw [zwZ]; unfold zxZ;simp only [Int.reduceEq,Int.cast_ofNat_Int,pkJ]
  try simp only [zeZ,Nat.zero_add,zbZ,zlZ c5,zdZ,i0,i1,i2,i3,i4,i5,i6,i7,i8,i9,er,abI_eq8,Int.reduceEq,Int.cast_ofNat_Int,dTt,dFf,cast0,cast1]
  obtain ⟨r,H2,⟨rfl,p2,st2,f2⟩,hc⟩:=Open_c duo1.P hw (by omega) (name:=nameK x.s.name) (by omega) true;refine bC_of hc ?_;have duo2:=duo1.stepP st2 f2;have c6 : H2[H.length]? = some (some (.cells (encP x))):=by rw [f2.same _ xl xn xp]; exact c5
  simp only [ziZ,gCS,gCZ,zbZ];rw [zroZ]; unfold zmhZ
  try simp only [zeZ,Nat.zero_add,zbZ,zlZ c6,zdZ,i0,i1,i2,i3,i4,i5,i6,i7,i8,i9,er,abI_eq8,Int.reduceEq,Int.cast_ofNat_Int,dTt,dFf,cast0,cast1]
  obtain ⟨r,H3,⟨rfl,q3,ds3,f3⟩,hc⟩:=ROpen_c duo2.D hw (by omega) (name:=nameK x.s.name) (by omega) true;refine bC_of hc ?_;have duo3:=duo2.stepD ds3 f3;simp only [ziZ,gCS,gCZ,zbZ];rw [zrdZ]; unfold zmeZ
  try simp only [zeZ,Nat.zero_add,zbZ,zlZ c5,zdZ,i0,i1,i2,i3,i4,i5,i6,i7,i8,i9,zjaZ,dTt,zcrZ,beq_self_eq_true,zbrZ,zoZ,if_true,true_and]
  exact (fin _ _ _ _ duo3 (by unfold zbcrZ; simp [hk])).2
 ·simp only [Int.reduceEq,Int.cast_ofNat_Int,pkJ]
  rw [zwZ]; unfold zxZ;simp only [Int.reduceEq,Int.cast_ofNat_Int,pkJ]
  try simp only [zeZ,Nat.zero_add,zbZ,zlZ c5,zdZ,i0,i1,i2,i3,i4,i5,i6,i7,i8,i9,er,abI_eq8,Int.reduceEq,Int.cast_ofNat_Int,dTt,dFf,cast0,cast1]
  obtain ⟨r,H2,⟨rfl,p2,st2,f2⟩,hc⟩:=Open_c duo1.P hw (by omega) (name:=nameK x.s.name) (by omega) false;refine bC_of hc ?_;have duo2:=duo1.stepP st2 f2;have c6 : H2[H.length]? = some (some (.cells (encP x))):=by rw [f2.same _ xl xn xp]; exact c5
  simp only [ziZ,gCS,gCZ,zbZ];rw [zroZ]; unfold zmhZ
  try simp only [zeZ,Nat.zero_add,zbZ,zlZ c6,zdZ,i0,i1,i2,i3,i4,i5,i6,i7,i8,i9,er,abI_eq8,Int.reduceEq,Int.cast_ofNat_Int,dTt,dFf,cast0,cast1]
  obtain ⟨r,H3,⟨rfl,q3,ds3,f3⟩,hc⟩:=ROpen_c duo2.D hw (by omega) (name:=nameK x.s.name) (by omega) false;refine bC_of hc ?_;have duo3:=duo2.stepD ds3 f3;simp only [ziZ,gCS,gCZ,zbZ];rw [zrdZ]; unfold zmeZ
  try simp only [zeZ,Nat.zero_add,zbZ,zlZ c5,zdZ,i0,i1,i2,i3,i4,i5,i6,i7,i8,i9,zjaZ,dTt,zcrZ,beq_self_eq_true,zbrZ,zoZ,if_true,true_and]
  exact (fin _ _ _ _ duo3 (by unfold zbcrZ; simp [hk])).2
 ·simp only [Int.reduceEq,Int.cast_ofNat_Int,pkJ]
  rw [zwZ]; unfold zxZ;simp only [Int.reduceEq,Int.cast_ofNat_Int,pkJ];rw [zzZ]; unfold zbaZ;simp only [Int.reduceEq,Int.cast_ofNat_Int,pkJ];rw [zbeZ]; unfold zbfZ;simp only [Int.reduceEq,Int.cast_ofNat_Int,pkJ]
  try simp only [zeZ,Nat.zero_add,zbZ,zlZ c5,zdZ,i0,i1,i2,i3,i4,i5,i6,i7,i8,i9]
  obtain ⟨r,H2,⟨rfl,p2,st2,f2⟩,hc⟩:=Write_c duo1.P hw x.s.ino x.s.pos (by omega) (x.hb.bytes _) (by rw [hbn]; simp);refine bC_of hc ?_;have duo2:=duo1.stepP st2 f2;have c6 : H2[H.length]? = some (some (.cells (encP x))):=by rw [f2.same _ xl xn xp]; exact c5
  simp only [ziZ,gCS,gCZ,zbZ];rw [zpfZ]; unfold zlcZ
  try simp only [zeZ,Nat.zero_add,zbZ,zlZ c6,zdZ,i0,i1,i2,i3,i4,i5,i6,i7,i8,i9]
  obtain ⟨r,H3,⟨rfl,q3,ds3,f3⟩,hc⟩:=RWrite_c duo2.D hw x.s.ino x.s.pos (by omega) x.hb;refine bC_of hc ?_;have duo3:=duo2.stepD ds3 f3;simp only [ziZ,gCS,gCZ,zbZ];rw [zpbZ]; unfold zkaZ
  try simp only [zeZ,Nat.zero_add,zbZ,zlZ c5,zdZ,i0,i1,i2,i3,i4,i5,i6,i7,i8,i9,zjaZ,dTt,zcrZ,beq_self_eq_true,zbrZ,zoZ,if_true,true_and]
  exact (fin _ _ _ _ duo3 (by unfold zbcrZ; simp [hk])).2
 ·simp only [Int.reduceEq,Int.cast_ofNat_Int,pkJ]
  rw [zwZ]; unfold zxZ;simp only [Int.reduceEq,Int.cast_ofNat_Int,pkJ];rw [zzZ]; unfold zbaZ;simp only [Int.reduceEq,Int.cast_ofNat_Int,pkJ];rw [zbeZ]; unfold zbfZ;simp only [Int.reduceEq,Int.cast_ofNat_Int,pkJ]
  try simp only [zeZ,Nat.zero_add,zbZ,zlZ c5,zdZ,i0,i1,i2,i3,i4,i5,i6,i7,i8,i9]
  obtain ⟨r,H2,⟨rfl,p2,st2,f2⟩,hc⟩:=Write_c duo1.P hw x.s.ino x.s.pos (by omega) (x.hb.bytes _) (by rw [hbn]; simp);refine bC_of hc ?_;have duo2:=duo1.stepP st2 f2;have c6 : H2[H.length]? = some (some (.cells (encP x))):=by rw [f2.same _ xl xn xp]; exact c5
  simp only [ziZ,gCS,gCZ,zbZ];rw [zpfZ]; unfold zlcZ
  try simp only [zeZ,Nat.zero_add,zbZ,zlZ c6,zdZ,i0,i1,i2,i3,i4,i5,i6,i7,i8,i9]
  obtain ⟨r,H3,⟨rfl,q3,ds3,f3⟩,hc⟩:=RWrite_c duo2.D hw x.s.ino x.s.pos (by omega) x.hb;refine bC_of hc ?_;have duo3:=duo2.stepD ds3 f3;simp only [ziZ,gCS,gCZ,zbZ];rw [zpbZ]; unfold zkaZ
  try simp only [zeZ,Nat.zero_add,zbZ,zlZ c5,zdZ,i0,i1,i2,i3,i4,i5,i6,i7,i8,i9,zjaZ,dTt,zcrZ,beq_self_eq_true,zbrZ,zoZ,if_true,true_and]
  exact (fin _ _ _ _ duo3 (by unfold zbcrZ; simp [hk])).2
 ·simp only [Int.reduceEq,Int.cast_ofNat_Int,pkJ]
  rw [zwZ]; unfold zxZ;simp only [Int.reduceEq,Int.cast_ofNat_Int,pkJ];rw [zzZ]; unfold zbaZ;simp only [Int.reduceEq,Int.cast_ofNat_Int,pkJ];rw [zbeZ]; unfold zbfZ;simp only [Int.reduceEq,Int.cast_ofNat_Int,pkJ];rw [zbhZ]; unfold zbgZ;simp only [Int.reduceEq,Int.cast_ofNat_Int,pkJ];simp only [zeZ,Nat.zero_add,zbZ,zlZ c5,zdZ,i0,i1,i2,i3,i4,i5,i6,i7,i8,i9];obtain ⟨R1,hR1,r,H2,⟨rfl,g2⟩,hc⟩:=Read_c duo1.P hw (by omega) x.s.ino x.s.pos x.s.n;refine bC_of hc ?_;have duo2:=duo1.grew g2;have c6:=g2.cells c5;simp only [ziZ,gCS,gCZ,zbZ];rw [zbavZ]; unfold zrhZ;simp only [zeZ,Nat.zero_add,zbZ,zlZ c6,zdZ,i0,i1,i2,i3,i4,i5,i6,i7,i8,i9];obtain ⟨R2,hR2,r,H3,⟨rfl,g3⟩,hc⟩:=RRead_c duo2.D hw (by omega) x.s.ino x.s.pos x.s.n;refine bC_of hc ?_;simp only [ziZ,gCS,gCZ,zbZ];rw [zbbbZ]; unfold zqrZ;simp only [acB_spec (hR1.bytes H3),acB_spec (hR2.bytes H3),abT_eql,zbZ,zjaZ,dTt,zcrZ,beq_self_eq_true,zbrZ,zoZ,if_true,true_and];exact (fin _ _ _ _ (duo2.grew g3) (by unfold zbcrZ; simp [hk])).2
 ·simp only [Int.reduceEq,Int.cast_ofNat_Int,pkJ]
  rw [zwZ]; unfold zxZ;simp only [Int.reduceEq,Int.cast_ofNat_Int,pkJ];rw [zzZ]; unfold zbaZ;simp only [Int.reduceEq,Int.cast_ofNat_Int,pkJ];rw [zbeZ]; unfold zbfZ;simp only [Int.reduceEq,Int.cast_ofNat_Int,pkJ];rw [zbhZ]; unfold zbgZ;simp only [Int.reduceEq,Int.cast_ofNat_Int,pkJ];rw [zblZ]; unfold zbkZ;simp only [Int.reduceEq,Int.cast_ofNat_Int,pkJ]
  try simp only [zeZ,Nat.zero_add,zbZ,zlZ c5,zdZ,i0,i1,i2,i3,i4,i5,i6,i7,i8,i9]
  obtain ⟨r,H2,⟨rfl,p2,st2,f2⟩,hc⟩:=Trunc_c duo1.P hw (by omega) x.s.ino x.s.n;refine bC_of hc ?_;have duo2:=duo1.stepP st2 f2;have c6 : H2[H.length]? = some (some (.cells (encP x))):=by rw [f2.same _ xl xn xp]; exact c5
  try simp only [zeZ,Nat.zero_add,zbZ,zlZ c6,zdZ,i0,i1,i2,i3,i4,i5,i6,i7,i8,i9]
  obtain ⟨r,H3,⟨rfl,q3,ds3,f3⟩,hc⟩:=RTrunc_c duo2.D hw (by omega) x.s.ino x.s.n;refine bC_of hc ?_;have duo3:=duo2.stepD ds3 f3
  try simp only [zeZ,Nat.zero_add,zbZ,zlZ c5,zdZ,i0,i1,i2,i3,i4,i5,i6,i7,i8,i9,zjaZ,dTt,zcrZ,beq_self_eq_true,zbrZ,zoZ,if_true,true_and]
  exact (fin _ _ _ _ duo3 (by unfold zbcrZ; simp [hk])).2
 ·simp only [Int.reduceEq,Int.cast_ofNat_Int,pkJ]
  rw [zwZ]; unfold zxZ;simp only [Int.reduceEq,Int.cast_ofNat_Int,pkJ];rw [zzZ]; unfold zbaZ;simp only [Int.reduceEq,Int.cast_ofNat_Int,pkJ];rw [zbeZ]; unfold zbfZ;simp only [Int.reduceEq,Int.cast_ofNat_Int,pkJ];rw [zbhZ]; unfold zbgZ;simp only [Int.reduceEq,Int.cast_ofNat_Int,pkJ];rw [zblZ]; unfold zbkZ;simp only [Int.reduceEq,Int.cast_ofNat_Int,pkJ];rw [zboZ]; unfold zbnZ;simp only [Int.reduceEq,Int.cast_ofNat_Int,pkJ]
  try simp only [zeZ,Nat.zero_add,zbZ,zlZ c5,zdZ,i0,i1,i2,i3,i4,i5,i6,i7,i8,i9]
  obtain ⟨r,H2,⟨rfl,p2,st2,f2⟩,hc⟩:=Alloc_c duo1.P hw (by omega) x.s.ino x.s.pos x.s.n x.s.keep;refine bC_of hc ?_;have duo2:=duo1.stepP st2 f2;have c6 : H2[H.length]? = some (some (.cells (encP x))):=by rw [f2.same _ xl xn xp]; exact c5
  try simp only [zeZ,Nat.zero_add,zbZ,zlZ c6,zdZ,i0,i1,i2,i3,i4,i5,i6,i7,i8,i9]
  obtain ⟨r,H3,⟨rfl,q3,ds3,f3⟩,hc⟩:=RAlloc_c duo2.D hw (by omega) x.s.ino x.s.pos x.s.n x.s.keep;refine bC_of hc ?_;have duo3:=duo2.stepD ds3 f3
  try simp only [zeZ,Nat.zero_add,zbZ,zlZ c5,zdZ,i0,i1,i2,i3,i4,i5,i6,i7,i8,i9,zjaZ,dTt,zcrZ,beq_self_eq_true,zbrZ,zoZ,if_true,true_and]
  exact (fin _ _ _ _ duo3 (by unfold zbcrZ; simp [hk])).2
 ·simp only [Int.reduceEq,Int.cast_ofNat_Int,pkJ]
  rw [zwZ]; unfold zxZ;simp only [Int.reduceEq,Int.cast_ofNat_Int,pkJ];rw [zzZ]; unfold zbaZ;simp only [Int.reduceEq,Int.cast_ofNat_Int,pkJ];rw [zbeZ]; unfold zbfZ;simp only [Int.reduceEq,Int.cast_ofNat_Int,pkJ];rw [zbhZ]; unfold zbgZ;simp only [Int.reduceEq,Int.cast_ofNat_Int,pkJ];rw [zblZ]; unfold zbkZ;simp only [Int.reduceEq,Int.cast_ofNat_Int,pkJ];rw [zboZ]; unfold zbnZ;simp only [Int.reduceEq,Int.cast_ofNat_Int,pkJ];rw [zbvZ]; unfold zbtZ;simp only [Int.reduceEq,Int.cast_ofNat_Int,pkJ]
  try simp only [zeZ,Nat.zero_add,zbZ,zlZ c5,zdZ,i0,i1,i2,i3,i4,i5,i6,i7,i8,i9]
  obtain ⟨r,H2,⟨rfl,p2,st2,f2⟩,hc⟩:=Punch_c duo1.P hw (by omega) x.s.ino x.s.pos x.s.n;refine bC_of hc ?_;have duo2:=duo1.stepP st2 f2;have c6 : H2[H.length]? = some (some (.cells (encP x))):=by rw [f2.same _ xl xn xp]; exact c5
  try simp only [zeZ,Nat.zero_add,zbZ,zlZ c6,zdZ,i0,i1,i2,i3,i4,i5,i6,i7,i8,i9]
  obtain ⟨r,H3,⟨rfl,q3,ds3,f3⟩,hc⟩:=RPunch_c duo2.D hw (by omega) x.s.ino x.s.pos x.s.n;refine bC_of hc ?_;have duo3:=duo2.stepD ds3 f3
  try simp only [zeZ,Nat.zero_add,zbZ,zlZ c5,zdZ,i0,i1,i2,i3,i4,i5,i6,i7,i8,i9,zjaZ,dTt,zcrZ,beq_self_eq_true,zbrZ,zoZ,if_true,true_and]
  exact (fin _ _ _ _ duo3 (by unfold zbcrZ; simp [hk])).2
 ·simp only [Int.reduceEq,Int.cast_ofNat_Int,pkJ]
  rw [zwZ]; unfold zxZ;simp only [Int.reduceEq,Int.cast_ofNat_Int,pkJ];rw [zzZ]; unfold zbaZ;simp only [Int.reduceEq,Int.cast_ofNat_Int,pkJ];rw [zbeZ]; unfold zbfZ;simp only [Int.reduceEq,Int.cast_ofNat_Int,pkJ];rw [zbhZ]; unfold zbgZ;simp only [Int.reduceEq,Int.cast_ofNat_Int,pkJ];rw [zblZ]; unfold zbkZ;simp only [Int.reduceEq,Int.cast_ofNat_Int,pkJ];rw [zboZ]; unfold zbnZ;simp only [Int.reduceEq,Int.cast_ofNat_Int,pkJ];rw [zbvZ]; unfold zbtZ;simp only [Int.reduceEq,Int.cast_ofNat_Int,pkJ];rw [zcbZ]; unfold zbxZ;simp only [Int.reduceEq,Int.cast_ofNat_Int,pkJ]
  try simp only [zeZ,Nat.zero_add,zbZ,zlZ c5,zdZ,i0,i1,i2,i3,i4,i5,i6,i7,i8,i9]
  obtain ⟨r,H2,⟨rfl,p2,st2,f2⟩,hc⟩:=Rename_c duo1.P hw (by omega) (name:=nameK x.s.name) (to:=nameK x.s.to) (by omega) (by omega);refine bC_of hc ?_;have duo2:=duo1.stepP st2 f2;have c6 : H2[H.length]? = some (some (.cells (encP x))):=by rw [f2.same _ xl xn xp]; exact c5
  try simp only [zeZ,Nat.zero_add,zbZ,zlZ c6,zdZ,i0,i1,i2,i3,i4,i5,i6,i7,i8,i9]
  obtain ⟨r,H3,⟨rfl,q3,ds3,f3⟩,hc⟩:=RRename_c duo2.D hw (by omega) (name:=nameK x.s.name) (to:=nameK x.s.to) (by omega) (by omega);refine bC_of hc ?_;have duo3:=duo2.stepD ds3 f3
  try simp only [zeZ,Nat.zero_add,zbZ,zlZ c5,zdZ,i0,i1,i2,i3,i4,i5,i6,i7,i8,i9,zjaZ,dTt,zcrZ,beq_self_eq_true,zbrZ,zoZ,if_true,true_and]
  exact (fin _ _ _ _ duo3 (by unfold zbcrZ; simp [hk])).2
 ·simp only [Int.reduceEq,Int.cast_ofNat_Int,pkJ]
  rw [zwZ]; unfold zxZ;simp only [Int.reduceEq,Int.cast_ofNat_Int,pkJ];rw [zzZ]; unfold zbaZ;simp only [Int.reduceEq,Int.cast_ofNat_Int,pkJ];rw [zbeZ]; unfold zbfZ;simp only [Int.reduceEq,Int.cast_ofNat_Int,pkJ];rw [zbhZ]; unfold zbgZ;simp only [Int.reduceEq,Int.cast_ofNat_Int,pkJ];rw [zblZ]; unfold zbkZ;simp only [Int.reduceEq,Int.cast_ofNat_Int,pkJ];rw [zboZ]; unfold zbnZ;simp only [Int.reduceEq,Int.cast_ofNat_Int,pkJ];rw [zbvZ]; unfold zbtZ;simp only [Int.reduceEq,Int.cast_ofNat_Int,pkJ];rw [zcbZ]; unfold zbxZ;simp only [Int.reduceEq,Int.cast_ofNat_Int,pkJ];rw [zcuZ]; unfold zchZ;simp only [Int.reduceEq,Int.cast_ofNat_Int,pkJ]
  try simp only [zeZ,Nat.zero_add,zbZ,zlZ c5,zdZ,i0,i1,i2,i3,i4,i5,i6,i7,i8,i9]
  obtain ⟨r,H2,⟨rfl,p2,st2,f2⟩,hc⟩:=Remove_c duo1.P hw (by omega) (name:=nameK x.s.name) (by omega);refine bC_of hc ?_;have duo2:=duo1.stepP st2 f2;have c6 : H2[H.length]? = some (some (.cells (encP x))):=by rw [f2.same _ xl xn xp]; exact c5
  try simp only [zeZ,Nat.zero_add,zbZ,zlZ c6,zdZ,i0,i1,i2,i3,i4,i5,i6,i7,i8,i9]
  obtain ⟨r,H3,⟨rfl,q3,ds3,f3⟩,hc⟩:=RRemove_c duo2.D hw (by omega) (name:=nameK x.s.name) (by omega);refine bC_of hc ?_;have duo3:=duo2.stepD ds3 f3
  try simp only [zeZ,Nat.zero_add,zbZ,zlZ c5,zdZ,i0,i1,i2,i3,i4,i5,i6,i7,i8,i9,zjaZ,dTt,zcrZ,beq_self_eq_true,zbrZ,zoZ,if_true,true_and]
  exact (fin _ _ _ _ duo3 (by unfold zbcrZ; simp [hk])).2
 ·simp only [Int.reduceEq,Int.cast_ofNat_Int,pkJ]
  rw [zwZ]; unfold zxZ;simp only [Int.reduceEq,Int.cast_ofNat_Int,pkJ];rw [zzZ]; unfold zbaZ;simp only [Int.reduceEq,Int.cast_ofNat_Int,pkJ];rw [zbeZ]; unfold zbfZ;simp only [Int.reduceEq,Int.cast_ofNat_Int,pkJ];rw [zbhZ]; unfold zbgZ;simp only [Int.reduceEq,Int.cast_ofNat_Int,pkJ];rw [zblZ]; unfold zbkZ;simp only [Int.reduceEq,Int.cast_ofNat_Int,pkJ];rw [zboZ]; unfold zbnZ;simp only [Int.reduceEq,Int.cast_ofNat_Int,pkJ];rw [zbvZ]; unfold zbtZ;simp only [Int.reduceEq,Int.cast_ofNat_Int,pkJ];rw [zcbZ]; unfold zbxZ;simp only [Int.reduceEq,Int.cast_ofNat_Int,pkJ];rw [zcuZ]; unfold zchZ;simp only [Int.reduceEq,Int.cast_ofNat_Int,pkJ];rw [zdlZ]; unfold zdbZ;simp only [Int.reduceEq,Int.cast_ofNat_Int,pkJ]
  try simp only [zeZ,Nat.zero_add,zbZ,zlZ c5,zdZ,i0,i1,i2,i3,i4,i5,i6,i7,i8,i9]
  obtain ⟨r,H2,⟨rfl,p2,st2,f2⟩,hc⟩:=Sync_c duo1.P hw (by omega) (x.hi.2 _) (by rw [hin]; simp) (by omega);refine bC_of hc ?_;have duo2:=duo1.stepP st2 f2;have c6 : H2[H.length]? = some (some (.cells (encP x))):=by rw [f2.same _ xl xn xp]; exact c5
  try simp only [zeZ,Nat.zero_add,zbZ,zlZ c6,zdZ,i0,i1,i2,i3,i4,i5,i6,i7,i8,i9]
  obtain ⟨r,H3,⟨rfl,q3,ds3,f3⟩,hc⟩:=RSync_c duo2.D hw (by omega) x.hi (by omega);refine bC_of hc ?_;have duo3:=duo2.stepD ds3 f3
  try simp only [zeZ,Nat.zero_add,zbZ,zlZ c5,zdZ,i0,i1,i2,i3,i4,i5,i6,i7,i8,i9,zjaZ,dTt,zcrZ,beq_self_eq_true,zbrZ,zoZ,if_true,true_and]
  exact (fin _ _ _ _ duo3 (by unfold zbcrZ; simp [hk])).2
 ·simp only [Int.reduceEq,Int.cast_ofNat_Int,pkJ]
  rw [zwZ]; unfold zxZ;simp only [Int.reduceEq,Int.cast_ofNat_Int,pkJ];rw [zzZ]; unfold zbaZ;simp only [Int.reduceEq,Int.cast_ofNat_Int,pkJ];rw [zbeZ]; unfold zbfZ;simp only [Int.reduceEq,Int.cast_ofNat_Int,pkJ];rw [zbhZ]; unfold zbgZ;simp only [Int.reduceEq,Int.cast_ofNat_Int,pkJ];rw [zblZ]; unfold zbkZ;simp only [Int.reduceEq,Int.cast_ofNat_Int,pkJ];rw [zboZ]; unfold zbnZ;simp only [Int.reduceEq,Int.cast_ofNat_Int,pkJ];rw [zbvZ]; unfold zbtZ;simp only [Int.reduceEq,Int.cast_ofNat_Int,pkJ];rw [zcbZ]; unfold zbxZ;simp only [Int.reduceEq,Int.cast_ofNat_Int,pkJ];rw [zcuZ]; unfold zchZ;simp only [Int.reduceEq,Int.cast_ofNat_Int,pkJ];rw [zdlZ]; unfold zdbZ;simp only [Int.reduceEq,Int.cast_ofNat_Int,pkJ];rw [zeeZ]; unfold zdrZ;simp only [Int.reduceEq,Int.cast_ofNat_Int,pkJ]
  try simp only [zeZ,Nat.zero_add,zbZ,zlZ c5,zdZ,i0,i1,i2,i3,i4,i5,i6,i7,i8,i9]
  obtain ⟨r,H2,⟨rfl,p2,st2,f2⟩,hc⟩:=Sync_c duo1.P hw (by omega) (l:=[]) (v:=nilSl) rfl (by simp [idS]) (by simp);refine bC_of hc ?_;have duo2:=duo1.stepP st2 f2;have c6 : H2[H.length]? = some (some (.cells (encP x))):=by rw [f2.same _ xl xn xp]; exact c5
  try simp only [zeZ,Nat.zero_add,zbZ,zlZ c6,zdZ,i0,i1,i2,i3,i4,i5,i6,i7,i8,i9]
  obtain ⟨r,H3,⟨rfl,q3,ds3,f3⟩,hc⟩:=RSync_c duo2.D hw (by omega) (l:=[]) (v:=nilSl) SV.nil (by simp);refine bC_of hc ?_;have duo3:=duo2.stepD ds3 f3
  try simp only [zeZ,Nat.zero_add,zbZ,zlZ c5,zdZ,i0,i1,i2,i3,i4,i5,i6,i7,i8,i9,zjaZ,dTt,zcrZ,beq_self_eq_true,zbrZ,zoZ,if_true,true_and]
  exact (fin _ _ _ _ duo3 (by unfold zbcrZ; simp [hk])).2
 ·simp only [Int.reduceEq,Int.cast_ofNat_Int,pkJ]
  rw [zwZ]; unfold zxZ;simp only [Int.reduceEq,Int.cast_ofNat_Int,pkJ];rw [zzZ]; unfold zbaZ;simp only [Int.reduceEq,Int.cast_ofNat_Int,pkJ];rw [zbeZ]; unfold zbfZ;simp only [Int.reduceEq,Int.cast_ofNat_Int,pkJ];rw [zbhZ]; unfold zbgZ;simp only [Int.reduceEq,Int.cast_ofNat_Int,pkJ];rw [zblZ]; unfold zbkZ;simp only [Int.reduceEq,Int.cast_ofNat_Int,pkJ];rw [zboZ]; unfold zbnZ;simp only [Int.reduceEq,Int.cast_ofNat_Int,pkJ];rw [zbvZ]; unfold zbtZ;simp only [Int.reduceEq,Int.cast_ofNat_Int,pkJ];rw [zcbZ]; unfold zbxZ;simp only [Int.reduceEq,Int.cast_ofNat_Int,pkJ];rw [zcuZ]; unfold zchZ;simp only [Int.reduceEq,Int.cast_ofNat_Int,pkJ];rw [zdlZ]; unfold zdbZ;simp only [Int.reduceEq,Int.cast_ofNat_Int,pkJ];rw [zeeZ]; unfold zdrZ;simp only [Int.reduceEq,Int.cast_ofNat_Int,pkJ];rw [zfzZ]; unfold zeuZ;simp only [Int.reduceEq,Int.cast_ofNat_Int,pkJ]
  try simp only [zeZ,Nat.zero_add,zbZ,zlZ c5,zdZ,i0,i1,i2,i3,i4,i5,i6,i7,i8,i9,absf_onez]
  obtain ⟨r,H2,⟨rfl,p2,st2,f2⟩,hc⟩:=Sync_c duo1.P hw (by omega) (l:=[x.s.ino]) (v:=.imm [I x.s.ino] 1 1) rfl (by simp [idS]) (by simp);refine bC_of hc ?_;have duo2:=duo1.stepP st2 f2;have c6 : H2[H.length]? = some (some (.cells (encP x))):=by rw [f2.same _ xl xn xp]; exact c5
  try simp only [zeZ,Nat.zero_add,zbZ,zlZ c6,zdZ,i0,i1,i2,i3,i4,i5,i6,i7,i8,i9,absf_onez]
  obtain ⟨r,H3,⟨rfl,q3,ds3,f3⟩,hc⟩:=RSync_c duo2.D hw (by omega) (l:=[x.s.ino]) (v:=.imm [I x.s.ino] 1 1) ⟨rfl,λ_=>rfl⟩ (by simp);refine bC_of hc ?_;have duo3:=duo2.stepD ds3 f3
  try simp only [zeZ,Nat.zero_add,zbZ,zlZ c5,zdZ,i0,i1,i2,i3,i4,i5,i6,i7,i8,i9,zjaZ,dTt,zcrZ,beq_self_eq_true,zbrZ,zoZ,if_true,true_and]
  exact (fin _ _ _ _ duo3 (by unfold zbcrZ; simp [hk])).2
 ·simp only [Int.reduceEq,Int.cast_ofNat_Int,pkJ]
  rw [zwZ]; unfold zxZ;simp only [Int.reduceEq,Int.cast_ofNat_Int,pkJ];rw [zzZ]; unfold zbaZ;simp only [Int.reduceEq,Int.cast_ofNat_Int,pkJ];rw [zbeZ]; unfold zbfZ;simp only [Int.reduceEq,Int.cast_ofNat_Int,pkJ];rw [zbhZ]; unfold zbgZ;simp only [Int.reduceEq,Int.cast_ofNat_Int,pkJ];rw [zblZ]; unfold zbkZ;simp only [Int.reduceEq,Int.cast_ofNat_Int,pkJ];rw [zboZ]; unfold zbnZ;simp only [Int.reduceEq,Int.cast_ofNat_Int,pkJ];rw [zbvZ]; unfold zbtZ;simp only [Int.reduceEq,Int.cast_ofNat_Int,pkJ];rw [zcbZ]; unfold zbxZ;simp only [Int.reduceEq,Int.cast_ofNat_Int,pkJ];rw [zcuZ]; unfold zchZ;simp only [Int.reduceEq,Int.cast_ofNat_Int,pkJ];rw [zdlZ]; unfold zdbZ;simp only [Int.reduceEq,Int.cast_ofNat_Int,pkJ];rw [zeeZ]; unfold zdrZ;simp only [Int.reduceEq,Int.cast_ofNat_Int,pkJ];rw [zfzZ]; unfold zeuZ;simp only [Int.reduceEq,Int.cast_ofNat_Int,pkJ];rw [zizZ]; unfold zgoZ;simp only [Int.reduceEq,Int.cast_ofNat_Int,pkJ];simp only [zeZ,Nat.zero_add,zbZ,zlZ c5,zdZ,i0,i1,i2,i3,i4,i5,i6,i7,i8,i9];obtain ⟨r,H2,⟨rfl,st2,f2⟩,hc⟩:=Arm_c duo1.P x.s.n;refine bC_of hc ?_;have duo2:=duo1.stepP st2 f2;have c6 : H2[H.length]? = some (some (.cells (encP x))):=by rw [f2.same _ xl xn xp]; exact c5
  rw [zbawZ]; unfold zqvZ;simp only [zeZ,Nat.zero_add,zbZ,zlZ c6,zdZ,i0,i1,i2,i3,i4,i5,i6,i7,i8,i9];obtain ⟨r,H3,⟨rfl,ds3,f3⟩,hc⟩:=RArm_c duo2.D x.s.n;refine bC_of hc ?_;rw [zqzZ]; unfold zmkZ;exact fin _ _ _ _ (duo2.stepD ds3 f3) (by unfold zbcrZ; simp [hk])
 ·simp only [Int.reduceEq,Int.cast_ofNat_Int,pkJ]
  rw [zwZ]; unfold zxZ;simp only [Int.reduceEq,Int.cast_ofNat_Int,pkJ];rw [zzZ]; unfold zbaZ;simp only [Int.reduceEq,Int.cast_ofNat_Int,pkJ];rw [zbeZ]; unfold zbfZ;simp only [Int.reduceEq,Int.cast_ofNat_Int,pkJ];rw [zbhZ]; unfold zbgZ;simp only [Int.reduceEq,Int.cast_ofNat_Int,pkJ];rw [zblZ]; unfold zbkZ;simp only [Int.reduceEq,Int.cast_ofNat_Int,pkJ];rw [zboZ]; unfold zbnZ;simp only [Int.reduceEq,Int.cast_ofNat_Int,pkJ];rw [zbvZ]; unfold zbtZ;simp only [Int.reduceEq,Int.cast_ofNat_Int,pkJ];rw [zcbZ]; unfold zbxZ;simp only [Int.reduceEq,Int.cast_ofNat_Int,pkJ];rw [zcuZ]; unfold zchZ;simp only [Int.reduceEq,Int.cast_ofNat_Int,pkJ];rw [zdlZ]; unfold zdbZ;simp only [Int.reduceEq,Int.cast_ofNat_Int,pkJ];rw [zeeZ]; unfold zdrZ;simp only [Int.reduceEq,Int.cast_ofNat_Int,pkJ];rw [zfzZ]; unfold zeuZ;simp only [Int.reduceEq,Int.cast_ofNat_Int,pkJ];rw [zizZ]; unfold zgoZ;simp only [Int.reduceEq,Int.cast_ofNat_Int,pkJ];rw [zptZ]; unfold zjzZ;simp only [Int.reduceEq,Int.cast_ofNat_Int,pkJ];simp only [zeZ,Nat.zero_add,zbZ,zlZ c5,zdZ,i0,i1,i2,i3,i4,i5,i6,i7,i8,i9];obtain ⟨r,H2,⟨rfl,st2,f2⟩,hc⟩:=Restart_c duo1.P hw (by omega) (x.ht.2 _) (by rw [htn]; simp) (by omega);refine bC_of hc ?_;have duo2:=duo1.stepP st2 f2;have c6 : H2[H.length]? = some (some (.cells (encP x))):=by rw [f2.same _ xl xn xp]; exact c5
  rw [zbajZ]; unfold zrnZ;simp only [zeZ,Nat.zero_add,zbZ,zlZ c6,zdZ,i0,i1,i2,i3,i4,i5,i6,i7,i8,i9];obtain ⟨r,H3,⟨rfl,ds3,f3⟩,hc⟩:=RRestart_c duo2.D hw (by omega) x.ht (by omega);refine bC_of hc ?_;rw [zqzZ]; unfold zmkZ;exact fin _ _ _ _ (duo2.stepD ds3 f3) (by unfold zbcrZ; simp [hk])
 ·simp only [Int.reduceEq,Int.cast_ofNat_Int,pkJ]
  rw [zwZ]; unfold zxZ;simp only [Int.reduceEq,Int.cast_ofNat_Int,pkJ];rw [zzZ]; unfold zbaZ;simp only [Int.reduceEq,Int.cast_ofNat_Int,pkJ];rw [zbeZ]; unfold zbfZ;simp only [Int.reduceEq,Int.cast_ofNat_Int,pkJ];rw [zbhZ]; unfold zbgZ;simp only [Int.reduceEq,Int.cast_ofNat_Int,pkJ];rw [zblZ]; unfold zbkZ;simp only [Int.reduceEq,Int.cast_ofNat_Int,pkJ];rw [zboZ]; unfold zbnZ;simp only [Int.reduceEq,Int.cast_ofNat_Int,pkJ];rw [zbvZ]; unfold zbtZ;simp only [Int.reduceEq,Int.cast_ofNat_Int,pkJ];rw [zcbZ]; unfold zbxZ;simp only [Int.reduceEq,Int.cast_ofNat_Int,pkJ];rw [zcuZ]; unfold zchZ;simp only [Int.reduceEq,Int.cast_ofNat_Int,pkJ];rw [zdlZ]; unfold zdbZ;simp only [Int.reduceEq,Int.cast_ofNat_Int,pkJ];rw [zeeZ]; unfold zdrZ;simp only [Int.reduceEq,Int.cast_ofNat_Int,pkJ];rw [zfzZ]; unfold zeuZ;simp only [Int.reduceEq,Int.cast_ofNat_Int,pkJ];rw [zizZ]; unfold zgoZ;simp only [Int.reduceEq,Int.cast_ofNat_Int,pkJ];rw [zptZ]; unfold zjzZ;simp only [Int.reduceEq,Int.cast_ofNat_Int,pkJ];simp only [zeZ,Nat.zero_add,zbZ,zlZ c5,zdZ,i0,i1,i2,i3,i4,i5,i6,i7,i8,i9];obtain ⟨r,K1,⟨rfl,g1⟩,hc⟩:=Size_c duo1.P hw (by omega) x.s.ino;refine bC_of hc ?_;have duo2:=duo1.grew g1;have d1:=g1.cells c5;simp only [ziZ,gCS,gCZ,zbZ];rw [zbatZ]; unfold zrmZ;simp only [zeZ,Nat.zero_add,zbZ,zlZ d1,zdZ,i0,i1,i2,i3,i4,i5,i6,i7,i8,i9];obtain ⟨r,K2,⟨rfl,g2⟩,hc⟩:=RSize_c duo2.D hw (by omega) x.s.ino;refine bC_of hc ?_;have duo3:=duo2.grew g2;have d2:=g2.cells d1;simp only [ziZ,gCS,gCZ,zbZ];rw [zbalZ]; unfold zrsZ;simp only [zeZ,Nat.zero_add,zbZ,zlZ d2,zdZ,i0,i1,i2,i3,i4,i5,i6,i7,i8,i9];obtain ⟨r,K3,⟨rfl,g3⟩,hc⟩:=PRData_c duo3.P hw (by omega) x.s.ino x.s.pos;refine bC_of hc ?_;have duo4:=duo3.grew g3;have d3:=g3.cells d2;simp only [ziZ,gCS,gCZ,zbZ];rw [zbauZ]; unfold zqxZ;simp only [zeZ,Nat.zero_add,zbZ,zlZ d3,zdZ,i0,i1,i2,i3,i4,i5,i6,i7,i8,i9];obtain ⟨r,K4,⟨rfl,g4⟩,hc⟩:=RData_c duo4.D hw (by omega) x.s.ino x.s.pos;refine bC_of hc ?_;have duo5:=duo4.grew g4;have d4:=g4.cells d3;simp only [ziZ,gCS,gCZ,zbZ];rw [zbafZ]; unfold zreZ;simp only [zeZ,Nat.zero_add,zbZ,zlZ d4,zdZ,i0,i1,i2,i3,i4,i5,i6,i7,i8,i9];obtain ⟨r,K5,⟨rfl,g5⟩,hc⟩:=PRHole_c duo5.P hw (by omega) x.s.ino x.s.pos;refine bC_of hc ?_;have duo6:=duo5.grew g5;have d5:=g5.cells d4;simp only [ziZ,gCS,gCZ,zbZ];rw [zbaqZ]; unfold zrpZ;simp only [zeZ,Nat.zero_add,zbZ,zlZ d5,zdZ,i0,i1,i2,i3,i4,i5,i6,i7,i8,i9];obtain ⟨r,K6,⟨rfl,g6⟩,hc⟩:=RHole_c duo6.D hw (by omega) x.s.ino x.s.pos;refine bC_of hc ?_;have duo7:=duo6.grew g6;have d6:=g6.cells d5;simp only [ziZ,gCS,gCZ,zbZ];rw [zbaiZ]; unfold zrjZ;simp only [zjaZ,dTt,zbZ,zcrZ,beq_self_eq_true,zbrZ,zoZ,if_true,true_and];exact (fin _ _ _ _ duo7 (by unfold zbcrZ; simp [hk])).2)
abbrev XStp:=UInt8 × (UInt8 × (UInt8 × (Int × (Int × (Int × ((Sl UInt8) × (Bool × ((Sl Bool) × ((Sl Int) × Unit)))))))))
theorem slT_sv (x : Sl Bool) (hn : x.nil=true→x.l=[]) : SV encT 1 x.l (if x.nil then .lit (.slice none 0 0) else .imm (x.l.flatMap encT) x.l.length 1):=by
 cases hnil : x.nil with
 | true => simp only [if_true]; rw [hn hnil]; exact SV.nil
 | false => simp only [Bool.false_eq_true,if_false]; exact SV.imm (λ_=>rfl) (λx hx=>rfl)
theorem slU_sv (x : Sl UInt8) (hn : x.nil=true→x.l=[]) : SV encU 1 x.l (if x.nil then .lit (.slice none 0 0) else .imm (x.l.flatMap encU) x.l.length 1):=by
 cases hnil : x.nil with
 | true => simp only [if_true]; rw [hn hnil]; exact SV.nil
 | false => simp only [Bool.false_eq_true,if_false]; exact SV.imm (λ_=>rfl) (λx hx=>rfl)
theorem slZ_sv (x : Sl Int) (hn : x.nil=true→x.l=[]) : SV encZ 1 x.l (if x.nil then .lit (.slice none 0 0) else .imm (x.l.flatMap encZ) x.l.length 1):=by
 cases hnil : x.nil with
 | true => simp only [if_true]; rw [hn hnil]; exact SV.nil
 | false => simp only [Bool.false_eq_true,if_false]; exact SV.imm (λ_=>rfl) (λx hx=>rfl)
def okX (x : XStp) : Prop:=(x.2.2.2.2.2.2.1.nil=true→x.2.2.2.2.2.2.1.l=[])∧(x.2.2.2.2.2.2.2.2.1.nil=true→x.2.2.2.2.2.2.2.2.1.l=[])∧(x.2.2.2.2.2.2.2.2.2.1.nil=true→x.2.2.2.2.2.2.2.2.2.1.l=[])∧x.2.2.2.2.2.1≤9223372036854775807
def stpV (x : XStp) (h : okX x) : StpV:=⟨⟨x.1,x.2.1,x.2.2.1,x.2.2.2.1,x.2.2.2.2.1,x.2.2.2.2.2.1,x.2.2.2.2.2.2.1.l,x.2.2.2.2.2.2.2.1,x.2.2.2.2.2.2.2.2.1.l,x.2.2.2.2.2.2.2.2.2.1.l⟩,_,_,_,slU_sv _ h.1,slT_sv _ h.2.1,slZ_sv _ h.2.2.1⟩
def encXs (x : XStp) : List AV:=[.lit (.int .u8 x.1.toNat)] ++ ([.lit (.int .u8 x.2.1.toNat)] ++ ([.lit (.int .u8 x.2.2.1.toNat)] ++ ([I x.2.2.2.1] ++ ([I x.2.2.2.2.1] ++ ([I x.2.2.2.2.2.1] ++ ([if x.2.2.2.2.2.2.1.nil then .lit (.slice none 0 0) else .imm (x.2.2.2.2.2.2.1.l.flatMap encU) x.2.2.2.2.2.2.1.l.length 1] ++ ([B x.2.2.2.2.2.2.2.1] ++ ([if x.2.2.2.2.2.2.2.2.1.nil then .lit (.slice none 0 0) else .imm (x.2.2.2.2.2.2.2.2.1.l.flatMap encT) x.2.2.2.2.2.2.2.2.1.l.length 1] ++ ([if x.2.2.2.2.2.2.2.2.2.1.nil then .lit (.slice none 0 0) else .imm (x.2.2.2.2.2.2.2.2.2.1.l.flatMap encZ) x.2.2.2.2.2.2.2.2.2.1.l.length 1] ++ [])))))))))
theorem steps_all : ∀ (l : List XStp),(∀ x ∈ l,okX x)→∃ m : List StpV,m.length=l.length∧(∀ y ∈ m,y.s.n≤9223372036854775807)∧∀ enc : XStp→List AV,(∀ x (h : okX x),enc x=encP (stpV x h))→l.flatMap enc=m.flatMap encP
 | [],_ => ⟨[],rfl,by simp,λ_ _=>rfl⟩
 | x :: l,h => by
  obtain ⟨m,h1,h2,h3⟩:=steps_all l λy hy=>h y (by simp [hy])
  have hx:=h x (by simp);refine ⟨stpV x hx :: m,by simp [h1],λy hy=>?_,λenc he=>?_⟩
  ·rcases List.mem_cons.1 hy with rfl | hy
   ·exact hx.2.2.2
   ·exact h2 y hy
  ·rw [List.flatMap_cons,List.flatMap_cons,h3 enc he,he x hx]
theorem steps_sv (s : Sl XStp) (hn : s.nil=true→s.l=[]) (h : ∀ x ∈ s.l,okX x) (enc : XStp→List AV) (he : ∀ x (h : okX x),enc x=encP (stpV x h)) :
  ∃ m : List StpV,SV encP 10 m (if s.nil then .lit (.slice none 0 0) else .imm (s.l.flatMap enc) s.l.length 10)∧m.length=s.l.length∧∀ y ∈ m,y.s.n≤9223372036854775807:=by
 obtain ⟨m,h1,h2,h3⟩:=steps_all s.l h;refine ⟨m, ?_,h1,h2⟩;cases hnil : s.nil with
 | true =>
  simp only [if_true]
  have : m=[]:=by
   have:=hn hnil
   rw [this] at h1;exact List.length_eq_zero_iff.1 h1
  rw [this]; exact SV.nil
 | false =>
  simp only [Bool.false_eq_true,if_false];rw [h3 enc he,← h1];exact SV.imm encP_len λx _=>noIdss_encP x
theorem in64h {n : Int} (h : IntKind.i64.min≤n∧n≤IntKind.i64.max) : -9223372036854775808≤n∧n≤9223372036854775807:=by
 simpa [IntKind.min,IntKind.max,IntKind.signed,IntKind.bits] using h
structure Held (o : Nat) (cs : List AV) (os : Nat) (p : AV) (H : AH) : Prop where
 at' : H[o]? = some (some (.cells cs))
 ne : o ≠ os
 np : o ∉ idS p
theorem Held.step {o : Nat} {cs : List AV} {os : Nat} {p p' : AV} {H H' : AH} (h : Held o cs os p H) (f : StF os p p' H H') : Held o cs os p' H':=by
 have hl:=(gSI.1 h.at').1;exact ⟨(f.same o hl h.ne h.np).trans h.at',h.ne,λz=>(f.ids o z).elim h.np (λz=>by omega)⟩
theorem Held.grew {o : Nat} {cs : List AV} {os : Nat} {p : AV} {H H' : AH} (h : Held o cs os p H) (g : Grew H H') : Held o cs os p H':=⟨g.cells h.at',h.ne,h.np⟩
theorem Held.new {s : StS} {os : Nat} {p : AV} {H : AH} (h : StAt s os p H) (cs : List AV) : Held H.length cs os p (H ++ [some (.cells cs)]) :=
 ⟨top1,by have:=h.os_lt; omega,λz=>by have:=h.p_lt _ z; omega⟩
theorem sumL_sub {l m : List Nd} (h : l.Sublist m) : sumL l≤sumL m:=by
 induction h with
 | slnil => exact Nat.le_refl _
 | cons a _ ih => unfold sumL at *; simp only [List.map_cons,List.sum_cons]; omega
 | cons_cons a _ ih => unfold sumL at *; simp only [List.map_cons,List.sum_cons]; omega
theorem sumL_set {x d : Nd} : ∀ {ds : List Nd} {m : Nat},ds[m]? = some d→sumL (ds.set m x) + d.l.length=sumL ds + x.l.length
 | [],m,h => by simp at h
 | y :: ds,0,h => by
  simp only [gCZ,Option.some.injEq] at h;subst h;simp only [List.set_cons_zero,sumL,List.map_cons,List.sum_cons]; omega
 | y :: ds,m + 1,h => by
  rw [gCS] at h;have ih:=sumL_set (x:=x) h;simp only [List.set_cons_succ,sumL,List.map_cons,List.sum_cons] at ih ⊢;omega
theorem chg_set {ds : List Nd} (hs : srtK cmpI Nd.ino ds) {d : Nd} (hd : d ∈ ds) {w : OpM} (e : d.ino=w.ino) {c : Cont} (hc : chgC w d=some c) :
  ⟨d.ino,c.1,c.2⟩ ∈ chgD ds w∧sumL (chgD ds w) + d.l.length=sumL ds + c.2.length:=by
 obtain ⟨m,hm⟩:=List.mem_iff_getElem?.1 hd;have hp:=posK_at koI hs hm;have hl:=(gSI.1 hm).1;have ha:=atK_eq koI hs hd;unfold chgD;rw [← e,ha];simp only [hc];rw [hp];exact ⟨List.mem_iff_getElem?.2 ⟨m,gSS hl⟩,sumL_set hm⟩
theorem chg_le {ds : List Nd} (hs : srtK cmpI Nd.ino ds) {w : OpM} {X : Nat} (h : ∀ d ∈ ds,d.ino=w.ino→∀ c,chgC w d=some c→c.2.length≤d.l.length + X) : sumL (chgD ds w)≤sumL ds + X:=by
 by_cases hk : hasK Nd.ino ds w.ino
 ·obtain ⟨d,hd,e⟩:=hk
  cases hc : chgC w d with
  | some c =>
   have:=(chg_set hs hd e hc).2
   have:=h d hd e c hc
   omega
  | none =>
   unfold chgD;rw [← e,atK_eq koI hs hd];simp only [hc]; omega
 ·unfold chgD
  rw [atK_none hk];simp only; omega
theorem apC {i : Img} (h : MayW i.1 i.2) {o : OpM} (hk : o.kind=2∨o.kind=3∨o.kind=4∨o.kind=5) : ziaZ i.1 i.2 o=(i.1,chgD i.2 o):=by
 unfold ziaZ;rw [if_pos (mayI_w.2 h),if_neg (by omega),if_pos hk]
theorem writeC_app {c d e : Cont} {pos : Int} {b1 b2 : List UInt8} (h1 : ztsZ c pos b1=some d) (h2 : ztsZ d (pos + b1.length) b2=some e) (hl : b1.length + b2.length≤4096) (hp : pos≤1099511627776 - (b1.length + b2.length : Nat)) : ztsZ c pos (b1 ++ b2)=some e:=by
 unfold ztsZ at h1 h2 ⊢;split at h1
 ·rename_i g1
  injection h1 with h1;split at h2
  ·rename_i g2
   injection h2 with h2;rw [if_pos ⟨g1.1,g1.2.1,by rw [List.length_append]; exact hl,by rw [List.length_append]; exact hp⟩]
   congr 1
   by_cases e1 : b1=[]
   ·subst e1
    rw [if_pos rfl] at h1;subst h1
    simpa using h2
   ·rw [if_neg e1] at h1
    by_cases e2 : b2=[]
    ·subst e2
     rw [if_pos rfl] at h2;rw [List.append_nil,if_neg e1,h1,h2]
    ·rw [if_neg e2] at h2
     rw [if_neg (by simp [e1]),← h2,← h1,wr_app,List.length_append]
     congr 1
     simp only;omega
  ·cases h2
 ·cases h1
theorem write_one {c d : Cont} {p : Int} {bs : List UInt8} (h : ztsZ c p bs=some d) (h8 : p % 8 + bs.length≤8) (hb : bs ≠ []) : d.2.length≤c.2.length + 1∧(hasL c.2 (p / 8)→d.2.length≤c.2.length):=by
 unfold ztsZ at h;split at h
 ·rename_i g
  injection h with h;have hs : srt c.2:=(may_at.1 g.1).2.2.1;have e : d.2=zspZ c.2 p bs:=by rw [← h,wr_one hs h8 hb]
  have el : d.2.length=(needL c.2 (p / 8)).length:=by rw [e]; simp [zspZ,putL]
  have:=(need_len c.2 (p / 8)).1
  refine ⟨by omega,λhh=>?_⟩;unfold needL at el;rw [if_pos hh] at el;omega
 ·cases h
theorem nle {m : Int} {i : Img} (h : ∀ x ∈ i.1,x.ino≤m) {o : OpM} (ho : o.ino≤m) : ∀ x ∈ (ziaZ i.1 i.2 o).1,x.ino≤m:=by
 have hr : ∀ (l : List Nm) (s : List UInt8),∀ x ∈ remNs l s,x ∈ l:=λl s x hx=>by
  unfold remNs at hx;split at hx
  ·exact delK_sub.subset hx
  ·exact hx
 intro x hx;unfold ziaZ at hx;split at hx
 ·split at hx
  ·split at hx
   ·rcases zuvZ.1 hx with rfl | hx
    ·exact ho
    ·exact h x hx
   ·exact h x hx
  ·split at hx
   ·exact h x hx
   ·split at hx
    ·split at hx
     ·rename_i hok
      rcases zuvZ.1 hx with rfl | hx
      ·obtain ⟨y,e1,e2,e3⟩:=atK_has hok.1
       show nameI i.1 o.name≤m
       unfold nameI;rw [e1]; exact h y e2
      ·exact h x (delK_sub.subset (hr _ _ x hx))
     ·exact h x hx
    ·split at hx
     ·exact h x (hr _ _ x hx)
     ·exact h x hx
 ·exact h x hx
structure RmS (s : StS) : Prop where
 off : s.off=false
 armed : s.armed = -1
 room : (sumL s.now.2 : Int)≤s.cap
 nl : ∀ x ∈ s.now.1,x.ino≤s.made
theorem RmS.deed {s : StS} (h : RmS s) : deedS s=(true,s):=by
 unfold deedS;rw [if_neg (by rw [h.off,h.armed]; simp),if_neg (by rw [h.armed]; omega)]
theorem RmS.do {s : StS} (h : RmS s) (o : OpM) : doS s o=(0,{ s with now:=ziaZ s.now.1 s.now.2 o,pend:=s.pend ++ [o] }):=by
 unfold doS;rw [h.deed]; rfl
theorem wrS_room {c : Cont} {ino pos : Int} {b : List UInt8} (hf : fitsW pos b.length) : ∀ (f k : Nat) (s : StS) (d : Nd),RmS s→MayW s.now.1 s.now.2→d ∈ s.now.2→d.ino=ino→ztsZ c pos (b.take k)=some (d.size,d.l)→k≤b.length→(k=0∨(pos + k) % 8=0∨k=b.length)→b.length - k≤f →
  ∃ (m : Nat) (d' : Nd) (e : Int) (s' : StS),wrS c.2 ino pos b (cutsS f (pos + k) (b.length - k : Nat) 8) s=(((m : Int),e),s')∧m≤b.length∧RmS s'∧MayW s'.now.1 s'.now.2∧d' ∈ s'.now.2∧d'.ino=ino∧ztsZ c pos (b.take m)=some (d'.size,d'.l)∧((e=0∧m=b.length)∨(e=4∧m < b.length∧freeS s'=0)):=by
 intro f
 induction f with
 | zero =>
  intro k s d hr hm hd hi hw hk _ hl;have ek : k=b.length:=by omega
  refine ⟨b.length,d,0,s, ?_,Nat.le_refl _,hr,hm,hd,hi,by rw [← ek]; exact hw,.inl ⟨rfl,rfl⟩⟩;unfold cutsS wrS;rfl
 | succ f ih =>
  intro k s d hr hm hd hi hw hk hal hl;unfold cutsS
  by_cases hlt : k < b.length
  ·rw [if_pos (by omega)]
   obtain ⟨f1,f2,f3⟩:=hf;generalize hM : min ((b.length - k : Nat) : Int) (8 - (pos + k) % 8)=M;have M1 : 0 < M:=by omega
   have M2 : M≤8:=by omega
   have M3 : M≤(b.length - k : Nat):=by omega
   have hn : ¬ (∃ q,pos≤q∧q < pos + (b.take k).length∧(pos + k) / 8=q / 8):=by
    rintro ⟨q,q1,q2,q3⟩;rw [List.length_take] at q2;omega
   have hh : hasL d.l ((pos + k) / 8) ↔ hasL c.2 ((pos + k) / 8):=by
    unfold ztsZ at hw;split at hw
    ·injection hw with hw
     by_cases e : b.take k=[]
     ·rw [if_pos e] at hw
      rw [hw]
     ·rw [if_neg e] at hw
      have : d.l=ztdZ c.2 pos (b.take k):=(congrArg Prod.snd hw).symm;rw [this,wr_has];exact ⟨λz=>z.elim id λz=>absurd z hn,.inl⟩
    ·cases hw
   unfold wrS;simp only
   by_cases hg : ¬ hasL c.2 ((pos + k) / 8)∧freeS s=0
   ·rw [if_pos hg]
    exact ⟨k,d,4,s,by rw [show pos + (k : Int) - pos=k by omega],hk,hr,hm,hd,hi,hw,.inr ⟨rfl,hlt,hg.2⟩⟩
   ·rw [if_neg hg]
    have epb : partB b pos ⟨pos + k,M⟩=(b.drop k).take M.toNat:=by
     unfold partB;simp only;rw [show (pos + (k : Int) - pos).toNat=k by omega]
    generalize hbs : partB b pos ⟨pos + k,M⟩=bs at *;have lbs : (bs.length : Int)=M:=by rw [epb,List.length_take,List.length_drop]; omega
    have nbs : bs ≠ []:=λe=>by rw [e] at lbs; simp at lbs; omega
    have ltk : (b.take k).length=k:=by rw [List.length_take]; omega
    have hmc : mayC d.size d.l:=hm.mc d hd;obtain ⟨c1,hc1⟩ : ∃ c1,ztsZ (d.size,d.l) (pos + k) bs=some c1:=⟨_,by unfold ztsZ; rw [if_pos ⟨hmc,by omega,by omega,by omega⟩]⟩;have hchg : chgC (opWr ino (pos + k) bs) d=some c1:=by unfold chgC; rw [if_pos (show (opWr ino (pos + k) bs).kind=2 from rfl)]; exact hc1
    obtain ⟨g1,g2⟩:=chg_set hm.sd hd (w:=opWr ino (pos + k) bs) hi hchg;obtain ⟨w1,w2⟩:=write_one hc1 (by omega) nbs;have ea:=apC hm (o:=opWr ino (pos + k) bs) (.inl rfl);rw [hr.do,if_neg (by simp),ea];have htk : b.take (k + M.toNat)=b.take k ++ bs:=by rw [epb,List.take_add]
    have hrm : (sumL (chgD s.now.2 (opWr ino (pos + k) bs)) : Int)≤s.cap:=by
     have h1:=hr.room
     by_cases hq : hasL d.l ((pos + k) / 8)
     ·have:=w2 hq
      simp only at this;omega
     ·have hfr : freeS s ≠ 0:=λz=>hg ⟨λy=>hq (hh.2 y),z⟩
      unfold freeS at hfr;simp only at w1;omega
    have:=ih (k + M.toNat) { s with now:=(s.now.1,chgD s.now.2 (opWr ino (pos + k) bs)),pend:=s.pend ++ [opWr ino (pos + k) bs] } ⟨d.ino,c1.1,c1.2⟩ ⟨hr.off,hr.armed,hrm,hr.nl⟩ (hm.chg (.inl rfl)) g1 hi
     (by rw [htk]; exact writeC_app hw (by rw [ltk]; exact hc1) (by rw [ltk]; omega) (by rw [ltk]; omega)) (by omega) (by omega) (by omega)
    rw [show pos + ((k + M.toNat : Nat) : Int)=pos + k + M by omega,show ((b.length - (k + M.toNat) : Nat) : Int)=((b.length - k : Nat) : Int) - M by omega] at this;exact this
  ·rw [if_neg (by omega)]
   have ek : k=b.length:=by omega
   refine ⟨b.length,d,0,s, ?_,Nat.le_refl _,hr,hm,hd,hi,by rw [← ek]; exact hw,.inl ⟨rfl,rfl⟩⟩;unfold wrS;rfl
theorem trunc_ln {c d : Cont} {size : Int} (h : zvnZ c size=some d) : d.2.length≤c.2.length:=by
 unfold zvnZ at h;split at h
 ·injection h with h
  subst h;simp only [zbgfZ,wipeL,List.length_map]; exact List.length_filter_le _ _
 ·cases h
theorem punch_ln {c d : Cont} {pos n : Int} (h : zwxZ c pos n=some d) : d.2.length≤c.2.length:=by
 unfold zwxZ at h;split at h
 ·injection h with h
  subst h;simp only [zbglZ,wipeL,List.length_map]; exact List.length_filter_le _ _
 ·cases h
theorem nam_le {i : Img} {o : OpM} (hk : o.kind=1∨o.kind=6∨o.kind=7) : sumL (ziaZ i.1 i.2 o).2≤sumL i.2:=by
 have hr : ∀ (l : List Nm) (s : List UInt8),sumL (remD l i.2 s)≤sumL i.2:=λl s=>by
  unfold remD
  split
  ·exact sumL_sub delK_sub
  ·exact Nat.le_refl _
 unfold ziaZ
 by_cases hm : mayI i.1 i.2
 ·rw [if_pos hm]
  by_cases k1 : o.kind=1
  ·rw [if_pos k1]
   split
   ·simp only [sumL_ins,List.length_nil]; omega
   ·exact Nat.le_refl _
  ·rw [if_neg k1,if_neg (by omega)]
   by_cases k6 : o.kind=6
   ·rw [if_pos k6]
    split
    ·exact hr _ _
    ·exact Nat.le_refl _
   ·rw [if_neg k6,if_pos (by omega)]
    exact hr _ _
 ·rw [if_neg hm]
  exact Nat.le_refl _
theorem RmS.doR {s : StS} (h : RmS s) {o : OpM} (hr : (sumL (ziaZ s.now.1 s.now.2 o).2 : Int)≤s.cap) (hn : ∀ x ∈ (ziaZ s.now.1 s.now.2 o).1,x.ino≤s.made) : RmS (doS s o).2:=by
 rw [h.do];exact ⟨h.off,h.armed,hr,hn⟩
theorem RmS.nam {s : StS} (h : RmS s) {o : OpM} (hk : o.kind=1∨o.kind=6∨o.kind=7) (hi : o.ino≤s.made) : RmS (doS s o).2:=h.doR (by
 have:=nam_le (i:=s.now) hk
 have:=h.room
 omega) (nle h.nl hi)
theorem RmS.open {s : StS} (h : RmS s) (name : List UInt8) (make : Bool) : RmS (openS s name make).2:=by
 unfold openS
 split
 ·exact h
 ·split
  ·exact h
  ·rw [h.do,if_neg (by simp)]
   refine ⟨h.off,h.armed, ?_,nle (o:=opCre name (s.made + 1)) (λx hx=>?_) (Int.le_refl _)⟩
   ·have:=nam_le (i:=s.now) (o:=opCre name (s.made + 1)) (.inl rfl)
    have:=h.room
    simp only;omega
   ·have:=h.nl x hx
    show x.ino≤s.made + 1
    omega
theorem parts_eq {pos : Int} {n : Nat} (hf : fitsW pos n) : zbfhZ ⟨pos,n⟩ 8=cutsS n pos n 8:=by
 obtain ⟨f1,f2,f3⟩:=hf;unfold zbfhZ;rw [if_pos ⟨by unfold MaySpan May; simp only; omega,by simp only; omega,by omega⟩];simp
theorem writeS_room {N : Nat} {s : StS} (h : RmS s) (hw : SW N s) {ino pos : Int} {b : List UInt8} {d : Nd} (hd : d ∈ s.now.2) (hi : d.ino=ino) (hf : fitsW pos b.length) :
  ∃ (m : Nat) (d' : Nd) (e : Int) (s' : StS),zbgnZ s ino pos b=(((m : Int),e),s')∧m≤b.length∧RmS s'∧d' ∈ s'.now.2∧d'.ino=ino∧ztsZ (d.size,d.l) pos (b.take m)=some (d'.size,d'.l)∧((e=0∧m=b.length)∨(e=4∧m < b.length∧freeS s'=0)):=by
 have hm:=hw.now.1;obtain ⟨g1,g2⟩:=getN_w hm hd
 have ec : zsZ s ino=((d.size,d.l),0):=by
  unfold zsZ;rw [if_neg (by rw [h.off]; simp),← hi,if_pos g2,g1]
 obtain ⟨f1,f2,f3⟩:=hf
 have h0 : ztsZ (d.size,d.l) pos (b.take 0)=some (d.size,d.l):=by
  unfold ztsZ;rw [if_pos ⟨hm.mc d hd,f1,by simp,by simp; omega⟩,List.take_zero,if_pos rfl]
 obtain ⟨m,d',e,s',k1,k2,k3,k4,k5,k6,k7,k8⟩:=wrS_room (c:=(d.size,d.l)) (ino:=ino) (pos:=pos) (b:=b) ⟨f1,f2,f3⟩ b.length 0 s d h hm hd hi h0 (by omega) (.inl rfl) (by omega);refine ⟨m,d',e,s', ?_,k2,k3,k5,k6,k7,k8⟩;unfold zbgnZ;rw [ec,if_neg (by simp),if_neg (λq=>q ⟨f1,f2,f3⟩),parts_eq ⟨f1,f2,f3⟩]
 simpa using k1
theorem RmS.write {N : Nat} {s : StS} (h : RmS s) (hw : SW N s) (ino pos : Int) (b : List UInt8) : RmS (zbgnZ s ino pos b).2:=by
 by_cases hc : (zsZ s ino).2=0
 ·obtain ⟨d,hd,hi,e,-⟩:=zozZ hw hc
  by_cases hf : fitsW pos b.length
  ·obtain ⟨m,d',e,s',k1,k2,k3,-⟩:=writeS_room h hw hd hi hf
   rw [k1]; exact k3
  ·unfold zbgnZ
   rw [if_neg (λq=>q hc),if_pos hf]; exact h
 ·unfold zbgnZ
  rw [if_pos hc]; exact h
theorem RmS.cont {N : Nat} {s : StS} (h : RmS s) (hw : SW N s) {o : OpM} {X : Nat} (hk : o.kind=2∨o.kind=3∨o.kind=4∨o.kind=5) (hx : (sumL s.now.2 : Int) + X≤s.cap) (hl : ∀ d ∈ s.now.2,d.ino=o.ino→∀ c,chgC o d=some c→c.2.length≤d.l.length + X) : RmS (doS s o).2:=h.doR (by
 rw [apC hw.now.1 hk]
 have:=chg_le hw.now.1.sd hl
 simp only
 omega) (by rw [apC hw.now.1 hk]; exact h.nl)
theorem ite_rm {c : Prop} [Decidable c] {a b : StS} (h1 : RmS a) (h2 : RmS b) : RmS (if c then a else b):=by
 by_cases h : c
 ·rw [if_pos h]; exact h1
 ·rw [if_neg h]; exact h2
theorem RmS.sync {s : StS} (h : RmS s) (l : List Int) : RmS (syncS s l).2:=by
 unfold syncS;rw [h.deed];exact ⟨h.off,h.armed,h.room,h.nl⟩
theorem RmS.step {N : Nat} {s : StS} (h : RmS s) (hw : SW N s) {x : Stp} (hx : x.kind.toNat % 16 < 13) : RmS (zbcrZ s x):=by
 have hr:=h.room;unfold zbcrZ;refine ite_rm (h.open _ _) (ite_rm (h.write hw _ _ _) (ite_rm ?_ (ite_rm ?_ (ite_rm ?_ (ite_rm ?_ (ite_rm ?_ (ite_rm (h.sync _) (ite_rm (h.sync _) (ite_rm (h.sync _) ?_)))))))))
 ·unfold truncS
  split
  ·exact h
  ·split
   ·exact h
   ·refine h.cont hw (X:=0) (.inr (.inl rfl)) (by omega) λd hd hi c hc=>?_
    have : zvnZ (d.size,d.l) x.n=some c:=hc;exact trunc_ln this
 ·unfold allocS
  split
  ·exact h
  ·rename_i hc
   obtain ⟨d,hd,hi,e,-⟩:=zozZ hw (Decidable.byContradiction λq=>hc q);rw [e]
   split
   ·exact h
   ·split
    ·exact h
    ·rename_i hg
     cases ha : ztqZ (d.size,d.l) x.pos x.n x.keep with
     | none => rename_i hn; exact absurd ha hn
     | some c0 =>
      rw [ha] at hg;simp only [cL,Option.getD_some] at hg;unfold freeS at hg;refine h.cont hw (X:=c0.2.length - d.l.length) (.inr (.inr (.inl rfl))) (by omega) λd2 hd2 hi2 c hc=>?_
      have e2:=srtK_uniq koI hw.now.1.sd hd2 hd (hi2.trans hi.symm);subst e2;have hc : ztqZ (d2.size,d2.l) x.pos x.n x.keep=some c:=hc;rw [ha] at hc;injection hc with hc;subst hc;omega
 ·unfold punchS
  split
  ·exact h
  ·split
   ·exact h
   ·refine h.cont hw (X:=0) (.inr (.inr (.inr rfl))) (by omega) λd hd hi c hc=>?_
    have : zwxZ (d.size,d.l) x.pos x.n=some c:=hc;exact punch_ln this
 ·unfold renS
  split
  ·exact h
  ·split
   ·exact h
   ·exact h.nam (.inr (.inl rfl)) hw.made.1
 ·unfold remS
  split
  ·exact h
  ·exact h.nam (.inr (.inr rfl)) hw.made.1
 ·rw [if_neg (by omega),if_neg (by omega)]
  exact h
theorem RmS.new (room : Int) : RmS (newS room):=⟨rfl,rfl,by show (0 : Int)≤min (max room 0) 4096; omega,by simp [newS]⟩
theorem doStep_cap (s : StS) (x : Stp) : (zbcrZ s x).cap=s.cap:=by
 have hd : ∀ o,(doS s o).2.cap=s.cap:=λo=>by
  obtain ⟨-,-,-,-,e5⟩:=zkeZ s;unfold doS
  split
  ·exact e5
  ·exact e5
 have hy : ∀ l,(syncS s l).2.cap=s.cap:=λl=>by
  obtain ⟨-,-,-,-,e5⟩:=zkeZ s;unfold syncS
  split
  ·exact e5
  ·exact e5
 have hi : ∀ {c : Prop} [Decidable c] {a b : StS},a.cap=s.cap→b.cap=s.cap→(if c then a else b).cap=s.cap:=fun {c} _ {a b} h1 h2 => by
  by_cases h : c
  ·rw [if_pos h]; exact h1
  ·rw [if_neg h]; exact h2
 have hw : ∀ (c : List Ext) (ino pos : Int) (b : List UInt8) (l : List Sp) (t : StS),t.cap=s.cap→(wrS c ino pos b l t).2.cap=s.cap:=λc ino pos b l=>by
  induction l with
  | nil => intro t h; exact h
  | cons q r ih =>
   intro t h
   have ht : (doS t (opWr ino q.pos (partB b pos q))).2.cap=s.cap:=by
    obtain ⟨-,-,-,-,e5⟩:=zkeZ t;unfold doS
    split
    ·exact e5.trans h
    ·exact e5.trans h
   unfold wrS
   split
   ·exact h
   ·split
    ·exact ht
    ·exact ih _ ht
 unfold zbcrZ;refine hi ?_ (hi ?_ (hi ?_ (hi ?_ (hi ?_ (hi ?_ (hi ?_ (hi (hy _) (hi (hy _) (hi (hy _) (hi rfl (hi rfl rfl)))))))))))
 ·unfold openS
  split
  ·rfl
  ·split
   ·rfl
   ·split
    ·exact hd _
    ·exact hd _
 ·unfold zbgnZ
  split
  ·rfl
  ·split
   ·rfl
   ·exact hw _ _ _ _ _ s rfl
 ·unfold truncS
  split
  ·rfl
  ·split
   ·rfl
   ·exact hd _
 ·unfold allocS
  split
  ·rfl
  ·split
   ·rfl
   ·split
    ·rfl
    ·exact hd _
 ·unfold punchS
  split
  ·rfl
  ·split
   ·rfl
   ·exact hd _
 ·unfold renS
  split
  ·rfl
  ·split
   ·rfl
   ·exact hd _
 ·unfold remS
  split
  ·rfl
  ·exact hd _
theorem RmS.made {N : Nat} {s : StS} (h : RmS s) (hw : SW N s) (hN : N≤900000) {name : List UInt8} (hn : mayN name) : ((openS s name true).1.2=0∧∃ d ∈ (openS s name true).2.now.2,d.ino=(openS s name true).1.1)∨(openS s name true).1.2=4:=by
 unfold openS
 by_cases hk : hasK Nm.name s.now.1 name
 ·have e : findS s name=(nameI s.now.1 name,0):=by unfold findS; rw [if_neg (by rw [h.off]; simp),if_neg (λq=>q hn),if_pos hk]
  rw [e,if_pos (.inl (by simp))];obtain ⟨x,hx,rfl⟩:=hk;obtain ⟨d,hd,e⟩:=(hw.now.1.ino x.ino).2 ⟨x,hx,rfl⟩;exact .inl ⟨rfl,d,hd,by rw [nameI_mem hw.now.1.srt hx]; exact e⟩
 ·have e : findS s name=(0,3):=by unfold findS; rw [if_neg (by rw [h.off]; simp),if_neg (λq=>q hn),if_neg hk]
  rw [e,if_neg (by simp)]
  by_cases h16 : 16≤s.now.1.length
  ·rw [if_pos h16]; exact .inr rfl
  ·rw [if_neg h16,h.do,if_neg (by simp)]
   obtain ⟨m1,m2⟩:=hw.made
   have hc : creI s.now.1 s.now.2 (opCre name (s.made + 1)):=⟨hk,λq=>by
    obtain ⟨x,hx,e⟩:=(hw.now.1.ino (s.made + 1)).1 q
    have:=h.nl x hx
    omega,hn,by show 1≤s.made + 1; omega,by show s.made + 1≤_; omega,by omega⟩
   have ea : ziaZ s.now.1 s.now.2 (opCre name (s.made + 1))=(insK cmpN Nm.name s.now.1 ⟨name,s.made + 1⟩,insK cmpI Nd.ino s.now.2 ⟨s.made + 1,0,[]⟩):=by
    unfold ziaZ;rw [if_pos (mayI_w.2 hw.now.1),if_pos (show (opCre name (s.made + 1)).kind=1 from rfl),if_pos hc];rfl
   refine .inl ⟨rfl,⟨s.made + 1,0,[]⟩, ?_,rfl⟩;simp only [ea];exact zuvZ.2 (.inl rfl)
end Go.Proofs.YtlhiaihmkjlaaaaGreat.Av
end
section
end
