/- The law and its row. No condition. -/
import Derived.Test.YtlhiaihmkjlaaaaGreatMrH
set_option linter.unusedVariables false
set_option linter.unusedSimpArgs false
set_option maxRecDepth 100000
section
namespace Go.Proofs.YtlhiaihmkjlaaaaGreat.Av
open Go Go.RowKit
def opCre (name : List UInt8) (i : Int) : OpM:=⟨1,i,0,0,false,name,[],[]⟩
def opRen (name to : List UInt8) : OpM:=⟨6,0,0,0,false,name,to,[]⟩
def opRem (name : List UInt8) : OpM:=⟨7,0,0,0,false,name,[],[]⟩
def opTr (ino size : Int) : OpM:=⟨3,ino,0,size,false,[],[],[]⟩
theorem opTr_b (ino size : Int) : OpB (opTr ino size):=⟨by simp [opTr],by simp [opTr],by simp [opTr]⟩
theorem opRem_b {name : List UInt8} (h : mayN name) : OpB (opRem name):=⟨by simp [opRem],h.2.1,by simp [opRem]⟩
def openS (s : StS) (name : List UInt8) (make : Bool) : (Int × Int) × StS :=
 if (findS s name).2 ≠ 3∨make=false then (findS s name,s)
 else if 16≤s.now.1.length then ((0,4),s)
 else if (doS s (opCre name (s.made + 1))).1 ≠ 0 then ((0,(doS s (opCre name (s.made + 1))).1),(doS s (opCre name (s.made + 1))).2)
 else ((s.made + 1,0),{ (doS s (opCre name (s.made + 1))).2 with made:=s.made + 1 })
theorem findS_3 {s : StS} {name : List UInt8} (h : (findS s name).2=3) : mayN name∧¬ hasK Nm.name s.now.1 name∧s.off=false:=by
 unfold findS at h;split at h
 ·simp at h
 ·split at h
  ·simp at h
  ·split at h
   ·simp at h
   ·rename_i h1 h2 h3
    exact ⟨Decidable.byContradiction h2,h3,by simpa using h1⟩
theorem findS_0 {s : StS} {name : List UInt8} (h : (findS s name).2=0) : mayN name∧hasK Nm.name s.now.1 name∧s.off=false∧(findS s name).1=nameI s.now.1 name:=by
 unfold findS at h ⊢;split at h
 ·simp at h
 ·split at h
  ·simp at h
  ·split at h
   ·rename_i h1 h2 h3
    rw [if_neg h1,if_neg h2,if_pos h3];exact ⟨Decidable.byContradiction h2,h3,by simpa using h1,rfl⟩
   ·simp at h
theorem openS_w {N : Nat} {s : StS} (h : SW N s) (name : List UInt8) (make : Bool) : SW (N + 1) (openS s name make).2:=by
 unfold openS
 split
 ·exact h.mono (by omega)
 ·rename_i hf
  have hn : mayN name:=(findS_3 (Decidable.byContradiction λq=>hf (.inl q))).1;have ho : OpB (opCre name (s.made + 1)):=⟨by simp [opCre],hn.2.1,by simp [opCre]⟩;have hd:=doS_w h ho;have hwt : wt (opCre name (s.made + 1))=1:=rfl;rw [hwt] at hd
  split
  ·exact h.mono (by omega)
  ·split
   ·exact hd
   ·exact ⟨hd.now,hd.kept,hd.ob,by simp only; have:=h.made; omega,hd.cap,hd.armed⟩
theorem Open_c {N : Nat} {s : StS} {os : Nat} {p : AV} {H : AH} (h : StAt s os p H) (hw : SW N s) (hN : N < 900000) {name : List UInt8} (hn : name.length≤9223372036854775807) (make : Bool) :
  ∃ r H',(r = .tup [I (openS s name make).1.1,I (openS s name make).1.2]∧∃ p',StAt (openS s name make).2 os p' H'∧StF os p p' H H')∧BCall Tryz.prog 19 [.ptr os 0,S (bstr name),B make] H r H':=zbdiZ (by
 unfold zzrZ;refine bC_of (find_c h hw (by omega) hn) ?_;have hmade:=hw.made;simp only [ziZ,gCS,gCZ,zbZ,zkuZ,zcrZ]
 by_cases h3 : (findS s name).2=3
 ·obtain ⟨hm,hk,hoff⟩:=findS_3 h3
  simp only [h3,ne_eq,not_true_eq_false,dFf,beq_self_eq_true,zbrZ,zbZ,zduZ,zoZ,if_false,Bool.false_eq_true,zpZ];cases make with
  | false =>
   have e : openS s name false=(findS s name,s):=by unfold openS; rw [if_pos (.inr rfl)]
   rw [e];simp only [Bool.not_false,zbcZ];exact ⟨by rw [h3],p,h,.refl _ _ _⟩
  | true =>
   have hn0 : ¬ ((findS s name).2 ≠ 3∨true=false):=by rintro (q | q); exact q h3; cases q
   have h':=h;obtain ⟨a,b,c,d,pv,hc⟩:=h;obtain ⟨a',b',dv,eab,sa,sb,-⟩:=hc.now;injection eab with eab; injection eab with ea eb;subst ea;simp only [Bool.not_true,zmZ,zkZ,zbZ,zeZ,Nat.zero_add,Nat.add_zero,zlZ hc.obj,zdZ,gCS,gCZ,sa.len,abI_geq,zpZ]
   by_cases h16 : 16≤s.now.1.length
   ·have h16I : (16 : Int)≤(s.now.1.length : Int):=by omega
    have e : openS s name true=((0,4),s):=by unfold openS; rw [if_neg hn0,if_pos h16]
    rw [e];simp only [h16I,dTt,zbcZ];exact ⟨by trivial,p,h',.refl _ _ _⟩
   ·have h16I : ¬ (16 : Int)≤(s.now.1.length : Int):=by omega
    have ho : OpB (opCre name (s.made + 1)):=⟨by simp [opCre],hm.2.1,by simp [opCre]⟩;have e1 : abI .add (I s.made) (I 1)=some (I (s.made + 1)):=zbdZ (by omega) (by omega);have e2 : abl [(I 0),(I 0),(I 0),(I 0),(B false),(.lit (.string ⟨#[]⟩)),(.lit (.string ⟨#[]⟩)),nilSl] [(0,1,(I 1)),(5,1,S (bstr name)),(1,1,I (s.made + 1))]=some (.agg (opA (opCre name (s.made + 1)) nilSl)):=rfl;simp only [h16I,dFf,zmZ,zkZ,zbZ,zeZ,Nat.zero_add,zlZ hc.obj,zdZ,gCS,gCZ,e1,e2];obtain ⟨r,H2,⟨rfl,p2,h2,f2⟩,hcall⟩:=do_c (bv:=nilSl) h' hw (by omega) SV.nil ho;refine bC_of hcall ?_;simp only [zkuZ,zbZ,zpZ]
    by_cases hd : (doS s (opCre name (s.made + 1))).1=0
    ·have e : openS s name true=((s.made + 1,0),{ (doS s (opCre name (s.made + 1))).2 with made:=s.made + 1 }):=by unfold openS; rw [if_neg hn0,if_neg h16,if_neg (by rw [hd]; simp)]
     rw [e]
     have emade : (doS s (opCre name (s.made + 1))).2.made=s.made:=by
      obtain ⟨-,-,-,q4,-⟩:=zkeZ s;unfold doS; split <;> exact q4
     obtain ⟨a2,b2,c2,d2,pv2,hc2⟩:=h2;obtain ⟨h3',f3⟩:=hc2.set (s':={ (doS s (opCre name (s.made + 1))).2 with made:=s.made + 1 }) hc2.now hc2.kept rfl;have e3 : ast 1 H2 (.ptr os 6) (I (s.made + 1))=some (H2.set os (some (.cells [I (doS s (opCre name (s.made + 1))).2.cap,a2,b2,c2,d2,p2,I (s.made + 1),I (doS s (opCre name (s.made + 1))).2.armed,B (doS s (opCre name (s.made + 1))).2.off]))):=fld hc2.obj (by simp) rfl;have hob:=hc2.obj;rw [emade] at hob;simp only [hd,ne_eq,not_true_eq_false,dFf,zmZ,zkZ,zbZ,zeZ,Nat.zero_add,zlZ hob,zdZ,gCS,gCZ,e1,e3,zcaZ,zlZ h3'.obj];exact ⟨by trivial,p2,⟨a2,b2,c2,d2,pv2,h3'⟩,f2.trans f3⟩
    ·have e : openS s name true=((0,(doS s (opCre name (s.made + 1))).1),(doS s (opCre name (s.made + 1))).2):=by unfold openS; rw [if_neg hn0,if_neg h16,if_pos hd]
     rw [e];simp only [hd,ne_eq,not_false_eq_true,dTt,zbcZ];exact ⟨by trivial,p2,h2,f2⟩
 ·have e : openS s name make=(findS s name,s):=by unfold openS; rw [if_pos (.inl h3)]
  rw [e];simp only [h3,ne_eq,not_false_eq_true,dTt,show ((true == false)=false) from rfl,zfxZ,zbZ,zoZ,if_true,zpZ,zbcZ];exact ⟨by trivial,p,h,.refl _ _ _⟩)
def truncS (s : StS) (ino size : Int) : Int × StS :=
 if (zsZ s ino).2 ≠ 0 then ((zsZ s ino).2,s) else if zvnZ (zsZ s ino).1 size=none then (5,s) else doS s (opTr ino size)
theorem truncS_w {N : Nat} {s : StS} (h : SW N s) (ino size : Int) : SW (N + 1) (truncS s ino size).2:=by
 unfold truncS
 split
 ·exact h.mono (by omega)
 ·split
  ·exact h.mono (by omega)
  ·exact doS_w h (opTr_b ino size)
theorem zesZ {N : Nat} {s : StS} (h : SW N s) (ino : Int) : (zsZ s ino).1.2.length≤N:=by
 unfold zsZ
 split
 ·simp
 ·split
  ·rename_i hg
   obtain ⟨d,hd,rfl⟩:=hg.2;rw [(getN_w h.now.1 hd).1];exact h.now.2 d hd
  ·simp
theorem Trunc_c {N : Nat} {s : StS} {os : Nat} {p : AV} {H : AH} (h : StAt s os p H) (hw : SW N s) (hN : N < 900000) (ino size : Int) :
  ∃ r H',(r=I (truncS s ino size).1∧∃ p',StAt (truncS s ino size).2 os p' H'∧StF os p p' H H')∧BCall Tryz.prog 25 [.ptr os 0,I ino,I size] H r H':=zxtZ (by
 unfold zqsZ;obtain ⟨R,hR,r,H1,⟨rfl,g1⟩,hc⟩:=zwyZ h hw (by omega) ino;have hlen:=zesZ hw ino;refine bC_of hc ?_;unfold truncS;generalize zsZ s ino=ct at *;have oR:=SV.oneA hR;have h1:=h.grew g1;have g2:=Grew.app H1 [some (.cells [I ct.1.1,R])];have h2:=h1.grew g2;simp only [ziZ,gCS,gCZ,zbZ,nwC,zbpZ,stC' _ _ oR,zcaZ,zkuZ,zpZ]
 by_cases hc0 : ct.2=0
 ·simp only [hc0,ne_eq,not_true_eq_false,dFf,zmZ,if_false,zlZ top1,rd2,zbZ]
  obtain ⟨R2,hR2,hp⟩:=zxaZ (size0:=ct.1.1) hR (by omega) size;refine zyZ hp ?_;have oR2:=SV.oneA hR2;have g3:=Grew.app (H1 ++ [some (AObj.cells [I ct.1.1,R])]) [some (.cells [I (cS (zvnZ (ct.1.1,ct.1.2) size)),R2])];have h3:=h2.grew g3;have ff : StF os p p H (H1 ++ [some (AObj.cells [I ct.1.1,R])] ++ [some (.cells [I (cS (zvnZ (ct.1.1,ct.1.2) size)),R2])]):=.of_grew ((g1.trans g2).trans g3);simp only [ziZ,gCS,gCZ,zbZ,nwC,zbpZ,stC' _ _ oR2,zcaZ,zduZ,zpZ];cases ht : zvnZ (ct.1.1,ct.1.2) size with
  | none =>
   have ht' : zvnZ ct.1 size=none:=ht;rw [ht] at h3 ff;simp only [Option.isSome_none,Bool.not_false,zbcZ,ht',if_true];exact ⟨by trivial,p,h3,ff⟩
  | some c2 =>
   have ht' : ¬ zvnZ ct.1 size=none:=by rw [show zvnZ ct.1 size=some c2 from ht]; simp
   rw [ht] at h3 ff;have e2 : abl [(I 0),(I 0),(I 0),(I 0),(B false),(.lit (.string ⟨#[]⟩)),(.lit (.string ⟨#[]⟩)),nilSl] [(0,1,(I 3)),(1,1,I ino),(3,1,I size)]=some (.agg (opA (opTr ino size) nilSl)):=rfl;simp only [Option.isSome_some,Bool.not_true,zmZ,ht',if_false,e2,zbZ];obtain ⟨r,H2,⟨rfl,p2,h4,f4⟩,hcall⟩:=do_c (bv:=nilSl) (o:=opTr ino size) h3 hw (by omega) SV.nil (opTr_b ino size);exact bC_of hcall ⟨rfl,p2,h4,ff.trans f4⟩
 ·simp only [hc0,ne_eq,not_false_eq_true,dTt,zbcZ,if_true]
  exact ⟨by trivial,p,h2,.of_grew (g1.trans g2)⟩)
def renS (s : StS) (name to : List UInt8) : Int × StS :=
 if s.off=false∧¬ mayN to then (5,s) else if (findS s name).2 ≠ 0∨name=to then ((findS s name).2,s) else doS s (opRen name to)
theorem renS_ob {s : StS} {name to : List UInt8} (h1 : ¬ (s.off=false∧¬ mayN to)) (h2 : ¬ ((findS s name).2 ≠ 0∨name=to)) : OpB (opRen name to):=by
 obtain ⟨a1,a2,a3,-⟩:=findS_0 (Decidable.byContradiction λq=>h2 (.inl q));have : mayN to:=Decidable.byContradiction λq=>h1 ⟨a3,q⟩
 exact ⟨by simp [opRen],a1.2.1,this.2.1⟩
theorem renS_w {N : Nat} {s : StS} (h : SW N s) (name to : List UInt8) : SW (N + 1) (renS s name to).2:=by
 unfold renS
 split
 ·exact h.mono (by omega)
 ·split
  ·exact h.mono (by omega)
  ·rename_i h1 h2; exact doS_w h (renS_ob h1 h2)
theorem Rename_c {N : Nat} {s : StS} {os : Nat} {p : AV} {H : AH} (h : StAt s os p H) (hw : SW N s) (hN : N < 900000) {name to : List UInt8} (hn : name.length≤9223372036854775807) (ht : to.length≤9223372036854775807) :
    ∃ r H',(r=I (renS s name to).1∧∃ p',StAt (renS s name to).2 os p' H'∧StF os p p' H H')∧BCall Tryz.prog 24 [.ptr os 0,S (bstr name),S (bstr to)] H r H':=zbagZ (by
  unfold zvwZ;have h':=h;obtain ⟨a,b,c,d,pv,hc⟩:=h;have rest : ¬ (s.off=false∧¬ mayN to)→bC (BCall Tryz.prog 62 [.ptr os 0,S (bstr name)] H) λv12 H13=>
      bO (zjZ v12 0) λv14=>
      bO (zjZ v12 1) λv15=>
      bO (abI .neq v15 (I 0)) λv16=>
      bG v16 false λw17=>
      gO w17 (some (S (bstr name))) λv18=>
      bG v16 false λw19=>
      gO w19 (some (S (bstr to))) λv20=>
      bG v16 false λw21=>
      gO w21 (abT .eql v18 v20) λv22=>
      bO (apick v16 (B true) v22) λv23=>
      bB v23 λt24=>bI t24 (
      v15=I (renS s name to).1∧∃ p',StAt (renS s name to).2 os p' H13∧StF os p p' H H13)
       (bO (abl [(I 0),(I 0),(I 0),(I 0),(B false),(.lit (.string ⟨#[]⟩)),(.lit (.string ⟨#[]⟩)),nilSl] [(0,1,(I 6)),(5,1,S (bstr name)),(6,1,S (bstr to))]) λv25=>
      bC (BCall Tryz.prog 63 [.ptr os 0,v25] H13) λv26 H27=>
      v26=I (renS s name to).1∧∃ p',StAt (renS s name to).2 os p' H27∧StF os p p' H H27):=by
    intro hno;refine bC_of (find_c h' hw (by omega) hn) ?_;unfold renS;rw [if_neg hno];simp only [ziZ,gCS,gCZ,zbZ,zkuZ,zcrZ]
    by_cases h0 : (findS s name).2=0
    · have eT : abT .eql (S (bstr name)) (S (bstr to))=some (B (decide (name=to))):=abT_eql;simp only [h0,ne_eq,not_true_eq_false,dFf,beq_self_eq_true,zbrZ,zbZ,eT,zoZ,if_false,Bool.false_eq_true,zpZ,false_or]
      by_cases he : name=to
      · simp only [he,dTt,zbcZ,if_true];exact ⟨by trivial,p,h',.refl _ _ _⟩
      · have e2 : abl [(I 0),(I 0),(I 0),(I 0),(B false),(.lit (.string ⟨#[]⟩)),(.lit (.string ⟨#[]⟩)),nilSl] [(0,1,(I 6)),(5,1,S (bstr name)),(6,1,S (bstr to))]=some (.agg (opA (opRen name to) nilSl)):=rfl;simp only [he,dFf,zmZ,if_false,e2,zbZ];obtain ⟨r,H2,⟨rfl,p2,h4,f4⟩,hcall⟩:=do_c (bv:=nilSl) (o:=opRen name to) h' hw (by omega) SV.nil (renS_ob hno (by rintro (q | q); exact q h0; exact he q));exact bC_of hcall ⟨rfl,p2,h4,f4⟩
    · simp only [h0,ne_eq,not_false_eq_true,dTt,show ((true == false)=false) from rfl,zfxZ,zbZ,zoZ,if_true,zpZ,zbcZ,true_or];exact ⟨by trivial,p,h',.refl _ _ _⟩
  simp only [zkZ,zbZ,zeZ,Nat.zero_add,zlZ hc.obj,zdZ,gCS,gCZ,zduZ,zcrZ];cases ho : s.off with
  | true =>
    simp only [Bool.not_true,show ((false == true)=false) from rfl,zfxZ,gP_false,zbZ,zoZ,if_false,Bool.false_eq_true,zpZ,zmZ];exact rest (λhh=>by rw [ho] at hh; cases hh.1)
  | false =>
    simp only [Bool.not_false,beq_self_eq_true,zbrZ,gP_true,zbZ];refine zyZ (zbgdZ ht) ?_
    by_cases hm : mayN to
    · simp only [hm,dTt,zduZ,Bool.not_true,zbZ,zoZ,if_true,zpZ,zmZ];exact rest (λhh=>hh.2 hm)
    · simp only [hm,dFf,zduZ,Bool.not_false,zbZ,zoZ,if_true,zpZ,zbcZ];unfold renS;rw [if_pos ⟨ho,hm⟩];exact ⟨rfl,p,h',.refl _ _ _⟩)
def remS (s : StS) (name : List UInt8) : Int × StS:=if (findS s name).2 ≠ 0 then ((findS s name).2,s) else doS s (opRem name)
theorem remS_w {N : Nat} {s : StS} (h : SW N s) (name : List UInt8) : SW (N + 1) (remS s name).2:=by
 unfold remS
 split
 ·exact h.mono (by omega)
 ·rename_i h2
  exact doS_w h (opRem_b (findS_0 (Decidable.byContradiction h2)).1)
theorem Remove_c {N : Nat} {s : StS} {os : Nat} {p : AV} {H : AH} (h : StAt s os p H) (hw : SW N s) (hN : N < 900000) {name : List UInt8} (hn : name.length≤9223372036854775807) :
  ∃ r H',(r=I (remS s name).1∧∃ p',StAt (remS s name).2 os p' H'∧StF os p p' H H')∧BCall Tryz.prog 23 [.ptr os 0,S (bstr name)] H r H':=zbaoZ (by
 unfold zvvZ;refine bC_of (find_c h hw (by omega) hn) ?_;unfold remS;simp only [ziZ,gCS,gCZ,zbZ,zkuZ,zpZ]
 by_cases h0 : (findS s name).2=0
 ·have e2 : abl [(I 0),(I 0),(I 0),(I 0),(B false),(.lit (.string ⟨#[]⟩)),(.lit (.string ⟨#[]⟩)),nilSl] [(0,1,(I 7)),(5,1,S (bstr name))]=some (.agg (opA (opRem name) nilSl)):=rfl
  simp only [h0,ne_eq,not_true_eq_false,dFf,zmZ,if_false,e2,zbZ];obtain ⟨r,H2,⟨rfl,p2,h4,f4⟩,hcall⟩:=do_c (bv:=nilSl) (o:=opRem name) h hw (by omega) SV.nil (opRem_b (findS_0 h0).1);exact bC_of hcall ⟨rfl,p2,h4,f4⟩
 ·simp only [h0,ne_eq,not_false_eq_true,dTt,zbcZ,if_true]
  exact ⟨by trivial,p,h,.refl _ _ _⟩)
def readS (s : StS) (ino pos n : Int) : List UInt8 × Int :=
 if (zsZ s ino).2 ≠ 0 then ([],(zsZ s ino).2) else if pos < 0∨n < 0∨4096 < n then ([],5) else (readC (zsZ s ino).1.1 (zsZ s ino).1.2 pos n,0)
theorem zozZ {N : Nat} {s : StS} (h : SW N s) {ino : Int} (h0 : (zsZ s ino).2=0) : ∃ d ∈ s.now.2,d.ino=ino∧(zsZ s ino).1=(d.size,d.l)∧s.off=false:=by
 unfold zsZ at h0 ⊢;split at h0
 ·simp at h0
 ·rename_i h1
  split at h0
  ·rename_i hg
   obtain ⟨d,hd,rfl⟩:=hg.2;rw [if_neg h1,if_pos hg,(getN_w h.now.1 hd).1];exact ⟨d,hd,rfl,rfl,by simpa using h1⟩
  ·simp at h0
theorem Read_c {N : Nat} {s : StS} {os : Nat} {p : AV} {H : AH} (h : StAt s os p H) (hw : SW N s) (hN : N < 900000) (ino pos n : Int) :
  ∃ R,SV encU 1 (readS s ino pos n).1 R∧∃ r H',(r = .tup [R,I (readS s ino pos n).2]∧Grew H H')∧BCall Tryz.prog 21 [.ptr os 0,I ino,I pos,I n] H r H':=by
 obtain ⟨R,hR,r,H1,⟨rfl,g1⟩,hc⟩:=zwyZ h hw (by omega) ino;have hlen:=zesZ hw ino;have oR:=SV.oneA hR;have g2:=Grew.app H1 [some (.cells [I (zsZ s ino).1.1,R])]
 by_cases hc0 : (zsZ s ino).2=0
 ·obtain ⟨d,hd,hdi,hdc,hoff⟩:=zozZ hw hc0
  by_cases hb : pos < 0∨n < 0∨4096 < n
  ·have e : readS s ino pos n=([],5):=by unfold readS; rw [if_neg (by rw [hc0]; simp),if_pos hb]
   rw [e];refine ⟨nilSl,SV.nil,zmjZ ?_⟩;unfold zmlZ;refine bC_of hc ?_;simp only [ziZ,gCS,gCZ,zbZ,nwC,zbpZ,stC' _ _ oR,zcaZ,zkuZ,hc0,ne_eq,not_true_eq_false,dFf,zpZ,zmZ,zglZ,zcrZ];have done : True∧Grew H (H1 ++ [some (AObj.cells [I (zsZ s ino).1.1,R])]):=⟨trivial,g1.trans g2⟩
   by_cases c1 : pos < 0
   ·simp only [c1,dTt,show ((true == false)=false) from rfl,zfxZ,zbZ,zoZ,if_true,zcrZ,zpZ,zbcZ]
    exact done
   ·by_cases c2 : n < 0
    ·simp only [c1,dFf,beq_self_eq_true,zbrZ,zbZ,zglZ,c2,dTt,zoZ,if_false,Bool.false_eq_true,zcrZ,show ((true == false)=false) from rfl,zfxZ,if_true,zpZ,zbcZ]
     exact done
    ·have c3 : 4096 < n:=by omega
     simp only [c1,dFf,beq_self_eq_true,zbrZ,zbZ,zglZ,c2,zoZ,if_false,Bool.false_eq_true,zcrZ,ztmZ,c3,dTt,zpZ,zbcZ];exact done
  ·have e : readS s ino pos n=(readC (zsZ s ino).1.1 (zsZ s ino).1.2 pos n,0):=by unfold readS; rw [if_neg (by rw [hc0]; simp),if_neg hb]
   rw [e];have hmc:=hw.now.1.mc d hd;obtain ⟨R2,hR2,hp⟩:=extent_Read_p hR (by omega) pos n;refine ⟨R2,hR2,zmjZ ?_⟩;unfold zmlZ;refine bC_of hc ?_;have c1 : ¬ pos < 0:=by omega
   have c2 : ¬ n < 0:=by omega
   have c3 : ¬ 4096 < n:=by omega
   simp only [ziZ,gCS,gCZ,zbZ,nwC,zbpZ,stC' _ _ oR,zcaZ,zkuZ,hc0,ne_eq,not_true_eq_false,dFf,zpZ,zmZ,zglZ,zcrZ,c1,c2,ztmZ,c3,beq_self_eq_true,zbrZ,zoZ,if_false,Bool.false_eq_true,zlZ top1,rd2];exact zyZ hp ⟨rfl,g1.trans g2⟩
 ·have e : readS s ino pos n=([],(zsZ s ino).2):=by unfold readS; rw [if_pos hc0]
  rw [e];refine ⟨nilSl,SV.nil,zmjZ ?_⟩;unfold zmlZ;refine bC_of hc ?_;simp only [ziZ,gCS,gCZ,zbZ,nwC,zbpZ,stC' _ _ oR,zcaZ,zkuZ,hc0,ne_eq,not_false_eq_true,dTt,zpZ,zbcZ];exact ⟨by trivial,g1.trans g2⟩
theorem VRs.setK {G' G'' : Cfg} (ht : Tr G' G'') {a : AV} : ∀ {cs : List AV} {vs : List Value} (k : Nat),VRs G' cs vs→(∀ b v,cs[k]? = some b→VR G' b v→VR G'' a v)→VRs G'' (cs.set k a) vs
 | [],vs,k,h,hk => by simpa only [List.set_nil] using h.tr ht
 | b :: cs,vs,0,h,hk => by
  simp only [VRs,List.set_cons_zero] at h ⊢;obtain ⟨v,r,e,h1,h2⟩:=h;exact ⟨v,r,e,hk b v rfl h1,h2.tr ht⟩
 | b :: cs,vs,k + 1,h,hk => by
  simp only [VRs,List.set_cons_succ] at h ⊢;obtain ⟨v,r,e,h1,h2⟩:=h;exact ⟨v,r,e,h1.tr ht,VRs.setK ht k h2 λb v hb=>hk b v (by simpa using hb)⟩
variable {P : Program}
theorem BCall.fzCell {f : FuncId} {args : List AV} {H X : AH} {r : AV} (h : BCall P f args H r X) {o q k off len sz : Nat} {cap : Room} {cs cs0 : List AV} (hoq : o ≠ q) (ho : X[o]? = some (some (.cells cs))) (hq : X[q]? = some (some (.cells cs0)))
  (hk : cs0[k]? = some (.sl o off len sz cap)) (hn : zdcZ ((cs.drop off).take (len * sz))=true) :
  BCall P f args H r ((X.set o none).set q (some (.cells (cs0.set k (.imm ((cs.drop off).take (len * sz)) len sz))))):=by
 intro G vs hH hv;refine (h G vs hH hv).mono ?_;rintro e w' ⟨r',X',G',v,rfl,rfl,hE,hx,hX,rfl,rfl⟩
 let L2 : Nat→Prop:=λb=>G'.L b∧b ≠ (G'.μ o).1
 have hlen : (X'.set o none).length=X'.length:=by simp
 have gets : ∀ (i : Nat) (x : AObj),(X'.set o none)[i]? = some (some x)→i ≠ o∧X'[i]? = some (some x):=by
  intro i x hi
  by_cases c : o=i
  ·subst c
   rw [gSS (gSI.1 ho).1] at hi;cases hi
  ·rw [gSN c] at hi
   exact ⟨λe=>c e.symm,hi⟩
 have hF : HR G' (X'.set o none):=hX.fewer hlen λi x hi=>(gets i x hi).2
 have hlive : ∀ (i : Nat) (x : AObj),(X'.set o none)[i]? = some (some x)→L2 (G'.μ i).1:=λi x hi=>
  ⟨hX.live i x (gets i x hi).2,λe=>(gets i x hi).1 (hX.inj i o x _ (gets i x hi).2 ho e)⟩
 have hF2 : HR (G'.less L2) (X'.set o none):=hF.less L2 (λb hb=>hb.1) hlive;have ht : Tr G' (G'.less L2):=⟨Nat.le_refl _,λ_ _=>rfl,λad vs hh=>hh.imp id λh=>⟨λhh=>h.1 (hh.imp (λz=>z.1) id),h.2⟩⟩;have hE2 : Evo G (G'.less L2):=⟨hE.os,hE.tape,hE.output,hE.size,λk hk hL=>⟨(hE.keep k hk hL).1,λhh=>(hE.keep k hk hL).2 hh.1⟩,hE.n,hE.μ,hE.K⟩
 -- the slice,told frozen
 let X0 : AH:=(List.replicate X'.length none).set o (some (.cells cs))
 have ol:=(gSI.1 ho).1
 have get0 : ∀ (i : Nat) (x : AObj),X0[i]? = some (some x)→i=o∧x = .cells cs:=by
  intro i x hi
  by_cases c : o=i
  ·subst c
   rw [gSS (by simpa using ol)] at hi;injection hi with hi;injection hi with hi;exact ⟨rfl,hi.symm⟩
  ·rw [gSN c,List.getElem?_replicate] at hi
   split at hi <;> cases hi
 have hX0 : HR G' X0:=hX.fewer (by simp [X0]) λi x hi=>by
  obtain ⟨rfl,rfl⟩:=get0 i x hi;exact ho
 have self0 : X0[o]? = some (some (.cells cs)):=gSS (by simpa using ol);obtain ⟨n0,hf⟩:=zmmZ X0 _ hn
 have hfz : frz X0 (n0 + 1) (.sl o off len sz cap)=some (.imm ((cs.drop off).take (len * sz)) len sz):=by
  simp only [frz,self0,hf n0 (Nat.le_refl _),Option.map_some]
 have hcell : ∀ b v,cs0[k]? = some b→VR G' b v→VR (G'.less L2) (.imm ((cs.drop off).take (len * sz)) len sz) v:=by
  intro b v hb hv;rw [hk] at hb;injection hb with hb;subst hb;refine frz_ok (G':=G') (G'':=G'.less L2) rfl (λb hn hh=>hn (hh.imp (λz=>z.1) id)) hX0 ?_ (n0 + 1) _ v _ hv hfz;intro i x hi hh;obtain ⟨rfl,rfl⟩:=get0 i x hi;rcases hh with hh | hh
  ·exact hh.2 rfl
  ·exact hX.dis _ (hX.live i _ ho) hh
 have hq' : (X'.set o none)[q]? = some (some (.cells cs0)):=by rw [gSN hoq]; exact hq
 have ql:=(gSI.1 hq').1;refine ⟨r',_,G'.less L2,v,rfl,rfl,hE2,hx.tr ht, ?_,rfl,rfl⟩
 have back : ∀ (i : Nat) (x : AObj),((X'.set o none).set q (some (.cells (cs0.set k (.imm ((cs.drop off).take (len * sz)) len sz)))))[i]? = some (some x)→∃ y,(X'.set o none)[i]? = some (some y):=by
  intro i x hi
  by_cases c : q=i
  ·subst c; exact ⟨_,hq'⟩
  ·rw [gSN c] at hi; exact ⟨_,hi⟩
 refine ⟨by rw [List.length_set]; exact hF2.n, ?_, ?_, ?_,hF2.lt,hF2.dis⟩
 ·intro i x hi
  by_cases c : q=i
  ·subst c
   rw [gSS ql] at hi;injection hi with hi;injection hi with hi;subst hi;obtain ⟨c,e,us,h1,h2,h3,h4,h5⟩:=hX.obj q _ hq;exact ⟨c,e,us,h1,h2,by rw [List.length_set]; exact h3,VRs.setK ht k h4 hcell,h5⟩
  ·rw [gSN c] at hi
   exact hF2.obj i x hi
 ·intro i i' x x' hi hi' he
  obtain ⟨y,hy⟩:=back i x hi;obtain ⟨y',hy'⟩:=back i' x' hi';exact hF2.inj i i' y y' hy hy' he
 ·intro i x hi
  obtain ⟨y,hy⟩:=back i x hi;exact hF2.live i y hy
end Go.Proofs.YtlhiaihmkjlaaaaGreat.Av
end
section
namespace Go.Proofs.YtlhiaihmkjlaaaaGreat.Av
open Go
end Go.Proofs.YtlhiaihmkjlaaaaGreat.Av
end
