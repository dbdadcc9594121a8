/- Texts of this proof, one behind the other, packed into one file by a program of this session. No condition. -/
import Derived.Test.YtlhiaihmkjlaaaaGreatMqK
set_option linter.unusedVariables false
set_option linter.unusedSimpArgs false
set_option maxRecDepth 100000
section
namespace Go.Proofs.YtlhiaihmkjlaaaaGreat.Av
open Go Go.RowKit
theorem RFree_c {N : Nat} {s : StS} {os : Nat} {p : AV} {H : AH} (h : DsAt s os p H) (hw : SW N s) (hN : N≤900000) : BCall Tryz.prog 110 [.ptr os 0] H (I (freeS s)) H:=by
 obtain ⟨r,H',⟨rfl,rfl⟩,hc⟩:=zsmZ (a0:=.ptr os 0) (H:=H) (K:=λr H'=>r=I (freeS s)∧H'=H) (by
  obtain ⟨a,b,c,d,pv,h⟩:=h;unfold znaZ;have hu:=ref_Used_p h.now (hw.now.sm (by omega));rw [usedI_w hw.now.1] at hu;have hs:=sumL_few hw.now;have hcap:=hw.cap;have e1 : abI .sub (I s.cap) (I (sumL s.now.2 : Int))=some (I (s.cap - sumL s.now.2)):=zffZ (by omega) (by omega);have e2 : amm imx [I (s.cap - sumL s.now.2),(I 0)]=some (I (freeS s)):=by rw [zbbqZ,imx_eq]; rfl
  simp only [zgZ,zdZ,ziZ,Nat.zero_add,znZ h.obj,zhZ,gCS,gCZ,(rdD _ _ _ _ _ _ _ _ _).1];refine bP_of hu ?_;simp only [e1,zdZ,e2];exact ⟨by trivial,by trivial⟩)
 exact hc
theorem RTrunc_c {N : Nat} {s : StS} {os : Nat} {p : AV} {H : AH} (h : DsAt s os p H) (hw : SW N s) (hN : N < 900000) (ino size : Int) :
  ∃ r H',(r=I (truncS s ino size).1∧∃ p',DsAt (truncS s ino size).2 os p' H'∧StF os p p' H H')∧BCall Tryz.prog 78 [.ptr os 0,I ino,I size] H r H':=zoiZ (by
 unfold zixZ;obtain ⟨R,hR,r,H1,⟨rfl,g1⟩,hc⟩:=Rfile_c h hw (by omega) ino;have hlen:=zqzZ hw ino;refine bC_of hc ?_;unfold truncS;generalize zwZ s ino=ct at *;have oR:=SV.oneA hR;have h1:=h.grew g1;have g2:=Grew.app H1 [some (.cells [I ct.1.1,R])];have h2:=h1.grew g2;simp only [zoZ,gCS,gCZ,zdZ,nwC,zbtZ,stC' _ _ oR,zcyZ,znvZ,zsZ]
 by_cases hc0 : ct.2=0
 ·simp only [hc0,ne_eq,not_true_eq_false,dFf,zmZ,if_false,znZ top1,rd2,zdZ]
  obtain ⟨R2,hR2,hp⟩:=zovZ (size0:=ct.1.1) hR (by omega) size;refine zyZ hp ?_;have oR2:=SV.oneA hR2;have g3:=Grew.app (H1 ++ [some (AObj.cells [I ct.1.1,R])]) [some (.cells [I (cS (zuiZ (ct.1.1,ct.1.2) size)),R2])];have h3:=h2.grew g3;have ff : StF os p p H (H1 ++ [some (AObj.cells [I ct.1.1,R])] ++ [some (.cells [I (cS (zuiZ (ct.1.1,ct.1.2) size)),R2])]):=.of_grew ((g1.trans g2).trans g3);simp only [zoZ,gCS,gCZ,zdZ,nwC,zbtZ,stC' _ _ oR2,zcyZ,zjxZ,zsZ];cases ht : zuiZ (ct.1.1,ct.1.2) size with
  | none =>
   have ht' : zuiZ ct.1 size=none:=ht;rw [ht] at h3 ff;simp only [Option.isSome_none,Bool.not_false,zbdZ,ht',if_true];exact ⟨by trivial,p,h3,ff⟩
  | some c2 =>
   have ht' : ¬ zuiZ ct.1 size=none:=by rw [show zuiZ ct.1 size=some c2 from ht]; simp
   rw [ht] at h3 ff;have e2 : abl [(I 0),(I 0),(I 0),(I 0),(B false),(.lit (.string ⟨#[]⟩)),(.lit (.string ⟨#[]⟩)),nilSl] [(0,1,(I 3)),(1,1,I ino),(3,1,I size)]=some (.agg (opA (opTr ino size) nilSl)):=rfl;simp only [Option.isSome_some,Bool.not_true,zmZ,ht',if_false,e2,zdZ];obtain ⟨r,H2,⟨rfl,p2,h4,f4⟩,hcall⟩:=Rdo_c (bv:=nilSl) (o:=opTr ino size) h3 hw (by omega) SV.nil (opTr_b ino size);exact bC_of hcall ⟨rfl,p2,h4,ff.trans f4⟩
 ·simp only [hc0,ne_eq,not_false_eq_true,dTt,zbdZ,if_true]
  exact ⟨by trivial,p,h2,.of_grew (g1.trans g2)⟩)
theorem RRead_c {N : Nat} {s : StS} {os : Nat} {p : AV} {H : AH} (h : DsAt s os p H) (hw : SW N s) (hN : N < 900000) (ino pos n : Int) :
  ∃ R,SV encU 1 (readS s ino pos n).1 R∧∃ r H',(r = .tup [R,I (readS s ino pos n).2]∧Grew H H')∧BCall Tryz.prog 50 [.ptr os 0,I ino,I pos,I n] H r H':=by
 obtain ⟨R,hR,r,H1,⟨rfl,g1⟩,hc⟩:=Rfile_c h hw (by omega) ino;have hlen:=zqzZ hw ino;have oR:=SV.oneA hR;have g2:=Grew.app H1 [some (.cells [I (zwZ s ino).1.1,R])]
 by_cases hc0 : (zwZ s ino).2=0
 ·obtain ⟨d,hd,hdi,hdc,hoff⟩:=zvgZ hw hc0
  by_cases hb : pos < 0∨n < 0∨4096 < n
  ·have e : readS s ino pos n=([],5):=by unfold readS; rw [if_neg (by rw [hc0]; simp),if_pos hb]
   rw [e];refine ⟨nilSl,SV.nil,zezZ ?_⟩;unfold zefZ;refine bC_of hc ?_;simp only [zoZ,gCS,gCZ,zdZ,nwC,zbtZ,stC' _ _ oR,zcyZ,znvZ,hc0,ne_eq,not_true_eq_false,dFf,zsZ,zmZ,zkyZ,zgsZ];have done : True∧Grew H (H1 ++ [some (AObj.cells [I (zwZ s ino).1.1,R])]):=⟨trivial,g1.trans g2⟩
   by_cases c1 : pos < 0
   ·simp only [c1,dTt,show ((true == false)=false) from rfl,zrrZ,zdZ,zbcZ,if_true,zgsZ,zsZ,zbdZ]
    exact done
   ·by_cases c2 : n < 0
    ·simp only [c1,dFf,beq_self_eq_true,zcpZ,zdZ,zkyZ,c2,dTt,zbcZ,if_false,Bool.false_eq_true,zgsZ,show ((true == false)=false) from rfl,zrrZ,if_true,zsZ,zbdZ]
     exact done
    ·have c3 : 4096 < n:=by omega
     simp only [c1,dFf,beq_self_eq_true,zcpZ,zdZ,zkyZ,c2,zbcZ,if_false,Bool.false_eq_true,zgsZ,zbbmZ,c3,dTt,zsZ,zbdZ];exact done
  ·have e : readS s ino pos n=(readC (zwZ s ino).1.1 (zwZ s ino).1.2 pos n,0):=by unfold readS; rw [if_neg (by rw [hc0]; simp),if_neg hb]
   rw [e];have hmc:=hw.now.1.mc d hd;obtain ⟨R2,hR2,hp⟩:=ref_ReadContent_p hR (by omega) pos n;refine ⟨R2,hR2,zezZ ?_⟩;unfold zefZ;refine bC_of hc ?_;have c1 : ¬ pos < 0:=by omega
   have c2 : ¬ n < 0:=by omega
   have c3 : ¬ 4096 < n:=by omega
   simp only [zoZ,gCS,gCZ,zdZ,nwC,zbtZ,stC' _ _ oR,zcyZ,znvZ,hc0,ne_eq,not_true_eq_false,dFf,zsZ,zmZ,zkyZ,zgsZ,c1,c2,zbbmZ,c3,beq_self_eq_true,zcpZ,zbcZ,if_false,Bool.false_eq_true,znZ top1,rd2];exact zyZ hp ⟨rfl,g1.trans g2⟩
 ·have e : readS s ino pos n=([],(zwZ s ino).2):=by unfold readS; rw [if_pos hc0]
  rw [e];refine ⟨nilSl,SV.nil,zezZ ?_⟩;unfold zefZ;refine bC_of hc ?_;simp only [zoZ,gCS,gCZ,zdZ,nwC,zbtZ,stC' _ _ oR,zcyZ,znvZ,hc0,ne_eq,not_false_eq_true,dTt,zsZ,zbdZ];exact ⟨by trivial,g1.trans g2⟩
theorem SV.cutB {b : List UInt8} {v : AV} (hv : SV encU 1 b v) {l k : Nat} {li ki : Int} (e1 : li=l) (e2 : ki=k) (h1 : l≤k) (h2 : k≤b.length) : ∃ r,aslS 1 v (some (I li)) (some (I ki)) none=some r∧SV encU 1 ((b.drop l).take (k - l)) r:=by
 subst e1; subst e2
 have key : ∀ H : AH,∃ r,aslS 1 v (some (I (l : Int))) (some (I (k : Int))) none=some r∧zbZ H 1 r=some (((b.drop l).take (k - l)).flatMap encU,((b.drop l).take (k - l)).length)∧(noIds v=true→noIds r=true):=by
  intro H;obtain ⟨r,s1,s2,-,-,s5⟩:=zojZ (hv.bytes H) (lo:=some (I (l : Int))) (hi:=some (I (k : Int))) (l:=l) (k:=k) (by simp [abnd]) (by simp [abnd]) h1 h2;refine ⟨r,s1, ?_,s5⟩;have hl : ((b.drop l).take (k - l)).length=k - l:=by rw [List.length_take,List.length_drop]; omega
  rw [s2,zwyZ,hl];simp only [encB_drop,zbbdZ,Nat.mul_one]
 obtain ⟨r,s1,s2,s5⟩:=key [];refine ⟨r,s1,s5 hv.1,λH=>?_⟩;obtain ⟨r2,t1,t2,-⟩:=key H;rw [s1] at t1;injection t1 with t1;rw [t1];exact t2
theorem wr_content {N : Nat} {s : StS} (hw : SW N s) {ino p : Int} {bs : List UInt8} (h0 : (zwZ s ino).2=0) (hd : (doS s (opWr ino p bs)).1=0) :
  (zwZ (doS s (opWr ino p bs)).2 ino).2=0∧∀ a,(∀ x,p≤x→x < p + bs.length→a ≠ x / 8)→(hasL (zwZ (doS s (opWr ino p bs)).2 ino).1.2 a ↔ hasL (zwZ s ino).1.2 a):=by
 obtain ⟨d,hmem,hino,hcont,hoff⟩:=zvgZ hw h0
 have hdd : (deedS s).1=true:=by
  unfold doS at hd;split at hd
  ·assumption
  ·simp at hd
 have hoff2 : (deedS s).2.off=false:=by
  unfold deedS at hdd ⊢;split at hdd
  ·cases hdd
  ·rename_i hn
   rw [if_neg hn]
   split <;> exact hoff
 have e : doS s (opWr ino p bs)=(0,{ (deedS s).2 with now:=zmrZ s.now.1 s.now.2 (opWr ino p bs),pend:=s.pend ++ [opWr ino p bs] }):=by unfold doS; rw [if_pos hdd]
 have hmay:=hw.now.1
 have ea : zmrZ s.now.1 s.now.2 (opWr ino p bs)=(s.now.1,chgD s.now.2 (opWr ino p bs)):=by
  unfold zmrZ;rw [if_pos (mayI_w.2 hmay),if_neg (by simp [opWr]),if_pos (.inl rfl)]
 have hM:=hmay.chg (o:=opWr ino p bs) (.inl rfl)
 have hin : ino ∈ (chgD s.now.2 (opWr ino p bs)).map Nd.ino:=by
  rw [chgD_inos hmay.sd];exact List.mem_map.2 ⟨d,hmem,hino⟩
 obtain ⟨d',hm',hi'⟩:=List.mem_map.1 hin;obtain ⟨g1,g2⟩:=getN_w hM hm';obtain ⟨k1,k2⟩:=getN_w hmay hmem;rw [hi'] at g1 g2;rw [hino] at k1 k2
 have ec : zwZ (doS s (opWr ino p bs)).2 ino=((d'.size,d'.l),0):=by
  rw [e];unfold zwZ;simp only [ea,hoff2];rw [if_neg (by simp),if_pos g2,g1]
 rw [ec,hcont];refine ⟨rfl,λa ha=>?_⟩;rcases mem_chgD hmay.sd hm' with q | ⟨-,f,hf,hfi,hc⟩
 ·have : d'=d:=by
   obtain ⟨z1,-⟩:=getN_w hmay q;rw [hi',k1] at z1;exact z1.symm
  rw [this]
 ·have : f=d:=by
   obtain ⟨z1,-⟩:=getN_w hmay hf;rw [hfi] at z1;have z2 : getN s.now.1 s.now.2 ino=f:=z1;rw [k1] at z2;exact z2.symm
  subst this;unfold chgC at hc;rw [if_pos (show (opWr ino p bs).kind=2 from rfl)] at hc;unfold zxkZ at hc;split at hc
  ·injection hc with hc
   by_cases hb : (opWr ino p bs).b=[]
   ·rw [if_pos hb] at hc
    have : d'.l=f.l:=(congrArg Prod.snd hc).symm;rw [show ((d'.size,d'.l) : Cont).2=d'.l from rfl,this]
   ·rw [if_neg hb] at hc
    have : d'.l=zpfZ f.l p bs:=(congrArg Prod.snd hc).symm;rw [show (((d'.size,d'.l),(0 : Int)).1).2=d'.l from rfl,this,wr_has]
    constructor
    ·rintro (q | ⟨x,x1,x2,x3⟩)
     ·exact q
     ·exact absurd x3 (ha x x1 x2)
    ·exact .inl
  ·cases hc
theorem writeC_some {N : Nat} {s : StS} (hw : SW N s) {ino pos : Int} {b : List UInt8} (h0 : (zwZ s ino).2=0) : (zxkZ ((zwZ s ino).1.1,(zwZ s ino).1.2) pos b).isSome=decide (fitsW pos b.length):=by
 obtain ⟨d,hmem,hino,hcont,hoff⟩:=zvgZ hw h0;have hmc:=hw.now.1.mc d hmem;rw [hcont];unfold zxkZ fitsW
 by_cases h : 0≤pos∧b.length≤4096∧pos≤1099511627776 - b.length
 ·rw [if_pos ⟨hmc,h⟩,decide_eq_true h]; rfl
 ·rw [if_neg (λq=>h q.2),decide_eq_false h]; rfl
theorem cuts_nil {f : Nat} {p n : Int} (h : cutsS f p n 8=[]) (hf : n.toNat≤f) : n≤0:=by
 cases f with
 | zero => omega
 | succ f =>
  unfold cutsS at h;split at h
  ·simp at h
  ·omega
theorem cuts_cons {f : Nat} {p n : Int} {q : Sp} {r : List Sp} (h : cutsS f p n 8=q :: r) (hp : 0≤p) : 0 < n∧q=⟨p,min n (8 - p % 8)⟩∧∃ g,f=g + 1∧r=cutsS g (p + min n (8 - p % 8)) (n - min n (8 - p % 8)) 8:=by
 cases f with
 | zero => simp [cutsS] at h
 | succ f =>
  unfold cutsS at h;split at h
  ·rename_i hn
   injection h with h1 h2;exact ⟨hn,h1.symm,f,rfl,h2.symm⟩
  ·simp at h
theorem RWrite_c {N : Nat} {s : StS} {os : Nat} {p v : AV} {H : AH} (h : DsAt s os p H) (hw : SW N s) (ino pos : Int) {b : List UInt8} (hN : N + 9 * b.length < 900000) (hv : SV encU 1 b v) :
  ∃ r H',(r = .tup [I (zpmZ s ino pos b).1.1,I (zpmZ s ino pos b).1.2]∧∃ p',DsAt (zpmZ s ino pos b).2 os p' H'∧StF os p p' H H')∧BCall Tryz.prog 77 [.ptr os 0,I ino,I pos,v] H r H':=zrkZ (by
 unfold zmeZ;obtain ⟨R,hR,r,H1,⟨rfl,g1⟩,hc⟩:=Rfile_c h hw (by omega) ino;have hlen:=zqzZ hw ino;refine bC_of hc ?_;unfold zpmZ;have hsome:=writeC_some (pos:=pos) (b:=b) hw (ino:=ino);have h00 : (zwZ s ino).2=0→(zwZ s ino).2=0:=id;have hkeep : zwZ s ino=zwZ s ino:=rfl;generalize hct : zwZ s ino=ct at *;have oR:=SV.oneA hR;have h1:=h.grew g1;have g2:=Grew.app H1 [some (.cells [I ct.1.1,R])];have h2:=h1.grew g2;have alv : alnS v=some (I b.length):=hv.len;simp only [zoZ,gCS,gCZ,zdZ,nwC,zbtZ,stC' _ _ oR,zcyZ,znvZ,zsZ]
 by_cases hc0 : ct.2=0
 ·obtain ⟨R2,hR2,hpW⟩:=zszZ (size:=ct.1.1) hR (by omega) pos hv (by omega)
  have oR2:=SV.oneA hR2;rw [hsome hc0] at hpW;simp only [hc0,ne_eq,not_true_eq_false,dFf,zmZ,if_false,znZ top1,rd2,zdZ];refine zyZ hpW ?_;generalize cS (zxkZ (ct.1.1,ct.1.2) pos b)=sz;have g3:=Grew.app (H1 ++ [some (AObj.cells [I ct.1.1,R])]) [some (.cells [I sz,R2])];have h3:=h2.grew g3;have ff : StF os p p H (H1 ++ [some (AObj.cells [I ct.1.1,R])] ++ [some (.cells [I sz,R2])]):=.of_grew ((g1.trans g2).trans g3);simp only [zoZ,gCS,gCZ,zdZ,nwC,zbtZ,stC' _ _ oR2,zcyZ,zjxZ,zsZ]
  by_cases hf : fitsW pos b.length
  ·have hf' : 0≤pos∧b.length≤4096∧pos≤1099511627776 - b.length:=hf
   have e1 : abl [(I 0),(I 0)] [(0,1,I pos),(1,1,I (b.length : Int))]=some (.agg (encSp ⟨pos,b.length⟩)):=rfl;obtain ⟨V,hV,hp⟩:=ref1_Parts_p ⟨pos,b.length⟩ (unit:=8) (by omega);simp only [hf,dTt,Bool.not_true,zmZ,not_true_eq_false,if_false,alv,zdZ,e1];refine zyZ hp ?_
   have hpe : zbasZ ⟨pos,b.length⟩ 8=cutsS b.length pos b.length 8:=by
    unfold zbasZ;rw [if_pos ⟨⟨by unfold May; simp only; omega,by unfold May; simp only; omega,by simp only; omega⟩,by simp only; omega,by omega⟩]
    show cutsS ((b.length : Int)).toNat pos b.length 8=_
    rw [show ((b.length : Int)).toNat=b.length by omega]
   have hin : ∀ q ∈ zbasZ ⟨pos,b.length⟩ 8,pos≤q.pos∧0 < q.len∧q.len≤8∧q.pos + q.len≤pos + b.length:=λq hq=>parts_in hf hq
   have hpl:=parts_len hf;generalize zbasZ ⟨pos,b.length⟩ 8=L at hV hin hpl hpe;have hosH : os < H.length:=h.os_lt;have hpH:=h.p_lt;have hH1 : H.length≤H1.length:=g1.1;generalize (H1 ++ [some (AObj.cells [I ct.1.1,R])] ++ [some (AObj.cells [I sz,R2])])=H0 at h3 ff;refine zlpZ (λm x0 x1 x3 x14 x15 x16 H'=>∃ (k : Nat) (s' : StS) (p' : AV) (done : Int) (f : Nat),k + m=L.length∧x0 = .ptr os 0∧x1=I ino∧v=x3∧V=x14∧x15=I done∧x16=I k∧DsAt s' os p' H'∧StF os p p' H H'∧SW (N + 9 * k) s'∧0≤done∧done≤b.length∧L.drop k=cutsS f (pos + done) (b.length - done) 8∧(b.length - done).toNat≤f∧(zwZ s' ino).2=0∧(b.length≤done∨∀ a,(pos + done) / 8≤a→(hasL (zwZ s' ino).1.2 a ↔ hasL ct.1.2 a))∧wrS ct.1.2 ino pos b (L.drop k) s'=wrS ct.1.2 ino pos b L s) ?_ L.length
    ⟨0,s,p,0,b.length,by omega,rfl,rfl,rfl,rfl,rfl,rfl,h3,ff,hw,by omega,by omega,by simpa using hpe,by omega,by rw [hct]; exact hc0,.inr (λa _=>by rw [hct]),rfl⟩
   rintro m x0 x1 x3 x14 x15 x16 H2 R3 hR3 ⟨k,s',p',done,f,hk,rfl,rfl,rfl,rfl,rfl,rfl,hs',fs',hws',hd0,hd1,hdrop,hfl,hcs,hhas,heq⟩;rw [← heq];unfold zfzZ;obtain ⟨a,b',c,d,pv,hsc⟩:=id hs';have sm:=hws'.now.sm (by omega);rcases Nat.lt_or_ge k L.length with hlt | hge
   ·have hx:=gEG hlt
    have hq:=hin L[k] (List.getElem_mem hlt);generalize L[k]=q at hx hq;obtain ⟨q1,q2,q3,q4⟩:=hq;have kI : (k : Int) < (L.length : Int):=by omega
    have hdr : L.drop k=q :: L.drop (k + 1):=zseZ hx;rw [hdr] at hdrop ⊢;obtain ⟨c1,c2,g,rfl,c3⟩:=cuts_cons hdrop.symm (by omega);have hqp : q.pos=pos + done:=by rw [c2]
    have hql : q.len=min (b.length - done) (8 - (pos + done) % 8):=by rw [c2]
    have hmod:=Int.emod_nonneg (pos + done) (show (8 : Int) ≠ 0 by omega);generalize hW : wrS ct.1.2 ino pos b (q :: L.drop (k + 1)) s'=W
    -- what is there now
    obtain ⟨dd,hmem,hdi,hcont,hoff⟩:=zvgZ hws' hcs;obtain ⟨RG,hRG,hpG⟩:=ref_Get_p hsc.now sm ino;obtain ⟨k1,k2⟩:=getN_w hws'.now.1 hmem;rw [hdi] at k1 k2;rw [k1] at hRG hpG;rw [decide_eq_true k2] at hpG;have oRG:=SV.oneA hRG;have hsrt:=zbbpZ (hws'.now.1.mc dd hmem).2.2;have hll:=hws'.now.2 dd hmem;have g5:=Grew.app H2 [some (.cells [I dd.size,RG])];have rq : ald false 1 (H2 ++ [some (AObj.cells [I dd.size,RG])]) (.ip (encSp q ++ (L.drop (k + 1)).flatMap encSp))=some (I q.pos):=rfl;have e3 : abI .quo (I q.pos) (I 8)=some (I (q.pos / 8)):=abI_quo (by omega) (by omega) (by omega);have sh0 : zfZ 0 (.ip (encSp q ++ (L.drop (k + 1)).flatMap encSp))=some (.ip (encSp q ++ (L.drop (k + 1)).flatMap encSp)):=rfl;have sh1 : zfZ 1 (.ip (encSp q ++ (L.drop (k + 1)).flatMap encSp))=some (.ip (I q.len :: (L.drop (k + 1)).flatMap encSp)):=rfl;simp only [hV.len,zkyZ,zdZ,zsZ,kI,dTt,zbdZ,zgZ,ziZ,Nat.zero_add,znZ hsc.obj,(rdD _ _ _ _ _ _ _ _ _).1];refine zyZ hpG ?_;simp only [zoZ,gCS,gCZ,zdZ,nwC,zbtZ,stC' _ _ oRG,zcyZ,znZ top1,rd2,hV.idx zbboZ hx rfl,sh0,rq,e3];refine bP_of (ref_find_p (size:=dd.size) hRG hsrt (by omega) (q.pos / 8)) ?_;have hs5:=hs'.grew g5;have fs5 : StF os p p' H (H2 ++ [some (AObj.cells [I dd.size,RG])]):=fs'.grew g5
    have hhq : hasL dd.l (q.pos / 8) ↔ hasL ct.1.2 (q.pos / 8):=by
     rcases hhas with z | z
     ·omega
     ·have:=z (q.pos / 8) (by rw [hqp]; exact Int.le_refl _)
      rwa [hcont] at this
    have efind : (if hasL dd.l (q.pos / 8) then (posL dd.l (q.pos / 8) : Int) else -1) < 0 ↔ ¬ hasL ct.1.2 (q.pos / 8):=by
     rw [← hhq]
     by_cases z : hasL dd.l (q.pos / 8)
     ·rw [if_pos z]; constructor
      ·intro y; omega
      ·intro y; exact absurd z y
     ·rw [if_neg z]; simp [z]
    generalize (H2 ++ [some (AObj.cells [I dd.size,RG])])=H5 at hs5 fs5;have e4 : abI .add (I done) (I q.len)=some (I (done + q.len)):=zuZ (by omega) (by omega);have rl : ∀ HH : AH,ald false 1 HH (.ip (I q.len :: (L.drop (k + 1)).flatMap encSp))=some (I q.len):=λ_=>rfl
    have deed : ¬ (¬ hasL ct.1.2 (q.pos / 8)∧freeS s'=0)→bO (ald false 1 H5 (.ip (encSp q ++ (L.drop (k + 1)).flatMap encSp))) (λv30=>bO (zfZ 1 (.ip (encSp q ++ (L.drop (k + 1)).flatMap encSp))) λv32=>bO (ald false 1 H5 v32) λv33=>bO (abI .add (I done) v33) λv34=>bO (aslS 1 v (some (I done)) (some v34) none) λv35=>
      bO (abl [(I 0),(I 0),(I 0),(I 0),(B false),(.lit (.string ⟨#[]⟩)),(.lit (.string ⟨#[]⟩)),nilSl] [(0,1,(I 2)),(1,1,I ino),(2,1,v30),(7,1,v35)]) λv36=>bC (BCall Tryz.prog 100 [.ptr os 0,v36] H5) λv37 H38=>bO (abI .neq v37 (I 0)) λv39=>bB v39 λt40=>bI t40
       (AV.tup [I done,v37] = .tup [I W.1.1,I W.1.2]∧∃ p',DsAt W.2 os p' H38∧StF os p p' H H38)
       (bO (zfZ 1 (.ip (encSp q ++ (L.drop (k + 1)).flatMap encSp))) λv42=>bO (ald false 1 H38 v42) λv43=>bO (abI .add (I done) v43) λv44=>bO (abI .add (I k) (I 1)) λv45=>R3 [.ptr os 0,I ino,v,V,v44,v45] H38)):=by
     intro hno;obtain ⟨rb,s1,s2⟩:=hv.cutB (li:=done) (ki:=done + q.len) (l:=done.toNat) (k:=(done + q.len).toNat) (by omega) (by omega) (by omega) (by omega)
     have hpb : (b.drop done.toNat).take ((done + q.len).toNat - done.toNat)=partB b pos q:=by
      unfold partB;rw [hqp,show (pos + done - pos).toNat=done.toNat by omega,show (done + q.len).toNat - done.toNat=q.len.toNat by omega]
     rw [hpb] at s2;have hpl2:=partB_len (b:=b) (pos:=pos) (q:=q) ⟨q1,q2,q3,q4⟩
     have e5 : abl [(I 0),(I 0),(I 0),(I 0),(B false),(.lit (.string ⟨#[]⟩)),(.lit (.string ⟨#[]⟩)),nilSl] [(0,1,(I 2)),(1,1,I ino),(2,1,I q.pos),(7,1,rb)]=some (.agg (opA (opWr ino q.pos (partB b pos q)) rb)):=by
      have:=SV.oneA s2
      simp [abl,opA,opWr,zzZ this];rfl
     have rq5 : ald false 1 H5 (.ip (encSp q ++ (L.drop (k + 1)).flatMap encSp))=some (I q.pos):=rfl;simp only [hV.idx zbboZ hx rfl,zdZ,sh0,rq5,sh1,rl,e4,s1,e5];obtain ⟨r6,H6,⟨rfl,p6,h6,f6⟩,hcall⟩:=Rdo_c (o:=opWr ino q.pos (partB b pos q)) hs5 hws' (by omega) s2 (opWr_b (by omega));have hws6:=doS_w (o:=opWr ino q.pos (partB b pos q)) hws' (opWr_b (by omega));refine bC_of hcall ?_;simp only [znvZ,zdZ,zsZ]
     by_cases hd : (doS s' (opWr ino q.pos (partB b pos q))).1=0
     ·have hwt : wt (opWr ino q.pos (partB b pos q))≤9:=by
       show 1 + (partB b pos q).length + (if (2 : Int)=4 then 4098 else 0)≤9
       rw [if_neg (by omega)]; omega
      obtain ⟨w1,w2⟩:=wr_content hws' hcs hd;simp only [hd,ne_eq,not_true_eq_false,dFf,zmZ,hV.idx zbboZ hx rfl,zdZ,sh1,rl,e4,zuZ (a:=k) (b:=1) (by omega) (by omega)];refine hR3 (m - 1) _ _ _ _ _ _ _ (by omega) ⟨k + 1,_,p6,done + q.len,g,by omega,rfl,rfl,rfl,rfl,rfl,by simp,h6,fs5.trans f6,hws6.mono (by omega),by omega,by omega, ?_,by omega,w1, ?_, ?_⟩
      ·rw [c3,← hql]
       congr 1 <;> omega
      ·rcases Nat.lt_or_ge (done + q.len).toNat b.length with z | z
       ·refine .inr λa ha=>?_
        have hdiv : (pos + (done + q.len)) / 8=q.pos / 8 + 1:=by omega
        rw [w2 a (λx x1 x2=>by rw [hpl2] at x2; omega)];rcases hhas with y | y
        ·omega
        ·exact y a (by omega)
       ·exact .inl (by omega)
      ·rw [← heq,hdr]
       conv => rhs; unfold wrS
       rw [if_neg hno,if_neg (by rw [hd]; simp)]
     ·have eW : W=((q.pos - pos,(doS s' (opWr ino q.pos (partB b pos q))).1),(doS s' (opWr ino q.pos (partB b pos q))).2):=by
       rw [← hW]; unfold wrS; rw [if_neg hno,if_pos hd]
      rw [eW];simp only [hd,ne_eq,not_false_eq_true,dTt,zbdZ];exact ⟨by rw [show q.pos - pos=done by omega],p6,h6,fs5.trans f6⟩
    simp only [zkyZ,zdZ,zgsZ,decide_eq_decide.2 efind]
    by_cases hh : hasL ct.1.2 (q.pos / 8)
    ·simp only [hh,not_true_eq_false,dFf,show ((false == true)=false) from rfl,zrrZ,gC_false,zdZ,zbcZ,if_false,Bool.false_eq_true,zsZ,zmZ]
     exact deed (λx=>x.1 hh)
    ·simp only [hh,not_false_eq_true,dTt,beq_self_eq_true,zcpZ,gC_true,zdZ]
     refine bC_of (RFree_c hs5 hws' (by omega)) ?_;simp only [zbbsZ,zdZ,zbcZ,if_true,zsZ]
     by_cases hfr : freeS s'=0
     ·have eW : W=((q.pos - pos,4),s'):=by
       rw [← hW]; unfold wrS; rw [if_pos ⟨hh,hfr⟩]
      rw [eW];simp only [hfr,dTt,zbdZ];exact ⟨by rw [show q.pos - pos=done by omega],p',hs5,fs5⟩
     ·simp only [hfr,dFf,zmZ]
      exact deed (λx=>hfr x.2)
   ·have kI : ¬ (k : Int) < (L.length : Int):=by omega
    have hdr : L.drop k=[]:=List.drop_of_length_le hge;rw [hdr] at hdrop ⊢
    have:=cuts_nil hdrop.symm hfl
    have hdn : done=b.length:=by omega
    unfold wrS;simp only [zkyZ,zdZ,zsZ,kI,dFf,zmZ,hV.len,hdn];exact ⟨by trivial,p',hs',fs'⟩
  ·simp only [hf,dFf,Bool.not_false,zbdZ,not_false_eq_true,if_true]
   exact ⟨by trivial,p,h3,ff⟩
 ·simp only [hc0,ne_eq,not_false_eq_true,dTt,zbdZ,if_true]
  exact ⟨by trivial,p,h2,.of_grew (g1.trans g2)⟩)
theorem wrS_ok {c : List Ext} {ino pos : Int} {b : List UInt8} : ∀ {l : List Sp} {s : StS},(wrS c ino pos b l s).1.2=0→(wrS c ino pos b l s).1.1=b.length
 | [],s,h => rfl
 | q :: r,s,h => by
  unfold wrS at h ⊢
  split
  ·rename_i c1; rw [if_pos c1] at h; simp at h
  ·rename_i c1
   rw [if_neg c1] at h
   split
   ·rename_i c2; rw [if_pos c2] at h; exact absurd h c2
   ·rename_i c2; rw [if_neg c2] at h; exact wrS_ok h
theorem writeS_ok {s : StS} {ino pos : Int} {b : List UInt8} (h : (zpmZ s ino pos b).1.2=0) : (zpmZ s ino pos b).1.1=b.length:=by
 unfold zpmZ at h ⊢
 split
 ·rename_i c1; rw [if_pos c1] at h; exact absurd h c1
 ·rename_i c1
  rw [if_neg c1] at h
  split
  ·rename_i c2; rw [if_pos c2] at h; simp at h
  ·rename_i c2; rw [if_neg c2] at h; exact wrS_ok h
def zchZ (s : StS) (ino pos : Int) (b : List UInt8) : (Int × Int) × StS:=if b=[] then ((0,0),s) else zpmZ s ino pos b
theorem piecesS_n (s : StS) (ino pos : Int) (b : List UInt8) : 0≤(zchZ s ino pos b).1.1∧(zchZ s ino pos b).1.1≤b.length:=by
 unfold zchZ
 split
 ·simp
 ·exact writeS_n s ino pos b
theorem piecesS_w {N : Nat} {s : StS} (h : SW N s) (ino pos : Int) (b : List UInt8) : SW (N + 9 * b.length) (zchZ s ino pos b).2:=by
 unfold zchZ
 split
 ·exact h.mono (by omega)
 ·exact writeS_w h ino pos b
theorem chunk_one {b : List UInt8} (h1 : b ≠ []) (h2 : b.length≤4096) : zufZ b=[b]:=by
 have hl:=List.length_pos_iff.2 h1;have hn : chN b.length 4096=1:=by unfold chN; omega
 unfold zufZ;rw [hn]
 show [(b.drop (0 * 4096)).take (min 4096 (b.length - 0 * 4096))]=[b]
 rw [Nat.zero_mul,List.drop_zero,Nat.sub_zero,Nat.min_eq_right h2,List.take_length]
theorem pcs_chunk {ino : Int} {b : List UInt8} {r : List (List UInt8)} {s : StS} {a m : Int} (hb : b.length≤4096) :
  pcs ino (zufZ b ++ r) s a m=if (zchZ s ino a b).1.2=0 then pcs ino r (zchZ s ino a b).2 (a + (zchZ s ino a b).1.1) (m + (zchZ s ino a b).1.1) else (((zchZ s ino a b).2,a + (zchZ s ino a b).1.1,m + (zchZ s ino a b).1.1),(zchZ s ino a b).1.2):=by
 by_cases h : b=[]
 ·subst h
  have e : zufZ []=[]:=rfl;have p : zchZ s ino a []=((0,0),s):=if_pos rfl;rw [e,p,List.nil_append];simp
 ·have p : zchZ s ino a b=zpmZ s ino a b:=if_neg h
  rw [chunk_one h hb,p,List.singleton_append]
  conv => lhs; unfold pcs
def write2 (s : StS) (ino at' : Int) (A C : List UInt8) : (Int × Int) × StS :=
 if (zchZ s ino at' A).1.2=0 then (((zchZ s ino at' A).1.1 + (zchZ (zchZ s ino at' A).2 ino (at' + (zchZ s ino at' A).1.1) C).1.1,(zchZ (zchZ s ino at' A).2 ino (at' + (zchZ s ino at' A).1.1) C).1.2),(zchZ (zchZ s ino at' A).2 ino (at' + (zchZ s ino at' A).1.1) C).2)
 else zchZ s ino at' A
theorem pcs_two {ino : Int} {A C : List UInt8} {s : StS} {a : Int} (h1 : A.length≤4096) (h2 : C.length≤4096) : pcs ino (zufZ A ++ (zufZ C ++ [])) s a 0=(((write2 s ino a A C).2,a + (write2 s ino a A C).1.1,(write2 s ino a A C).1.1),(write2 s ino a A C).1.2):=by
 rw [pcs_chunk h1];unfold write2
 by_cases c1 : (zchZ s ino a A).1.2=0
 ·rw [if_pos c1,if_pos c1,pcs_chunk h2]
  by_cases c2 : (zchZ (zchZ s ino a A).2 ino (a + (zchZ s ino a A).1.1) C).1.2=0
  ·rw [if_pos c2]
   unfold pcs;simp only [Int.zero_add,Int.add_assoc,c2]
  ·rw [if_neg c2]
   simp only [Int.zero_add,Int.add_assoc]
 ·rw [if_neg c1,if_neg c1]
  simp only [Int.zero_add]
theorem RPieces_c {N : Nat} {s : StS} {os : Nat} {p v : AV} {H : AH} (h : DsAt s os p H) (hw : SW N s) (ino pos : Int) (hp : -9223372036854775808≤pos∧pos≤9223372036854775807) {b : List UInt8} (hb : b.length≤4096) (hN : N + 9 * b.length < 900000) (hv : SV encU 1 b v) :
  ∃ r H',(r = .tup [I (zchZ s ino pos b).1.1,I (zchZ s ino pos b).1.2]∧∃ p',DsAt (zchZ s ino pos b).2 os p' H'∧StF os p p' H H')∧BCall Tryz.prog 48 [.ptr os 0,I ino,I pos,v] H r H':=zqiZ (by
 unfold zkoZ;refine zlzZ (λm x0 x1 x2 x3 x10 H'=>x0 = .ptr os 0∧x1=I ino∧x2=I pos∧v=x3∧((m=1∧x10=I 0∧H=H')∨(m=0∧x10=I (b.length : Int)∧(zchZ s ino pos b).1=((b.length : Int),0)∧∃ p',DsAt (zchZ s ino pos b).2 os p' H'∧StF os p p' H H'))) ?_ 1 ⟨rfl,rfl,rfl,rfl,.inl ⟨rfl,rfl,rfl⟩⟩;rintro m x0 x1 x2 x3 x10 H2 R hR ⟨rfl,rfl,rfl,rfl,⟨rfl,rfl,rfl⟩ | ⟨rfl,rfl,he,p',hs,hf⟩⟩
 ·unfold zdiZ
  simp only [hv.len,zdZ,zkyZ,zsZ]
  by_cases hz : b=[]
  ·have e : zchZ s ino pos b=((0,0),s):=if_pos hz
   have hl : ¬ (0 : Int) < (b.length : Int):=by rw [hz]; simp
   simp only [hl,dFf,zmZ,e];exact ⟨by trivial,p,h,.refl _ _ _⟩
  ·have e : zchZ s ino pos b=zpmZ s ino pos b:=if_neg hz
   have hpos:=List.length_pos_iff.2 hz;have hl : (0 : Int) < (b.length : Int):=by omega
   have e1 : abI .add (I pos) (I 0)=some (I pos):=by rw [zuZ (by omega) (by omega),Int.add_zero]
   have e2 : abI .add (I 0) (I 4096)=some (I 4096):=rfl;have e3 : amm imn [I 4096,I (b.length : Int)]=some (I (b.length : Int)):=by rw [zbbqZ,imn_eq]; congr 3; omega
   obtain ⟨rb,s1,s2⟩:=hv.cutB (li:=0) (ki:=(b.length : Int)) (l:=0) (k:=b.length) rfl rfl (by omega) (Nat.le_refl _);rw [List.drop_zero,Nat.sub_zero,List.take_length] at s2;obtain ⟨r,H3,⟨rfl,p',hs,hf⟩,hc⟩:=RWrite_c h hw ino pos hN s2;have hn:=writeS_n s ino pos b;have e4 : abI .add (I 0) (I (zpmZ s ino pos b).1.1)=some (I (zpmZ s ino pos b).1.1):=by rw [zuZ (by omega) (by omega),Int.zero_add]
   simp only [hl,dTt,zbdZ,e1,e2,zdZ,e3,s1];refine bC_of hc ?_;simp only [zoZ,gCS,gCZ,zdZ,e4,znvZ,zsZ]
   by_cases hcode : (zpmZ s ino pos b).1.2=0
   ·have hok:=writeS_ok hcode
    simp only [hcode,ne_eq,not_true_eq_false,dFf,zmZ];refine hR 0 _ _ _ _ _ _ (by omega) ⟨rfl,rfl,rfl,rfl,.inr ⟨rfl,by rw [hok],by rw [e]; exact Prod.ext hok hcode,p',by rw [e]; exact hs,hf⟩⟩
   ·simp only [hcode,ne_eq,not_false_eq_true,dTt,zbdZ,e]
    exact ⟨by trivial,p',hs,hf⟩
 ·unfold zdiZ
  have hl : ¬ (b.length : Int) < (b.length : Int):=by omega
  simp only [hv.len,zdZ,zkyZ,zsZ,hl,dFf,zmZ];exact ⟨by rw [he],p',hs,hf⟩)
theorem readC_len {size : Int} {l : List Ext} {pos n : Int} (hn : n≤4096) : (readC size l pos n).length≤4096:=by
 unfold readC
 split
 ·rw [zrzZ]; omega
 ·simp
theorem readS_len (s : StS) (ino pos n : Int) : (readS s ino pos n).1.length≤4096:=by
 unfold readS
 split
 ·simp
 ·split
  ·simp
  ·exact readC_len (by omega)
theorem CReadG_c {N : Nat} {s : StS} {fo os : Nat} {p : AV} {ino at' : Int} {H : AH} (h : FAt fo os ino at' H) (hs : StAt s os p H) (hw : SW N s) (hN : N < 900000) (hne : fo ≠ os) (n : Int) (ha : 0≤at'∧at'≤9223372036854771000) :
  ∃ R,SV encU 1 (readS s ino at' n).1 R∧∃ r H',(r = .tup [R,I (readS s ino at' n).2]∧FAt fo os ino (at' + (readS s ino at' n).1.length) H'∧But fo H H')∧BCall Tryz.prog 49 [.ptr fo 0,I n] H r H':=by
 obtain ⟨R,hR,r,H1,⟨rfl,g1⟩,hc⟩:=Read_c hs hw hN ino at' n;have hlen:=readS_len s ino at' n;refine ⟨R,hR,zqoZ ?_⟩;unfold FAt at h ⊢;unfold zqmZ;simp only [zgZ,zdZ,ziZ,Nat.zero_add,znZ h,zhZ,gCS,gCZ];refine bC_of hc ?_;have h1:=g1.cells h;have hl:=(gSI.1 h1).1;have e0 : abI .add (I at') (I (readS s ino at' n).1.length)=some (I (at' + (readS s ino at' n).1.length)):=zuZ (by omega) (by omega);have e1 : ast 1 H1 (.ptr fo 0) (I (at' + (readS s ino at' n).1.length))=some (H1.set fo (some (.cells [I (at' + (readS s ino at' n).1.length),.ptr os 0,I ino]))):=fld h1 (by simp) rfl;simp only [zoZ,gCS,gCZ,zdZ,zgZ,ziZ,Nat.zero_add,znZ h1,zhZ,hR.len,e0,e1,zcyZ];exact ⟨by trivial,gSS hl,by rw [List.length_set]; exact g1.1,λj hj hne=>by rw [gSN (Ne.symm hne)]; exact g1.2 j hj⟩
theorem SeekG_c {fo os : Nat} {ino at' : Int} {H : AH} (h : FAt fo os ino at' H) (n : Int) : ∃ r H',(r=B (decide (May n))∧FAt fo os ino (if May n then n else at') H'∧But fo H H')∧BCall Tryz.prog 51 [.ptr fo 0,I n] H r H':=zohZ (by
 have h0:=h;unfold FAt at h;unfold zmiZ;refine zyZ (off_May_p n) ?_;have hl:=(gSI.1 h).1
 by_cases hm : May n
 ·have e1 : ast 1 H (.ptr fo 0) (I n)=some (H.set fo (some (.cells [I n,.ptr os 0,I ino]))):=fld h (by simp) rfl
  simp only [hm,dTt,zjxZ,Bool.not_true,zdZ,zsZ,zmZ,zgZ,ziZ,Nat.zero_add,e1,zcyZ,if_true];exact ⟨by trivial,gSS hl,by simp,λj _ hne=>gSN (Ne.symm hne)⟩
 ·simp only [hm,dFf,zjxZ,Bool.not_false,zdZ,zsZ,zbdZ,if_false]
  exact ⟨by trivial,h0,Nat.le_refl _,λj _ _=>rfl⟩)
structure Trio (s t : StS) (os od fo : Nat) (ino at' : Int) (p q : AV) (H : AH) : Prop where
 d : Duo s t os od p q H
 f : FAt fo os ino at' H
 fs : fo ≠ os
 fd : fo ≠ od
 fp : fo ∉ idS p
 fq : fo ∉ idS q
structure Obj (x : Nat) (cs : List AV) (os od fo : Nat) (p q : AV) (H : AH) : Prop where
 at' : H[x]? = some (some (.cells cs))
 n1 : x ≠ os
 n2 : x ≠ od
 n3 : x ≠ fo
 n4 : x ∉ idS p
 n5 : x ∉ idS q
section
variable {s s' t t' : StS} {os od fo x : Nat} {ino a a2 : Int} {p p' q q' : AV} {H H' : AH} {cs : List AV}
theorem Trio.grew (h : Trio s t os od fo ino a p q H) (g : Grew H H') : Trio s t os od fo ino a p q H':=⟨h.d.grew g,g.cells h.f,h.fs,h.fd,h.fp,h.fq⟩
theorem Obj.grew (h : Obj x cs os od fo p q H) (g : Grew H H') : Obj x cs os od fo p q H':=⟨g.cells h.at',h.n1,h.n2,h.n3,h.n4,h.n5⟩
theorem Trio.write (h : Trio s t os od fo ino a p q H) (k : StAt s' os p' H') (kf : H'[fo]? = some (some (.cells [I a2,.ptr os 0,I ino]))) (f : CwF os fo H.length p p' H H') : Trio s' t os od fo ino a2 p' q H':=by
 have l1:=h.d.D.os_lt;have l2:=h.d.D.p_lt;have l3:=(gSI.1 h.f).1
 exact ⟨⟨k,h.d.D.keep (f.same od l1 (Ne.symm h.d.ne) (Ne.symm h.fd) (.inl (by omega)) h.d.pd) λi hi=>f.same i (l2 i hi) (λe=>h.d.dp (e ▸ hi)) (λe=>h.fq (e ▸ hi)) (.inl (by have:=l2 i hi; omega)) (λz=>h.d.pq i z hi),h.d.ne,λz=>(f.ids od z).elim h.d.pd (λz=>by omega),h.d.dp,λi hi z=>(f.ids i hi).elim (λy=>h.d.pq i y z) (λy=>by have:=l2 i z; omega)⟩,
  kf,h.fs,h.fd,λz=>(f.ids fo z).elim h.fp (λz=>by omega),h.fq⟩
theorem Obj.write (h : Obj x cs os od fo p q H) (f : CwF os fo H.length p p' H H') : Obj x cs os od fo p' q H':=by
 have l3:=(gSI.1 h.at').1;exact ⟨(f.same x l3 h.n1 h.n3 (.inl (by omega)) h.n4).trans h.at',h.n1,h.n2,h.n3,λz=>(f.ids x z).elim h.n4 (λz=>by omega),h.n5⟩
theorem Trio.doc (h : Trio s t os od fo ino a p q H) (k : DsAt t' od q' H') (f : StF od q q' H H') : Trio s t' os od fo ino a p q' H':=by
 have l3:=(gSI.1 h.f).1;exact ⟨h.d.stepD k f,(f.same fo l3 h.fd h.fq).trans h.f,h.fs,h.fd,h.fp,λz=>(f.ids fo z).elim h.fq (λz=>by omega)⟩
theorem Obj.doc (h : Obj x cs os od fo p q H) (f : StF od q q' H H') : Obj x cs os od fo p q' H':=by
 have l3:=(gSI.1 h.at').1;exact ⟨(f.same x l3 h.n2 h.n5).trans h.at',h.n1,h.n2,h.n3,h.n4,λz=>(f.ids x z).elim h.n5 (λz=>by omega)⟩
theorem Trio.but (h : Trio s t os od fo ino a p q H) (k : FAt fo os ino a2 H') (b : But fo H H') : Trio s t os od fo ino a2 p q H':=by
 have l1:=h.d.D.os_lt;have l2:=h.d.D.p_lt;exact ⟨⟨b.st h.d.P h.fs h.fp,h.d.D.keep (b.same od l1 (Ne.symm h.fd)) λi hi=>b.same i (l2 i hi) (λe=>h.fq (e ▸ hi)),h.d.ne,h.d.pd,h.d.dp,h.d.pq⟩,k,h.fs,h.fd,h.fp,h.fq⟩
theorem Obj.but (h : Obj x cs os od fo p q H) (b : But fo H H') : Obj x cs os od fo p q H':=⟨(b.same x (gSI.1 h.at').1 h.n3).trans h.at',h.n1,h.n2,h.n3,h.n4,h.n5⟩
theorem Trio.obj (h : Trio s t os od fo ino a p q H) (cs : List AV) : Obj H.length cs os od fo p q (H ++ [some (.cells cs)]):=by
 have l1:=h.d.D.os_lt;have l2:=h.d.D.p_lt;have l3:=(gSI.1 h.f).1;have l4:=h.d.P.os_lt;have l5:=h.d.P.p_lt;exact ⟨top1,by omega,by omega,by omega,λz=>by have:=l5 _ z; omega,λz=>by have:=l2 _ z; omega⟩
end
end Go.Proofs.YtlhiaihmkjlaaaaGreat.Av
end
section
set_option maxHeartbeats 2000000
namespace Go.Proofs.YtlhiaihmkjlaaaaGreat.Av
open Go Go.RowKit
theorem TWrite_a {nm : List UInt8} {cap : Int} {t : List UInt8} {N : Nat} {s : StS} {os fo : Nat} {p a1 : AV} {H : AH} {bl : List (AV × List UInt8)} (h : Txt nm cap t s) (hst : StAt s os p H) (hf : FAt fo os 1 t.length H) (hne : fo ≠ os∧fo ∉ idS p) (hw : SW N s)
  (ha : zbZ H 1 a1=some (bl.map Prod.fst,bl.length)) (hai : ∀ j ∈ idS a1,j ≠ os∧j ≠ fo∧j ∉ idS p) (hb : ∀ x ∈ bl,zbZ H 1 x.1=some (encB x.2,x.2.length)∧oneA x.1=true∧x.2.length≤4096∧∀ j ∈ idS x.1,j ≠ os∧j ≠ fo∧j ∉ idS p) (hbn : bl.length≤1000000)
  (hN : N + 9 * ((bl.map Prod.snd).flatten).length < 900000) (hc : ((t.length + ((bl.map Prod.snd).flatten).length : Nat) : Int)≤cap) (ht : t.length + ((bl.map Prod.snd).flatten).length≤1000000) :
  ACalls Tryz.prog 47 [.ptr fo 0,a1] H λr H'=>∃ s' p',r = .tup [I ((bl.map Prod.snd).flatten).length,I 0]∧Txt nm cap (t ++ (bl.map Prod.snd).flatten) s'∧SW (N + 9 * ((bl.map Prod.snd).flatten).length) s'∧StAt s' os p' H'∧FAt fo os 1 (t ++ (bl.map Prod.snd).flatten).length H'∧fo ∉ idS p'∧CwF os fo H.length p p' H H':=by
 obtain ⟨c1,c2,c3⟩:=zzjZ (bl:=bl) λx hx=>(hb x hx).2.2.1
 have hA:=FWrite_a (ino:=1) (bl:=bl) hst hf hne hw ha hai (λx hx=>⟨(hb x hx).1,(hb x hx).2.1,by have:=(hb x hx).2.2.1; omega,(hb x hx).2.2.2⟩) hbn (by rw [c3]; exact hN) (by rw [c3]; omega);obtain ⟨s',p1,p2⟩:=Txt.pcs (m:=0) h c2 (by rw [c3]; omega) (by rw [c3]; exact hc);have pw:=pcs_w (ino:=1) (l:=bl.flatMap λx=>zufZ x.2) (a:=t.length) (m:=0) hw;rw [p1] at hA pw;rw [c1] at hA p2;rw [c3] at hA pw;refine hA.mono ?_;rintro r H' ⟨p',rfl,h1,h2,h3⟩;have hfl:=(gSI.1 hf).1;exact ⟨s',p',by simp,p2,pw,h1,h2,λq=>(h3.ids fo q).elim hne.2 (λq=>by omega),h3⟩
theorem open9 : ∃ s,openS (newS 9) [97] true=((1,0),s)∧s.off=false∧s.now=oneN [97] 0 []∧s.cap=9∧s.armed = -1:=⟨_,rfl,rfl,by decide,rfl,rfl⟩
theorem cursorRuns_a : ACalls Tryz.prog 40 [] [] λr _=>r=B true:=zsfZ (by
 unfold zhbZ;obtain ⟨r,H1,⟨p,rfl,h1,h2,g,hid⟩,hc⟩:=New_c 9 [] (by omega);refine bC_of hc ?_;have e1 : abN .eql nilP (.ptr ([] : AH).length 0) (.lit (.pointer none))=some (B false):=rfl;simp only [e1,zdZ,zsZ,zmZ];obtain ⟨s1,o1,o2,o3,o4,o5⟩:=open9;have hw1:=openS_w (newS_w 9) [97] true;obtain ⟨r,H5,⟨p1,fo,rfl,hfo,hF,hfp,hst,hSt⟩,hc⟩:=COpen_c h2 (newS_w 9) (by omega) (name:=[97]) (by simp) true (by rw [o1]);rw [o1] at hw1 hst hF;refine bC_of hc ?_;have e2 : abN .eql nilP (.ptr fo 0) (.lit (.pointer none))=some (B false):=rfl;simp only [zoZ,gCS,gCZ,zdZ,e2,zgsZ,beq_self_eq_true,zcpZ,znvZ,ne_eq,not_true_eq_false,dFf,zbcZ,if_false,Bool.false_eq_true,zsZ,zmZ];have hT : Txt [97] 9 [] s1:=Txt.first o3 (by decide) o4 o2 o5;have a1 : absl H5 1 2 (zrow [(.lit (.int .u8 0))] 2) [(0,1,(.lit (.int .u8 1))),(1,1,(.lit (.int .u8 2)))]=some (.sl H5.length 0 2 1 (.ex 2),H5 ++ [some (.cells [.lit (.int .u8 1),.lit (.int .u8 2)])]):=rfl
 have a2 : absl (H5 ++ [some (.cells [.lit (.int .u8 1),.lit (.int .u8 2)])]) 1 1 (zrow [(.lit (.int .u8 0))] 1) [(0,1,(.lit (.int .u8 3)))]=some (.sl (H5.length + 1) 0 1 1 (.ex 1),H5 ++ [some (.cells [.lit (.int .u8 1),.lit (.int .u8 2)]),some (.cells [.lit (.int .u8 3)])]):=by
  have : absl (H5 ++ [some (AObj.cells [.lit (.int .u8 1),.lit (.int .u8 2)])]) 1 1 (zrow [(.lit (.int .u8 0))] 1) [(0,1,(.lit (.int .u8 3)))]=some (.sl (H5 ++ [some (AObj.cells [.lit (.int .u8 1),.lit (.int .u8 2)])]).length 0 1 1 (.ex 1),(H5 ++ [some (AObj.cells [.lit (.int .u8 1),.lit (.int .u8 2)])]) ++ [some (.cells [.lit (.int .u8 3)])]):=rfl;rw [this]; simp
 have a3 : absl (H5 ++ [some (AObj.cells [.lit (.int .u8 1),.lit (.int .u8 2)]),some (.cells [.lit (.int .u8 3)])]) 1 2 (zrow [nilSl] 2) [(0,1,.sl H5.length 0 2 1 (.ex 2)),(1,1,.sl (H5.length + 1) 0 1 1 (.ex 1))]=some (.sl (H5.length + 2) 0 2 1 (.ex 2),H5 ++ [some (.cells [.lit (.int .u8 1),.lit (.int .u8 2)]),some (.cells [.lit (.int .u8 3)]),some (.cells [.sl H5.length 0 2 1 (.ex 2),.sl (H5.length + 1) 0 1 1 (.ex 1)])]):=by
  have : absl (H5 ++ [some (AObj.cells [.lit (.int .u8 1),.lit (.int .u8 2)]),some (.cells [.lit (.int .u8 3)])]) 1 2 (zrow [nilSl] 2) [(0,1,.sl H5.length 0 2 1 (.ex 2)),(1,1,.sl (H5.length + 1) 0 1 1 (.ex 1))]=some (.sl (H5 ++ [some (AObj.cells [.lit (.int .u8 1),.lit (.int .u8 2)]),some (.cells [.lit (.int .u8 3)])]).length 0 2 1 (.ex 2),(H5 ++ [some (AObj.cells [.lit (.int .u8 1),.lit (.int .u8 2)]),some (.cells [.lit (.int .u8 3)])]) ++ [some (.cells [.sl H5.length 0 2 1 (.ex 2),.sl (H5.length + 1) 0 1 1 (.ex 1)])]):=rfl;rw [this]; simp
 simp only [a1,zbtZ,a2,a3];have g6:=Grew.app H5 [some (AObj.cells [.lit (.int .u8 1),.lit (.int .u8 2)]),some (.cells [.lit (.int .u8 3)]),some (.cells [.sl H5.length 0 2 1 (.ex 2),.sl (H5.length + 1) 0 1 1 (.ex 1)])];have l0:=hst.os_lt;have lp:=hst.p_lt;have lf:=(gSI.1 hF).1;have k1 : zbZ (H5 ++ [some (AObj.cells [.lit (.int .u8 1),.lit (.int .u8 2)]),some (.cells [.lit (.int .u8 3)]),some (.cells [.sl H5.length 0 2 1 (.ex 2),.sl (H5.length + 1) 0 1 1 (.ex 1)])]) 1 (.sl (H5.length + 2) 0 2 1 (.ex 2))=some ([.sl H5.length 0 2 1 (.ex 2),.sl (H5.length + 1) 0 1 1 (.ex 1)],2):=by simp [zbZ]
 have k2 : zbZ (H5 ++ [some (AObj.cells [.lit (.int .u8 1),.lit (.int .u8 2)]),some (.cells [.lit (.int .u8 3)]),some (.cells [.sl H5.length 0 2 1 (.ex 2),.sl (H5.length + 1) 0 1 1 (.ex 1)])]) 1 (.sl H5.length 0 2 1 (.ex 2))=some (encB [1,2],2):=by simp [zbZ,encB]
 have k3 : zbZ (H5 ++ [some (AObj.cells [.lit (.int .u8 1),.lit (.int .u8 2)]),some (.cells [.lit (.int .u8 3)]),some (.cells [.sl H5.length 0 2 1 (.ex 2),.sl (H5.length + 1) 0 1 1 (.ex 1)])]) 1 (.sl (H5.length + 1) 0 1 1 (.ex 1))=some (encB [3],1):=by simp [zbZ,encB]
 have hlen6 : (H5 ++ [some (AObj.cells [.lit (.int .u8 1),.lit (.int .u8 2)]),some (.cells [.lit (.int .u8 3)]),some (.cells [.sl H5.length 0 2 1 (.ex 2),.sl (H5.length + 1) 0 1 1 (.ex 1)])]).length=H5.length + 3:=by simp
 have hst6:=hst.grew g6;have hF6 : FAt fo 0 1 0 _:=g6.cells hF;generalize (H5 ++ [some (AObj.cells [.lit (.int .u8 1),.lit (.int .u8 2)]),some (.cells [.lit (.int .u8 3)]),some (.cells [.sl H5.length 0 2 1 (.ex 2),.sl (H5.length + 1) 0 1 1 (.ex 1)])])=H6 at *;have fresh : ∀ j,H5.length≤j→j ≠ 0∧j ≠ fo∧j ∉ idS p1:=λj hj=>⟨by omega,by omega,λq=>by have:=lp j q; omega⟩
 have hne : fo ≠ 0:=by have : H1.length=1:=h1; omega
 refine ⟨_,TWrite_a (bl:=[(.sl H5.length 0 2 1 (.ex 2),[1,2]),(.sl (H5.length + 1) 0 1 1 (.ex 1),[3])]) hT hst6 hF6 ⟨hne,hfp⟩ hw1 k1 (by intro j hj; simp [idS] at hj; exact fresh j (by omega)) (by
  intro x hx;simp only [List.mem_cons,List.not_mem_nil,or_false] at hx;rcases hx with rfl | rfl
  ·exact ⟨k2,rfl,by simp,by intro j hj; simp [idS] at hj; exact fresh j (by omega)⟩
  ·exact ⟨k3,rfl,by simp,by intro j hj; simp [idS] at hj; exact fresh j (by omega)⟩) (by simp) (by simp) (by simp) (by simp), ?_⟩
 rintro r H7 ⟨s2,p2,rfl,t2,w2,st2,F2,fp2,cw⟩;simp only [List.map_cons,List.map_nil,List.flatten_cons,List.flatten_nil,List.append_nil,List.nil_append,List.cons_append,List.length_cons,List.length_nil] at t2 w2 F2;simp only [zoZ,gCS,gCZ,zdZ,zgZ,ziZ,Nat.zero_add];refine bC_of (Tell_c F2) ?_;simp only [zgZ,zdZ,ziZ,Nat.zero_add];obtain ⟨r,H8,⟨rfl,F3,b3⟩,hc⟩:=Seek_c F2 (n:=1) (by omega);refine bC_of hc ?_;have st3:=b3.st st2 hne fp2;have hrd:=t2.read (pos:=1) (n:=9) (by simp) (by omega) (by simp);obtain ⟨R,hR,r,H9,⟨rfl,F4,b4⟩,hc⟩:=CRead_c (N:=1 + 9 * 3) F3 st3 (w2.mono (by simp)) (by omega) hne 9 (by omega) (by have : readS s2 1 1 9=_:=hrd; rw [this]; simp);have hrd' : readS s2 1 1 9=([2,3],0):=hrd;rw [hrd'] at hR F4 hc;refine bC_of hc ?_
 have eB : acB H9 R=some (S (bstr [2,3])):=by
  have:=acB_spec (H:=H9) (x:=R) (l:=[2,3]) (n:=2) (by have:=hR.2 H9; rw [zwyZ] at this; exact this)
  exact this
 have eS : (AV.lit (.string ⟨#[2,3]⟩))=S (bstr [2,3]):=rfl;have q1 : (I ((([(AV.sl H5.length 0 2 1 (.ex 2),([1,2] : List UInt8)),(.sl (H5.length + 1) 0 1 1 (.ex 1),[3])].map Prod.snd).flatten).length) : AV)=I 3:=rfl;simp only [zoZ,gCS,gCZ,zdZ,q1,zbbsZ,dTt,zgsZ,beq_self_eq_true,zcpZ,zbcZ,if_true,eB,eS,abT_eql,zgZ,ziZ,Nat.zero_add,Nat.reduceAdd,Int.cast_ofNat_Int,gC_true];have F5 : FAt fo 0 1 3 H9:=F4;refine bC_of (Tell_c F5) ?_;simp only [zbbsZ,dTt,zdZ,zgsZ,beq_self_eq_true,zcpZ,gC_true];refine bC_of (Ino_c F5) ?_;simp only [zbbsZ,dTt,zdZ,zgsZ,beq_self_eq_true,zcpZ,zbcZ,if_true])
theorem zrhZ : BPure Tryz.prog 40 [] (B true):=.of_true cursorRuns_a
end Go.Proofs.YtlhiaihmkjlaaaaGreat.Av
end
section
end
