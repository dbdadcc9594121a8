/- Texts of this proof, one behind the other, packed into one file by a program of this session. No condition. -/
import Derived.Test.YtlhiaihmkjlaaaaGreatMrG
import Derived.KernelRfl
set_option linter.unusedVariables false
set_option linter.unusedSimpArgs false
set_option maxRecDepth 100000
section
namespace Go.Proofs.YtlhiaihmkjlaaaaGreat.Av
open Go Go.RowKit
theorem cloneN_c {H : AH} {v : AV} {cs : List AV} {n : Nat} (h : zaZ H 2 v=some (cs,n)) (hn : n≤1000000000) :
  ∃ r H',(zjsZ r=true∧zaZ H' 2 r=some (cs,n)∧Grew H H'∧(∀ i ∈ idS r,H.length≤i)∧capOk r n)∧BCall Tryz.prog 116 [v] H r H':=zlhZ (by
 unfold zgjZ;rcases zbflZ h with ⟨rfl,rfl,rfl⟩ | hb
 ·have e : abN .eql nilS nilSl nilSl=some (B true):=rfl
  simp only [e,zbZ,zpZ,zbcZ];exact ⟨rfl,h,Grew.refl H,by simp [idS],by simp [capOk]⟩
 ·simp only [hb,zbZ,zpZ,zmZ]
  have e : absl H 2 0 (zrow [(.lit (.string ⟨#[]⟩)),(I 0)] 0) []=some (.sl H.length 0 0 2 (.ex 0),H ++ [some (.cells [])]):=rfl;simp only [e,zbpZ];have g:=Grew.app H [some (.cells [])];have h0 : zaZ (H ++ [some (.cells [])]) 2 (.sl H.length 0 0 2 (.ex 0))=some ([],0):=by simp [zaZ]
  obtain ⟨r,H2,a1,a2,a3,a4,a5,a6⟩:=zjmZ (sz:=2) (bytes:=24) (H:=H ++ [some (.cells [])]) (v:=.sl H.length 0 0 2 (.ex 0)) (cs:=[]) (n:=0) h0 rfl (znZ (g.slice h)) (by omega);have a7:=aap_cap h0 rfl (znZ (g.slice h)) (by simp [capOk]) a1;simp only [a1,zbpZ];refine ⟨a2,by simpa using a3,⟨by simp at a4; omega,λi hi=>?_⟩,λi hi=>?_,by simpa using a7⟩
  ·rw [a5 i (by simp; omega) (by simp [idS]; omega)]
   exact g.2 i hi
  ·rcases a6 i hi with h | h
   ·simp [idS] at h; omega
   ·simp at h; omega)
theorem cloneD_c {H : AH} {v : AV} {cs : List AV} {n : Nat} (h : zaZ H 3 v=some (cs,n)) (hn : n≤1000000000) :
  ∃ r H',(zjsZ r=true∧zaZ H' 3 r=some (cs,n)∧Grew H H'∧(∀ i ∈ idS r,H.length≤i)∧capOk r n)∧BCall Tryz.prog 117 [v] H r H':=zliZ (by
 unfold zgiZ;rcases zbflZ h with ⟨rfl,rfl,rfl⟩ | hb
 ·have e : abN .eql nilS nilSl nilSl=some (B true):=rfl
  simp only [e,zbZ,zpZ,zbcZ];exact ⟨rfl,h,Grew.refl H,by simp [idS],by simp [capOk]⟩
 ·simp only [hb,zbZ,zpZ,zmZ]
  have e : absl H 3 0 (zrow [(I 0),(I 0),nilSl] 0) []=some (.sl H.length 0 0 3 (.ex 0),H ++ [some (.cells [])]):=rfl;simp only [e,zbpZ];have g:=Grew.app H [some (.cells [])];have h0 : zaZ (H ++ [some (.cells [])]) 3 (.sl H.length 0 0 3 (.ex 0))=some ([],0):=by simp [zaZ]
  obtain ⟨r,H2,a1,a2,a3,a4,a5,a6⟩:=zjmZ (sz:=3) (bytes:=40) (H:=H ++ [some (.cells [])]) (v:=.sl H.length 0 0 3 (.ex 0)) (cs:=[]) (n:=0) h0 rfl (znZ (g.slice h)) (by omega);have a7:=aap_cap h0 rfl (znZ (g.slice h)) (by simp [capOk]) a1;simp only [a1,zbpZ];refine ⟨a2,by simpa using a3,⟨by simp at a4; omega,λi hi=>?_⟩,λi hi=>?_,by simpa using a7⟩
  ·rw [a5 i (by simp; omega) (by simp [idS]; omega)]
   exact g.2 i hi
  ·rcases a6 i hi with h | h
   ·simp [idS] at h; omega
   ·simp at h; omega)
structure OwI (L : Nat) (ns : List Nm) (dv : List NdV) (a b : AV) (H : AH) : Prop where
 sa : zaZ H 2 a=some (ns.flatMap encN,ns.length)
 oa : zjsZ a=true
 ca : capOk a ns.length
 ia : ∀ i ∈ idS a,L≤i
 sb : zaZ H 3 b=some (dv.flatMap encD,dv.length)
 ob : zjsZ b=true
 cb : capOk b dv.length
 ib : ∀ i ∈ idS b,L≤i
 ab : ∀ i ∈ idS a,i ∉ idS b
def CopyK (H : AH) (ns : List Nm) (ds : List Nd) (r : AV) (H' : AH) : Prop:=∃ a b dv,r = .agg [a,b]∧dv.map NdV.nd=ds∧Grew H H'∧OwI H.length ns dv a b H'
theorem ImH.putD {L oi k : Nat} {ns : List Nm} {dv : List NdV} {a b R : AV} {H : AH} {x : NdV} {sz : Int} {l : List Ext} (h : ImH L oi ns dv a b H) (hx : dv[k]? = some x) (hR : SV encE 9 l R) :
  ∃ o off cells H',aixS 3 b (I k)=some (.ptr o off)∧H[o]? = some (some (.cells cells))∧ztZ true 2 cells (off + 1)=some (.agg [I x.nd.size,x.R])∧ast 2 H (.ptr o (off + 1)) (.agg [I sz,R])=some H'∧ImH L oi ns (dv.set k ⟨⟨x.nd.ino,sz,l⟩,R,hR⟩) a b H'∧FrL L oi H H':=by
 obtain ⟨o,off,cells,u1,u2,u3,u4,u5,u6⟩:=own_at zffZ (by omega) h.sb h.ob hx;have oL:=h.ib o u2;have hoo : o ≠ oi:=λe=>h.noB (e ▸ u2)
 have hle:=h.len;have o2:=SV.oneA hR;have hol:=(gSI.1 u3).1
 have rd1 : ztZ true 2 cells (off + 1)=some (.agg [I x.nd.size,x.R]):=by
  have e51:=u5 1 (by omega);have e52:=u5 2 (by omega);have l2 : off + 1 + 2≤cells.length:=by omega
  have : (cells.drop (off + 1)).take 2=[I x.nd.size,x.R]:=by
   rw [List.drop_eq_getElem_cons (by omega),List.drop_eq_getElem_cons (by omega)];rw [gEG (by omega)] at e51 e52;simp [encD] at e51 e52;simp [e51,e52]
  simp [ztZ,l2,this]
 refine ⟨o,off,cells,H.set o (some (.cells (zlaZ cells (off + 1) [I sz,R]))),u1,u3,rd1, ?_,⟨?_,h.lo,by simp; omega, ?_,h.oa,h.ca,h.ia, ?_,h.ob,by simpa using h.cb,h.ib,h.ab⟩,⟨by simp,λj h1 h2=>gSN (by omega)⟩⟩
 ·rw [zcoZ (n:=2) (xs:=[I sz,R]) (by simp [o2]) u3 rfl (by omega)]
 ·rw [gSN (by omega)]; exact h.obj
 ·exact zcZ h.sa λi hi=>gSN (fun (e : o=i) => h.ab i hi (e ▸ u2))
 ·have:=u6 ⟨⟨x.nd.ino,sz,l⟩,R,hR⟩ 1 [I sz,R] rfl (by simp)
  simpa using this
theorem Copy_c {H : AH} {ns : List Nm} {dv : List NdV} {a b : AV} (sa : SV encN 2 ns a) (sb : SV encD 3 dv b) (hn : ns.length≤100000) (hm : dv.length≤100000) (hl : ∀ d ∈ dv,d.nd.l.length≤1000000) :
  ∃ r H',CopyK H ns (dv.map NdV.nd) r H'∧BCall Tryz.prog 61 [.agg [a,b]] H r H':=image_Copy_ok (by
 unfold image_Copy;have oa:=SV.oneA sa;have ob:=SV.oneA sb
 obtain ⟨H3,e3,c0,c1,g3,l3⟩ : ∃ H3,anew (H ++ [some (.cells [a,b])]) (.agg [nilSl,nilSl])=some (.ptr (H.length + 1) 0,H3)∧H3[H.length]? = some (some (.cells [a,b]))∧H3[H.length + 1]? = some (some (.cells [nilSl,nilSl]))∧Grew H H3∧H3.length=H.length + 2:=by
  refine ⟨H ++ [some (.cells [a,b]),some (.cells [nilSl,nilSl])],by simp,by simp,by rw [List.getElem?_append_right (by omega)]; simp,Grew.app _ _,by simp⟩
 simp [oa,ob,e3,c0];obtain ⟨ra,H7,⟨p1,p2,p3,p4,p5⟩,p6⟩:=cloneN_c (sa.2 H3) (by omega);refine bC_of p6 ?_;have c7:=p3.cells c0;simp [c7];obtain ⟨rb,H11,⟨q1,q2,q3,q4,q5⟩,q6⟩:=cloneD_c (sb.2 H7) (by omega);refine bC_of q6 ?_;have c8:=q3.cells c7;have ra1:=zbiZ p1;have rb1:=zbiZ q1;have l7:=p3.1;have l11:=q3.1
 have i0 : ImH (H.length + 2) H.length ns dv ra rb (H11.set H.length (some (.cells [ra,rb]))):=by
  refine ⟨by rw [gSS (by omega)],⟨λq=>by have:=p4 _ q; omega,λq=>by have:=q4 _ q; omega⟩,by rw [List.length_set]; omega, ?_,p1,p5,λi hi=>by have:=p4 i hi; omega, ?_,q1,q5,λi hi=>by have:=q4 i hi; omega,λi hi hh=>?_⟩
  ·exact zcZ (q3.slice p2) λi hi=>gSN (by have:=p4 i hi; omega)
  ·exact zcZ q2 λi hi=>gSN (by have:=q4 i hi; omega)
  ·have:=q4 i hh; have:=zrZ p2 i hi; omega
 have e13 : ast 2 H11 (.ptr H.length 0) (.agg [ra,rb])=some (H11.set H.length (some (.cells [ra,rb]))):=by
  rw [zcoZ (n:=2) (off:=0) (xs:=[ra,rb]) (by simp [ra1,rb1]) c8 rfl (by simp)]; rfl
 have g13 : Grew H (H11.set H.length (some (.cells [ra,rb]))):=⟨by simp; omega,λi hi=>by rw [gSN (by omega),(g3.trans (p3.trans q3)).2 i hi]⟩
 have c13 : (H11.set H.length (some (.cells [ra,rb])))[H.length + 1]? = some (some (.cells [nilSl,nilSl])):=by
  rw [gSN (by omega)]; exact q3.cells (p3.cells c1)
 generalize H11.set H.length (some (.cells [ra,rb]))=H13 at i0 e13 g13 c13;have d0:=i0.obj;simp [zbsZ ra1,zbsZ rb1,e13];have ln:=zhxZ i0.sb;simp [d0,ln];refine image_Copy_L4_rule (λn x1 x2 x13 x14 H'=>∃ (k : Nat) (ew : List NdV),k + n=dv.length∧x1 = .ptr H.length 0∧x2 = .ptr (H.length + 1) 0∧x13=I dv.length∧x14=I k∧ew.map NdV.nd=dv.map NdV.nd∧ImH (H.length + 2) H.length ns ew ra rb H'∧Grew H H'∧H'[H.length + 1]? = some (some (.cells [nilSl,nilSl]))) ?_ dv.length ⟨0,dv,by omega,rfl,rfl,rfl,rfl,rfl,i0,g13,c13⟩;rintro n x1 x2 x13 x14 H' R hR ⟨k,ew,hk,rfl,rfl,rfl,rfl,hew,hi,hg,hc⟩;unfold zbbfZ;have el : ew.length=dv.length:=by have:=congrArg List.length hew; simpa using this
 have e0:=hi.obj;rcases Nat.lt_or_ge k dv.length with h | h
 ·have hx:=gEG (l:=ew) (i:=k) (by omega)
  generalize ew[k]=x at hx
  have hxl : x.nd.l.length≤1000000:=by
   have h1 : x.nd ∈ ew.map NdV.nd:=List.mem_map_of_mem (List.mem_of_getElem? hx);rw [hew] at h1;obtain ⟨d,hd,e⟩:=List.mem_map.1 h1;rw [← e]; exact hl d hd
  obtain ⟨R2,s2,p2⟩:=copied_p (size:=x.nd.size) x.h (by omega);obtain ⟨o,off,cells,H2,w1,w2,w3,w4,w5,w6⟩:=hi.putD (sz:=x.nd.size) hx s2;simp [h,e0,w1,w2,w3];refine bP_of p2 ?_;simp [w4,zbdZ (a:=k) (b:=1) (by omega) (by omega)];refine hR (n - 1) _ _ _ _ _ (by omega) ⟨k + 1,_,by omega,rfl,rfl,rfl,by simp, ?_,w5,⟨by have:=hg.1; have:=w6.1; omega,λi hi2=>by rw [w6.2 i (by omega) (by omega),hg.2 i hi2]⟩,by rw [w6.2 _ (by omega) (by omega)]; exact hc⟩;rw [← hew,List.map_set];refine List.ext_getElem? λj=>?_
  rw [List.getElem?_set]
  split
  ·rename_i hj
   subst hj;rw [List.getElem?_map,hx]
   simp; omega
  ·rfl
 ·have b0 : ztZ true 2 [ra,rb] 0=some (.agg [ra,rb]):=rfl
  have hcl:=(gSI.1 hc).1
  have e5 : ast 2 H' (.ptr (H.length + 1) 0) (.agg [ra,rb])=some (H'.set (H.length + 1) (some (.cells [ra,rb]))):=by
   rw [zcoZ (n:=2) (off:=0) (xs:=[ra,rb]) (by simp [ra1,rb1]) hc rfl (by simp)]; rfl
  simp [show ¬ k < dv.length by omega,e0,b0,e5,hcl];refine ⟨ra,rb,ew,rfl,hew,⟨by simpa using hg.1,λi hi2=>by rw [gSN (by omega),hg.2 i hi2]⟩,⟨?_,hi.oa,hi.ca,λi q=>by have:=hi.ia i q; omega, ?_,hi.ob,hi.cb,λi q=>by have:=hi.ib i q; omega,hi.ab⟩⟩
  ·exact zcZ hi.sa λi q=>gSN (by have:=hi.ia i q; omega)
  ·exact zcZ hi.sb λi q=>gSN (by have:=hi.ib i q; omega))
def creI (ns : List Nm) (ds : List Nd) (o : OpM) : Prop:=¬ hasK Nm.name ns o.name∧¬ hasK Nd.ino ds o.ino∧mayN o.name∧1≤o.ino∧o.ino≤4611686018427387904∧ns.length < 16
instance (ns : List Nm) (ds : List Nd) (o : OpM) : Decidable (creI ns ds o):=by unfold creI; infer_instance
def remD (ns : List Nm) (ds : List Nd) (s : List UInt8) : List Nd:=if hasK Nm.name ns s then delK cmpI Nd.ino ds (nameI ns s) else ds
def ziaZ (ns : List Nm) (ds : List Nd) (o : OpM) : List Nm × List Nd :=
 if mayI ns ds then
  if o.kind=1 then (if creI ns ds o then (insK cmpN Nm.name ns ⟨o.name,o.ino⟩,insK cmpI Nd.ino ds ⟨o.ino,0,[]⟩) else (ns,ds))
  else if o.kind=2∨o.kind=3∨o.kind=4∨o.kind=5 then (ns,chgD ds o)
  else if o.kind=6 then (if renOk ns o.name o.to then (insK cmpN Nm.name (remNs (delK cmpN Nm.name ns o.name) o.to) ⟨o.to,nameI ns o.name⟩,remD (delK cmpN Nm.name ns o.name) ds o.to) else (ns,ds))
  else if o.kind=7 then (remNs ns o.name,remD ns ds o.name)
  else (ns,ds)
 else (ns,ds)
theorem insK_map {dv : List NdV} {i : Int} : (insK cmpI NdV.ino dv (newD i)).map NdV.nd=insK cmpI Nd.ino (dv.map NdV.nd) ⟨i,0,[]⟩:=by
 unfold insK;rw [zbfyZ,List.map_append,List.map_cons,List.map_take,List.map_drop];rfl
theorem delK_map {dv : List NdV} {k : Int} : (delK cmpI NdV.ino dv k).map NdV.nd=delK cmpI Nd.ino (dv.map NdV.nd) k:=by
 unfold delK;rw [zbfyZ,List.map_append,List.map_take,List.map_drop]
theorem remDv_map {ns : List Nm} {dv : List NdV} {s : List UInt8} : (remDv ns dv s).map NdV.nd=remD ns (dv.map NdV.nd) s:=by
 unfold remDv remD
 split
 ·exact delK_map
 ·rfl
theorem creOk_map {ns : List Nm} {dv : List NdV} {o : OpM} : creI ns (dv.map NdV.nd) o ↔ creOk ns dv o:=by
 unfold creI creOk;rw [zbbmZ]
def ApK (p : List Nm × List Nd) (r : AV) (X : AH) : Prop:=∃ R,FZ X r R∧ImV p.1 p.2 R
theorem zbdfZ {ns : List Nm} {dv : List NdV} {a b : AV} {H : AH} {p : List Nm × List Nd} (h : ImH 3 0 ns dv a b H) (h2 : H[2]? = some (some (.cells [nilSl,nilSl]))) (hp : p=(ns,dv.map NdV.nd)) : zhbZ (.ptr 0 0) (.ptr 2 0) H (ApK p):=by
 rw [zxzZ]; unfold zsdZ;have c0:=h.obj;have b0 : ztZ true 2 [a,b] 0=some (.agg [a,b]):=rfl;have ra1:=zbiZ h.oa;have rb1:=zbiZ h.ob;have hcl:=(gSI.1 h2).1
 have e5 : ast 2 H (.ptr 2 0) (.agg [a,b])=some (H.set 2 (some (.cells [a,b]))):=by
  rw [zcoZ (n:=2) (off:=0) (xs:=[a,b]) (by simp [ra1,rb1]) h2 rfl (by simp)]; rfl
 simp [c0,b0,e5,hcl];have h3 : ImH 3 0 ns dv a b (H.set 2 (some (.cells [a,b]))):=⟨by rw [gSN (by omega)]; exact c0,h.lo,by simpa using h.len,zcZ h.sa λi q=>gSN (by have:=h.ia i q; omega),h.oa,h.ca,h.ia,zcZ h.sb λi q=>gSN (by have:=h.ib i q; omega),h.ob,h.cb,h.ib,h.ab⟩;obtain ⟨Ra,Rb,sa,sb,fz⟩:=h3.lend;subst hp;exact ⟨_,fz,Ra,Rb,dv,rfl,sa,sb,rfl⟩
theorem Apply_p {ns : List Nm} {ds : List Nd} {v bv : AV} {o : OpM} (hv : ImV ns ds v) (hb : Sm ns ds) (hbv : SV encU 1 o.b bv) (hbl : o.b.length≤281474976710656) (hn : o.name.length≤1000000000) (ht : o.to.length≤1000000000) :
  ∃ R,ImV (ziaZ ns ds o).1 (ziaZ ns ds o).2 R∧BPure Tryz.prog 60 [v,.agg (opA o bv)] R:=by
 have hids:=hv.noIds;refine BPure.FZ (by simp [zdcZ] at hids ⊢; exact ⟨hids,by simp [opA,noIds,zdcZ,hbv.1]⟩) (image_Apply_ok (K:=ApK (ziaZ ns ds o)) ?_);obtain ⟨a,b,dv,rfl,sa,sb,rfl⟩:=hv;have b1:=hb.1;have b2:=hb.2.1;rw [List.length_map] at b2;have oa:=SV.oneA sa;have ob:=SV.oneA sb;have o3:=SV.oneA hbv;unfold image_Apply;obtain ⟨H5,e5,c0,c1,c2,l5⟩ : ∃ H5,anew [some (.cells [a,b]),some (.cells (opA o bv))] (.agg [nilSl,nilSl])=some (.ptr 2 0,H5)∧H5[0]? = some (some (.cells [a,b]))∧H5[1]? = some (some (.cells (opA o bv)))∧H5[2]? = some (some (.cells [nilSl,nilSl]))∧H5.length=3 :=
  ⟨[some (.cells [a,b]),some (.cells (opA o bv)),some (.cells [nilSl,nilSl])],by simp,rfl,rfl,rfl,rfl⟩
 have e4 : anew [some (.cells [a,b])] (.agg (opA o bv))=some (.ptr 1 0,[some (.cells [a,b]),some (.cells (opA o bv))]):=by simp [opA,o3]
 have b0 : ∀ x y : AV,ztZ true 2 [x,y] 0=some (.agg [x,y]):=λ_ _=>rfl
 simp [oa,ob,e4,e5,c0,b0];obtain ⟨r,H8,⟨a',b',ew,rfl,hew,hg,ow⟩,hc⟩:=Copy_c (H:=H5) sa sb (by omega) b2 (λd hd=>hb.2.2.2 d.nd (List.mem_map_of_mem hd));refine bC_of hc ?_;have a1:=zbiZ ow.oa;have a2:=zbiZ ow.ob;have l8:=hg.1;rw [l5] at ow
 have e9 : ast 2 H8 (.ptr 0 0) (.agg [a',b'])=some (H8.set 0 (some (.cells [a',b']))):=by
  rw [zcoZ (n:=2) (off:=0) (xs:=[a',b']) (by simp [a1,a2]) (hg.cells c0) rfl (by simp)]; rfl
 have i9 : ImH 3 0 ns ew a' b' (H8.set 0 (some (.cells [a',b']))):=⟨by rw [gSS (by omega)],⟨λq=>by have:=ow.ia _ q; omega,λq=>by have:=ow.ib _ q; omega⟩,by rw [List.length_set]; omega,zcZ ow.sa λi q=>gSN (by have:=ow.ia i q; omega),ow.oa,ow.ca,ow.ia,zcZ ow.sb λi q=>gSN (by have:=ow.ib i q; omega),ow.ob,ow.cb,ow.ib,ow.ab⟩;have k1 : (H8.set 0 (some (.cells [a',b'])))[1]? = some (some (.cells (opA o bv))):=by rw [gSN (by omega)]; exact hg.cells c1
 have k2 : (H8.set 0 (some (.cells [a',b'])))[2]? = some (some (.cells [nilSl,nilSl])):=by rw [gSN (by omega)]; exact hg.cells c2
 simp only [e9,zcaZ];generalize H8.set 0 (some (.cells [a',b']))=H9 at i9 k1 k2;have d0:=i9.obj;obtain ⟨Ra,Rb,ta,tb,fz⟩:=i9.lend;have hsm : Sm ns (ew.map NdV.nd):=by rw [hew]; exact hb
 have keep : ∀ {H' : AH},FrL 3 0 H9 H'→H'[2]? = some (some (.cells [nilSl,nilSl])):=λf=>by rw [f.2 2 (by omega) (by omega)]; exact k2
 rw [← hew];have b8 : ztZ true 8 (opA o bv) 0=some (.agg (opA o bv)):=rfl;have el : ew.length=dv.length:=by have:=congrArg List.length hew; simpa using this
 have hlw : ∀ d ∈ ew,d.nd.l.length≤1000000:=λd hd=>hsm.2.2.2 d.nd (List.mem_map_of_mem hd)
 simp [d0,b0];refine bP_of (PCall.lend (FZs.cons fz FZs.nil) rfl (May_p ⟨Ra,Rb,ew,rfl,ta,tb,rfl⟩ hsm)) ?_
 by_cases hm : mayI ns (ew.map NdV.nd)
 ·have hs:=hm.1.2.2.1
  have hd:=zbgbZ.1 hm.2.2.1;have hx : ∀ x ∈ ns,hasK NdV.ino ew x.ino:=λx hx=>zbbmZ.1 ((mayI_doc.1 hm).2.2.2.2.1 x hx)
  simp [hm,k1,opA]
  by_cases q1 : o.kind=1
  ·have e : ziaZ ns (ew.map NdV.nd) o=(creNs ns ew o,(creDv ns ew o).map NdV.nd):=by
    unfold ziaZ creNs creDv;rw [if_pos hm,if_pos q1]
    by_cases hc : creOk ns ew o
    ·rw [if_pos hc,if_pos hc,if_pos (creOk_map.2 hc),insK_map]
    ·rw [if_neg hc,if_neg hc,if_neg (λh=>hc (creOk_map.1 h))]
   rw [decide_eq_true q1];simp only [zbcZ];obtain ⟨r2,H2,⟨rfl,a3,b3,i3,f3⟩,w3⟩:=create_c i9 hs hd o3 b1 (by omega) hn;refine bC_of w3 ?_;exact zbdfZ i3 (keep f3) e
  ·have hJ8 : ∀ t : Bool,(t=true ↔ (o.kind=2∨o.kind=3∨o.kind=4∨o.kind=5))→zjoZ (.ptr 0 0) (.ptr 1 0) (.ptr 2 0) (I o.kind) (B t) H9 (ApK (ziaZ ns (ew.map NdV.nd) o)):=by
    intro t htt;rw [image_Apply_J8_eq]; unfold zznZ
    by_cases q2 : o.kind=2∨o.kind=3∨o.kind=4∨o.kind=5
    ·rw [htt.2 q2]
     have e : ziaZ ns (ew.map NdV.nd) o=(ns,chgD (ew.map NdV.nd) o):=by
      unfold ziaZ;rw [if_pos hm,if_neg q1,if_pos q2]
     simp [k1,b8];obtain ⟨r2,H2,⟨rfl,a3,b3,dw,hdw,i3,f3⟩,w3⟩:=change_c i9 hs hd hbv (by omega) hbl hlw q2;refine bC_of w3 ?_;exact zbdfZ i3 (keep f3) (by rw [hdw]; exact e)
    ·have : t=false:=by cases t with
      | true => exact absurd (htt.1 rfl) q2
      | false => rfl
     subst this;simp;rw [image_Apply_J12_eq]; unfold zybZ
     by_cases q6 : o.kind=6
     ·have e : ziaZ ns (ew.map NdV.nd) o=(renNs ns o.name o.to,(renDv ns ew o.name o.to).map NdV.nd):=by
       unfold ziaZ renNs renDv;rw [if_pos hm,if_neg q1,if_neg q2,if_pos q6]
       by_cases hc : renOk ns o.name o.to
       ·rw [if_pos hc,if_pos hc,if_pos hc,remDv_map]
       ·rw [if_neg hc,if_neg hc,if_neg hc]
      simp [q6,k1,opA];obtain ⟨r2,H2,⟨rfl,a3,b3,i3,f3⟩,w3⟩:=rename_c (s:=o.name) (t:=o.to) i9 hs hd hx b1 (by omega) ht;refine bC_of w3 ?_;exact zbdfZ i3 (keep f3) e
     ·simp [q6]
      rw [image_Apply_J13_eq]; unfold zxuZ
      by_cases q7 : o.kind=7
      ·have e : ziaZ ns (ew.map NdV.nd) o=(remNs ns o.name,(remDv ns ew o.name).map NdV.nd):=by
        unfold ziaZ;rw [if_pos hm,if_neg q1,if_neg q2,if_neg q6,if_pos q7,remDv_map]
       simp [q7,k1,opA];obtain ⟨r2,H2,⟨rfl,a3,b3,i3,f3⟩,w3⟩:=remove_c (s:=o.name) i9 hs hd hx b1 (by omega);refine bC_of w3 ?_;exact zbdfZ i3 (keep f3) e
      ·have e : ziaZ ns (ew.map NdV.nd) o=(ns,ew.map NdV.nd):=by
        unfold ziaZ;rw [if_pos hm,if_neg q1,if_neg q2,if_neg q6,if_neg q7]
       simp [q7];exact zbdfZ i9 k2 e
   simp [q1]
   by_cases w2 : o.kind=2
   ·simp [w2]
    have:=hJ8 true (by simp [w2]); rwa [w2] at this
   ·by_cases w3 : o.kind=3
    ·simp [w3]
     have:=hJ8 true (by simp [w3]); rwa [w3] at this
    ·by_cases w4 : o.kind=4
     ·simp [w4]
      have:=hJ8 true (by simp [w4]); rwa [w4] at this
     ·simp [w2,w3,w4]
      exact hJ8 (decide (o.kind=5)) (by simp [w2,w3,w4])
 ·have e : ziaZ ns (ew.map NdV.nd) o=(ns,ew.map NdV.nd):=by unfold ziaZ; rw [if_neg hm]
  have:=zbdfZ i9 k2 e
  rw [zxzZ] at this; unfold zsdZ at this;simp [d0,b0] at this;simp [hm];exact this
theorem enc_set0 {x y : Ext} {j : Nat} (hn : y.no=x.no) (hj : j < 8) (h : ∀ k,k < 8→y.b.getD k 0=if k=j then 0 else x.b.getD k 0) : (encE x).set (1 + j) (.lit (.int .u8 0))=encE y:=by
 refine List.ext_getElem? λq=>?_
 rw [List.getElem?_set];cases q with
 | zero => rw [if_neg (by omega)]; simp [encE,hn]
 | succ q =>
  by_cases hq : q < 8
  ·rw [encE_get _ hq,encE_get _ hq,h q hq,zbmZ]
   by_cases c : 1 + j=q + 1
   ·rw [if_pos c,if_pos (by omega),if_pos (by omega)]; rfl
   ·rw [if_neg c,if_neg (by omega)]
  ·rw [List.getElem?_eq_none (by rw [zbmZ]; omega),List.getElem?_eq_none (by rw [zbmZ]; omega),zbmZ]
   rw [if_neg (by omega)]
theorem wipe_none {x : Ext} {a b : Int} (h : b≤a∨b≤x.no * 8∨x.no * 8 + 8≤a) : wipeE x a b=x:=ext_eq rfl λk hk=>by rw [zhgZ hk,if_neg (by omega)]
def BuildP (a v : AV) (s : Int) (F : List Ext) (w : AV) (H : AH) : Prop :=
 H[0]? = some (some (.cells [a,v]))∧H[1]? = some (some (.cells [I 0,nilSl]))∧H[2]? = some (some (.cells [I s,w]))∧zaZ H 9 w=some (F.flatMap encE,F.length)∧zjsZ w=true∧∀ j,j < 3→j ∉ idS w
theorem BuildP.grew {a v w : AV} {s : Int} {F : List Ext} {H H' : AH} (h : BuildP a v s F w H) (g : Grew H H') : BuildP a v s F w H':=by
 obtain ⟨h0,h1,h2,h3,h4,h5⟩:=h;exact ⟨g.cells h0,g.cells h1,g.cells h2,g.slice h3,h4,h5⟩
theorem BuildP.other {a v w : AV} {s : Int} {F : List Ext} {H : AH} (h : BuildP a v s F w H) {o : Nat} {x : Option AObj} (ho : 3≤o) (hw : o ∉ idS w) : BuildP a v s F w (H.set o x):=by
 obtain ⟨h0,h1,h2,h3,h4,h5⟩:=h;exact ⟨(gSN (by omega)).trans h0,(gSN (by omega)).trans h1,(gSN (by omega)).trans h2,zcZ h3 λi hi=>gSN (fun (e : o=i) => hw (e ▸ hi)),h4,h5⟩
theorem BuildP.add {a v w : AV} {s : Int} {F : List Ext} {H : AH} (h : BuildP a v s F w H) (Y : Ext) (hF : F.length≤10000000) :
  ∃ r H2 H3,aap 9 16 (H ++ [some (.cells (encE Y))]) w (.sl H.length 0 1 9 (.ex 1))=some (r,H2)∧H2[2]? = some (some (.cells [I s,w]))∧oneA r=true∧H3=H2.set 2 (some (.cells [I s,r]))∧BuildP a v s (F ++ [Y]) r H3∧H.length≤H3.length:=by
 obtain ⟨h0,h1,h2,h3,h4,h5⟩:=h;have g:=Grew.app H [some (.cells (encE Y))];obtain ⟨r,H2,b1,b2,b3,b4,b5,b6⟩:=zjmZ (sz:=9) (bytes:=16) (g.slice h3) h4 (znZ (v:=.sl H.length 0 1 9 (.ex 1)) (q:=(encE Y,1)) (by simp [zaZ,zbmZ,List.take_of_length_le])) (by omega);have hl:=(gSI.1 h2).1;have k : ∀ j,j < 3→H2[j]? = H[j]?:=λj hj=>by rw [b5 j (by simp; omega) (h5 j hj),g.2 j (by omega)]
 have hid : ∀ j,j < 3→j ∉ idS r:=λj hj h=>(b6 j h).elim (h5 j hj) (λh=>by simp at h; omega)
 have hl2 : 2 < H2.length:=by simp at b4; omega
 refine ⟨r,H2,_,b1,by rw [k 2 (by omega)]; exact h2,zbiZ b2,rfl,⟨?_, ?_,gSS hl2, ?_,b2,hid⟩,by simp at b4; simp; omega⟩
 ·rw [gSN (by omega),k 0 (by omega)]; exact h0
 ·rw [gSN (by omega),k 1 (by omega)]; exact h1
 ·rw [zcZ b3 λi hi=>gSN (fun (e : 2=i) => hid 2 (by omega) (e ▸ hi))]
  simp [List.flatMap_append]
theorem absl_e {H : AH} (Y : Ext) : absl H 9 1 (zrow [(I 0),(.lit (.int .u8 0)),(.lit (.int .u8 0)),(.lit (.int .u8 0)),(.lit (.int .u8 0)),(.lit (.int .u8 0)),(.lit (.int .u8 0)),(.lit (.int .u8 0)),(.lit (.int .u8 0))] 1) [(0,9,.agg (encE Y))]=some (.sl H.length 0 1 9 (.ex 1),H ++ [some (.cells (encE Y))]):=by
 have hl:=zbmZ Y;have e : zrow [(I 0),(.lit (.int .u8 0)),(.lit (.int .u8 0)),(.lit (.int .u8 0)),(.lit (.int .u8 0)),(.lit (.int .u8 0)),(.lit (.int .u8 0)),(.lit (.int .u8 0)),(.lit (.int .u8 0))] 1=encE (newE 0):=rfl;rw [e];have hz:=zbmZ (newE 0)
 have : fillR (encE (newE 0)) [(0,9,.agg (encE Y))]=some (encE Y):=by
  rw [fillR_cons];simp only [zbcjZ,encE_all,if_true];rw [if_pos ⟨hl,by omega⟩,zujZ _ _ _ (by omega),List.take_zero,List.nil_append,List.drop_of_length_le (by omega),List.append_nil];rfl
 unfold absl;rw [this]; rfl
theorem zpwZ {size0 : Int} {l : List Ext} {v : AV} (hv : SV encE 9 l v) (hl : l.length≤1000000) (size : Int) :
  ∃ R,SV encE 9 (cL (zvnZ (size0,l) size)) R∧BPure Tryz.prog 134 [.agg [I size0,v],I size] (.tup [.agg [I (cS (zvnZ (size0,l) size)),R],B (zvnZ (size0,l) size).isSome]):=by
 refine BPure.cont (by simp [zdcZ,noIds,hv.1]) (zosZ ?_);unfold zioZ;simp [znnZ hv,ztZ];refine zyZ (zdoZ hv (by omega)) ?_
 by_cases h1 : mayC size0 l
 ·by_cases h2 : size < 0
  ·have hn : zvnZ (size0,l) size=none:=if_neg (λh=>by omega)
   simp [h1,h2,ast];exact ContK.none hn
  ·by_cases h3 : 1099511627776 < size
   ·have hn : zvnZ (size0,l) size=none:=if_neg (λh=>by omega)
    simp [h1,h2,h3,ast];exact ContK.none hn
   ·have hw : zvnZ (size0,l) size=some (size,zbgfZ l size):=if_pos ⟨h1,by omega,by omega⟩
    simp [h1,h2,h3,ast];have hno:=λx hx=>(zbgkZ h1.2.2 x hx)
    have hstep : ∀ (k : Nat) (y : Ext),l[k]? = some y→zbgfZ (l.take (k + 1)) size=zbgfZ (l.take k) size ++ if y.no * 8 < size then [wipeE y size 1099511627776] else []:=by
     intro k y hy;unfold zbgfZ wipeL;rw [List.take_add_one,hy,List.filter_append,List.map_append]
     congr 1
     split <;> simp [*]
    have hlenF : ∀ k,(zbgfZ (l.take k) size).length≤l.length:=λk=>by
     unfold zbgfZ wipeL;rw [List.length_map];exact Nat.le_trans (List.length_filter_le _ _) (by rw [List.length_take]; omega)
    refine zkiZ (λt x1 x2 x4 x6 x7 H=>∃ (k : Nat) (w : AV),k + t=l.length∧x1=I size∧x2 = .ptr 0 0∧x4 = .ptr 1 0∧x6 = .ptr 2 0∧x7=I k∧BuildP (I size0) v size (zbgfZ (l.take k) size) w H) ?_ l.length
     ⟨0,nilSl,by omega,rfl,rfl,rfl,rfl,rfl,rfl,rfl,rfl,rfl,rfl,by simp [idS]⟩
    rintro t x1 x2 x4 x6 x7 H R hR ⟨k,w,hk,rfl,rfl,rfl,rfl,rfl,hB⟩;unfold zfqZ;have hB':=hB;obtain ⟨e0,e1,e2,e3,e4,e5⟩:=hB';have hH2:=(gSI.1 e2).1;rcases Nat.lt_or_ge k l.length with hlt | hge
    ·have hx:=gEG hlt
     generalize l[k]=y at hx;have hy:=hno y (List.mem_of_getElem? hx);have g:=Grew.app H [some (.cells (encE y))];simp [e0,hv.len,hlt,hv.idx zbmZ hx rfl,-zhpZ,zlZ e0];rw [ast_e (by simp) (by rfl)]
     have nxt : ∀ H2 w2,BuildP (I size0) v size (zbgfZ (l.take (k + 1)) size) w2 H2→zcqZ R (I size) (.ptr 0 0) (.ptr 1 0) (.ptr 2 0) (I k) H2 (ContK (zvnZ (size0,l) size)):=by
      intro H2 w2 h2;rw [zlfZ];unfold zflZ;simp [zbdZ (a:=k) (b:=1) (by omega) (by omega)];exact hR (t - 1) _ _ _ _ _ _ (by omega) ⟨k + 1,w2,by omega,rfl,rfl,rfl,rfl,rfl,h2⟩
     by_cases hc : size≤y.no * 8
     ·simp [zshZ (a:=y.no) (b:=8) (by omega) (by omega),hc]
      refine nxt _ w ?_;rw [hstep k y hx,if_neg (by omega),List.append_nil];exact hB.grew g
     ·simp [zshZ (a:=y.no) (b:=8) (by omega) (by omega),hc]
      have hxo : H.length ∉ idS w:=λh=>by have:=zrZ e3 _ h; omega
      refine zjtZ R (λq z1 z2 z4 z6 z7 z8 z9 H2=>∃ j : Nat,j + q=8∧z1=I size∧z2 = .ptr 0 0∧z4 = .ptr 1 0∧z6 = .ptr 2 0∧z7=I k∧z8 = .ptr H.length 0∧z9=I j∧BuildP (I size0) v size (zbgfZ (l.take k) size) w H2∧H2[H.length]? = some (some (.cells (encE (wipeE y size (y.no * 8 + j)))))) ?_ 8
       ⟨0,rfl,rfl,rfl,rfl,rfl,rfl,rfl,rfl,hB.grew g,by rw [wipe_none (.inr (.inl (by omega)))]; simp⟩
      rintro q z1 z2 z4 z6 z7 z8 z9 H2 R2 hR2 ⟨j,hj,rfl,rfl,rfl,rfl,rfl,rfl,rfl,hB2,hxc⟩;unfold zfeZ;have hxol:=(gSI.1 hxc).1
      have nxt2 : ∀ H3,BuildP (I size0) v size (zbgfZ (l.take k) size) w H3→H3[H.length]? = some (some (.cells (encE (wipeE y size (y.no * 8 + ((j + 1 : Nat) : Int))))))→j < 8→zcpZ R2 R (I size) (.ptr 0 0) (.ptr 1 0) (.ptr 2 0) (I k) (.ptr H.length 0) (I j) H3 (ContK (zvnZ (size0,l) size)):=by
       intro H3 h1 h2 h3;rw [zljZ];unfold zfgZ;simp [zbdZ (a:=j) (b:=1) (by omega) (by omega)];exact hR2 (q - 1) _ _ _ _ _ _ _ _ (by omega) ⟨j + 1,by omega,rfl,rfl,rfl,rfl,rfl,rfl,rfl,h1,h2⟩
      rcases Nat.lt_or_ge j 8 with hlj | hgj
      ·have hlj' : (j : Int) < 8:=by omega
       have hn0 : (encE (wipeE y size (y.no * 8 + j)))[0]? = some (I y.no):=rfl;simp [hlj',hxc,hn0,zshZ (a:=y.no) (b:=8) (by omega) (by omega),zbdZ (a:=y.no * 8) (b:=j) (by omega) (by omega)]
       by_cases hs : size≤y.no * 8 + j
       ·have e1 : aixA 8 1 (.ptr H.length 1) (I j)=some (.ptr H.length (1 + j)):=by
         simp [aixA,aint]; omega
        have hwl:=zbmZ (wipeE y size (y.no * 8 + j));simp [hs,e1];rw [zcoZ (n:=1) (off:=1 + j) (xs:=[.lit (.int .u8 0)]) rfl hxc rfl (by omega)];simp;refine nxt2 _ (hB2.other (by omega) hxo) ?_ hlj;rw [gSS hxol,enc_set0 (x:=wipeE y size (y.no * 8 + j)) (y:=wipeE y size (y.no * 8 + ((j + 1 : Nat) : Int))) rfl hlj];intro a ha;rw [zhgZ ha,zhgZ ha]
        by_cases c1 : a=j
        ·rw [if_pos c1,if_pos (by omega)]
        ·rw [if_neg c1]
         by_cases c2 : size≤y.no * 8 + (a : Int)∧y.no * 8 + (a : Int) < y.no * 8 + j
         ·rw [if_pos c2,if_pos (by omega)]
         ·rw [if_neg c2,if_neg (by omega)]
       ·simp [hs]
        refine nxt2 _ hB2 ?_ hlj;rw [hxc,wipe_none (.inl (by omega)),wipe_none (.inl (by omega))]
      ·have : j=8:=by omega
       subst this
       have hY : wipeE y size (y.no * 8 + ((8 : Nat) : Int))=wipeE y size 1099511627776:=ext_eq rfl λa ha=>by
        rw [zhgZ ha,zhgZ ha]
        by_cases c2 : size≤y.no * 8 + (a : Int)
        ·rw [if_pos (by omega),if_pos (by omega)]
        ·rw [if_neg (by omega),if_neg (by omega)]
       rw [hY] at hxc;obtain ⟨d0,d1,d2,d3,d4,d5⟩:=hB2;obtain ⟨r,H4,H5,q1,q2,q3,q4,q5,q6⟩:=BuildP.add ⟨d0,d1,d2,d3,d4,d5⟩ (wipeE y size 1099511627776) (by have:=hlenF k; omega);simp only [show ¬ ((8 : Nat) : Int) < 8 by omega,zglZ,zbZ,dFf,zpZ,zmZ,zeZ,Nat.zero_add,Nat.add_zero,zlZ d2,zdZ,zlZ hxc,rd_e'];simp only [gCS,gCZ,zbZ,absl_e,zbpZ,q1];rw [zcoZ (n:=1) (off:=1) (xs:=[r]) (cs:=[I size,w]) (zbsZ q3) q2 rfl (by simp)];simp;refine nxt _ r ?_;rw [hstep k y hx,if_pos (by omega)];rw [q4] at q5;exact q5
    ·have : k=l.length:=by omega
     subst this;have hko:=zbiZ e4;simp [hv.len,-zhpZ,zlZ e0,zlZ e2,ztZ];rw [zcoZ (n:=2) (off:=0) (xs:=[I size,w]) (cs:=[I 0,nilSl]) (by simp [hko]) e1 rfl (by simp)];simp [show 1 < H.length by omega,ztZ];rw [List.take_length] at e3
     exact ContK.some hw (zcZ e3 λi hi=>by
      have h2 : 3≤i:=Nat.le_of_not_lt λh=>e5 i h hi
      rw [gSN (by omega)])
 ·have hn : zvnZ (size0,l) size=none:=if_neg (λh=>h1 h.1)
  simp [h1,ast];exact ContK.none hn
theorem zvzZ {size : Int} {l : List Ext} {v : AV} (hv : SV encE 9 l v) (hl : l.length≤1000000) (pos n : Int) :
  ∃ R,SV encE 9 (cL (zwxZ (size,l) pos n)) R∧BPure Tryz.prog 136 [.agg [I size,v],I pos,I n] (.tup [.agg [I (cS (zwxZ (size,l) pos n)),R],B (zwxZ (size,l) pos n).isSome]):=by
 refine BPure.cont (by simp [zdcZ,noIds,hv.1]) (zscZ ?_);unfold zlvZ;simp [znnZ hv,ztZ];refine zyZ (zdoZ hv (by omega)) ?_
 by_cases h1 : mayC size l
 ·by_cases h2 : maySp pos n
  ·have hw : zwxZ (size,l) pos n=some (size,zbglZ l pos n):=if_pos ⟨h1,h2⟩
   obtain ⟨g1,g2,g3,g4⟩:=h2;simp [h1,show ¬ pos < 0 by omega,show ¬ n < 1 by omega,show ¬ 1099511627776 < n by omega,zfpZ (a:=1099511627776) (b:=n) (by omega) (by omega),show ¬ 1099511627776 - n < pos by omega,ast];have hno:=λx hx=>(zbgkZ h1.2.2 x hx)
   have hstep : ∀ (k : Nat) (y : Ext),l[k]? = some y→zbglZ (l.take (k + 1)) pos n=zbglZ (l.take k) pos n ++ if pos≤y.no * 8∧y.no * 8 + 8≤pos + n then [] else [wipeE y pos (pos + n)]:=by
    intro k y hy;unfold zbglZ wipeL gone;rw [List.take_add_one,hy,List.filter_append,List.map_append]
    congr 1
    by_cases c1 : pos≤y.no * 8 <;> by_cases c2 : y.no * 8 + 8≤pos + n <;> simp [c1,c2]
   have hlenF : ∀ k,(zbglZ (l.take k) pos n).length≤l.length:=λk=>by
    unfold zbglZ wipeL;rw [List.length_map];exact Nat.le_trans (List.length_filter_le _ _) (by rw [List.length_take]; omega)
   refine znjZ (λt x1 x2 x3 x6 x8 x9 H=>∃ (k : Nat) (w : AV),k + t=l.length∧x1=I pos∧x2=I n∧x3 = .ptr 0 0∧x6 = .ptr 1 0∧x8 = .ptr 2 0∧x9=I k∧BuildP (I size) v size (zbglZ (l.take k) pos n) w H) ?_ l.length
    ⟨0,nilSl,by omega,rfl,rfl,rfl,rfl,rfl,rfl,rfl,rfl,rfl,rfl,rfl,by simp [idS]⟩
   rintro t x1 x2 x3 x6 x8 x9 H R hR ⟨k,w,hk,rfl,rfl,rfl,rfl,rfl,rfl,hB⟩;unfold zhcZ;have hB':=hB;obtain ⟨e0,e1,e2,e3,e4,e5⟩:=hB';have hH2:=(gSI.1 e2).1;rcases Nat.lt_or_ge k l.length with hlt | hge
   ·have hx:=gEG hlt
    generalize l[k]=y at hx;have hy:=hno y (List.mem_of_getElem? hx);have g:=Grew.app H [some (.cells (encE y))];simp [e0,hv.len,hlt,hv.idx zbmZ hx rfl,-zhpZ,zlZ e0];rw [ast_e (by simp) (by rfl)];simp
    have nxt : ∀ H2 w2,BuildP (I size) v size (zbglZ (l.take (k + 1)) pos n) w2 H2→zdgZ R (I pos) (I n) (.ptr 0 0) (.ptr 1 0) (.ptr 2 0) (I k) H2 (ContK (zwxZ (size,l) pos n)):=by
     intro H2 w2 h2;rw [zntZ];unfold zgpZ;simp [zbdZ (a:=k) (b:=1) (by omega) (by omega)];exact hR (t - 1) _ _ _ _ _ _ _ (by omega) ⟨k + 1,w2,by omega,rfl,rfl,rfl,rfl,rfl,rfl,h2⟩
    have hxo : H.length ∉ idS w:=λh=>by have:=zrZ e3 _ h; omega
    refine zmfZ R (λq z1 z2 z3 z6 z8 z9 z10 z11 z12 H2=>∃ j : Nat,j + q=8∧z1=I pos∧z2=I n∧z3 = .ptr 0 0∧z6 = .ptr 1 0∧z8 = .ptr 2 0∧z9=I k∧z10 = .ptr H.length 0∧z11=I (max 0 (min (pos + n) (y.no * 8 + j) - max pos (y.no * 8)))∧z12=I j∧BuildP (I size) v size (zbglZ (l.take k) pos n) w H2 ∧
     H2[H.length]? = some (some (.cells (encE (wipeE y pos (min (pos + n) (y.no * 8 + j))))))) ?_ 8
     ⟨0,rfl,rfl,rfl,rfl,rfl,rfl,rfl,rfl,by rw [show max 0 (min (pos + n) (y.no * 8 + ((0 : Nat) : Int)) - max pos (y.no * 8))=0 by omega],rfl,hB.grew g,by rw [wipe_none (by omega)]; simp⟩
    rintro q z1 z2 z3 z6 z8 z9 z10 z11 z12 H2 R2 hR2 ⟨j,hj,rfl,rfl,rfl,rfl,rfl,rfl,rfl,rfl,rfl,hB2,hxc⟩;unfold zgrZ;have hxol:=(gSI.1 hxc).1
    have nxt2 : ∀ H3 c,c=max 0 (min (pos + n) (y.no * 8 + ((j + 1 : Nat) : Int)) - max pos (y.no * 8))→BuildP (I size) v size (zbglZ (l.take k) pos n) w H3→H3[H.length]? = some (some (.cells (encE (wipeE y pos (min (pos + n) (y.no * 8 + ((j + 1 : Nat) : Int)))))))→j < 8→zdhZ R2 R (I pos) (I n) (.ptr 0 0) (.ptr 1 0) (.ptr 2 0) (I k) (.ptr H.length 0) (I c) (I j) H3 (ContK (zwxZ (size,l) pos n)):=by
     rintro H3 c rfl h1 h2 h3;rw [znvZ];unfold zgqZ;simp [zbdZ (a:=j) (b:=1) (by omega) (by omega)];exact hR2 (q - 1) _ _ _ _ _ _ _ _ _ _ (by omega) ⟨j + 1,by omega,rfl,rfl,rfl,rfl,rfl,rfl,rfl,rfl,rfl,h1,h2⟩
    rcases Nat.lt_or_ge j 8 with hlj | hgj
    ·have hlj' : (j : Int) < 8:=by omega
     have hn0 : (encE (wipeE y pos (min (pos + n) (y.no * 8 + j))))[0]? = some (I y.no):=rfl
     by_cases hs : pos≤y.no * 8 + j∧y.no * 8 + j < pos + n
     ·have e1 : aixA 8 1 (.ptr H.length 1) (I j)=some (.ptr H.length (1 + j)):=by
       simp [aixA,aint]; omega
      have hwl:=zbmZ (wipeE y pos (min (pos + n) (y.no * 8 + j)));simp [hlj',hxc,hn0,zshZ (a:=y.no) (b:=8) (by omega) (by omega),zbdZ (a:=y.no * 8) (b:=j) (by omega) (by omega),zbdZ (a:=pos) (b:=n) (by omega) (by omega),hs.1,hs.2,e1];rw [zcoZ (n:=1) (off:=1 + j) (xs:=[.lit (.int .u8 0)]) rfl hxc rfl (by omega)];simp;rw [zbdZ (by omega) (by omega)];simp;refine nxt2 _ _ (by omega) (hB2.other (by omega) hxo) ?_ hlj;rw [gSS hxol,enc_set0 (x:=wipeE y pos (min (pos + n) (y.no * 8 + j))) (y:=wipeE y pos (min (pos + n) (y.no * 8 + ((j + 1 : Nat) : Int)))) rfl hlj];intro a ha;rw [zhgZ ha,zhgZ ha]
      by_cases c1 : a=j
      ·rw [if_pos c1,if_pos (by omega)]
      ·rw [if_neg c1]
       by_cases c2 : pos≤y.no * 8 + (a : Int)∧y.no * 8 + (a : Int) < min (pos + n) (y.no * 8 + j)
       ·rw [if_pos c2,if_pos (by omega)]
       ·rw [if_neg c2,if_neg (by omega)]
     ·have hsame : encE (wipeE y pos (min (pos + n) (y.no * 8 + ((j + 1 : Nat) : Int))))=encE (wipeE y pos (min (pos + n) (y.no * 8 + j))):=by
       congr 1
       refine ext_eq rfl λa ha=>?_
       rw [zhgZ ha,zhgZ ha]
       by_cases c2 : pos≤y.no * 8 + (a : Int)∧y.no * 8 + (a : Int) < min (pos + n) (y.no * 8 + j)
       ·rw [if_pos c2,if_pos (by omega)]
       ·rw [if_neg c2,if_neg (by omega)]
      by_cases hs1 : pos≤y.no * 8 + j
      ·have hs2 : ¬ y.no * 8 + j < pos + n:=λh=>hs ⟨hs1,h⟩
       simp [hlj',hxc,hn0,zshZ (a:=y.no) (b:=8) (by omega) (by omega),zbdZ (a:=y.no * 8) (b:=j) (by omega) (by omega),zbdZ (a:=pos) (b:=n) (by omega) (by omega),hs1,hs2];exact nxt2 _ _ (by omega) hB2 (by rw [hsame]; exact hxc) hlj
      ·simp [hlj',hxc,hn0,zshZ (a:=y.no) (b:=8) (by omega) (by omega),zbdZ (a:=y.no * 8) (b:=j) (by omega) (by omega),zbdZ (a:=pos) (b:=n) (by omega) (by omega),hs1]
       exact nxt2 _ _ (by omega) hB2 (by rw [hsame]; exact hxc) hlj
    ·have : j=8:=by omega
     subst this
     have hY : wipeE y pos (min (pos + n) (y.no * 8 + ((8 : Nat) : Int)))=wipeE y pos (pos + n):=ext_eq rfl λa ha=>by
      rw [zhgZ ha,zhgZ ha]
      by_cases c2 : pos≤y.no * 8 + (a : Int)∧y.no * 8 + (a : Int) < pos + n
      ·rw [if_pos (by omega),if_pos (by omega)]
      ·rw [if_neg (by omega),if_neg (by omega)]
     rw [hY] at hxc;simp only [show ¬ ((8 : Nat) : Int) < 8 by omega,zglZ,zbZ,dFf,zpZ,zmZ]
     by_cases hg : pos≤y.no * 8∧y.no * 8 + 8≤pos + n
     ·have hc : ¬ max 0 (min (pos + n) (y.no * 8 + ((8 : Nat) : Int)) - max pos (y.no * 8)) < 8:=by omega
      simp only [hc,dFf,zmZ];refine nxt _ w ?_;rw [hstep k y hx,if_pos hg,List.append_nil];exact hB2
     ·have hc : max 0 (min (pos + n) (y.no * 8 + ((8 : Nat) : Int)) - max pos (y.no * 8)) < 8:=by omega
      simp only [hc,dTt,zbcZ];obtain ⟨d0,d1,d2,d3,d4,d5⟩:=hB2;obtain ⟨r,H4,H5,q1,q2,q3,q4,q5,q6⟩:=BuildP.add ⟨d0,d1,d2,d3,d4,d5⟩ (wipeE y pos (pos + n)) (by have:=hlenF k; omega);simp only [zeZ,Nat.zero_add,Nat.add_zero,zlZ d2,zdZ,zlZ hxc,rd_e'];simp only [gCS,gCZ,zbZ,absl_e,zbpZ,q1];rw [zlZ d2];simp only [zdZ,gCS,gCZ,zbZ,zbpZ,q1];rw [zcoZ (n:=1) (off:=1) (xs:=[r]) (cs:=[I size,w]) (zbsZ q3) q2 rfl (by simp)];simp;refine nxt _ r ?_;rw [hstep k y hx,if_neg hg];rw [q4] at q5;exact q5
   ·have : k=l.length:=by omega
    subst this;have hko:=zbiZ e4;simp [hv.len,-zhpZ,zlZ e0,zlZ e2,ztZ];rw [zcoZ (n:=2) (off:=0) (xs:=[I size,w]) (cs:=[I 0,nilSl]) (by simp [hko]) e1 rfl (by simp)];simp [show 1 < H.length by omega,ztZ];rw [List.take_length] at e3
    exact ContK.some hw (zcZ e3 λi hi=>by
     have h2 : 3≤i:=Nat.le_of_not_lt λh=>e5 i h hi
     rw [gSN (by omega)])
  ·have hn : zwxZ (size,l) pos n=none:=if_neg (λh=>h2 h.2)
   by_cases g1 : pos < 0
   ·simp [h1,g1,ast]
    exact ContK.none hn
   ·by_cases g2 : n < 1
    ·simp [h1,g1,g2,ast]
     exact ContK.none hn
    ·by_cases g3 : 1099511627776 < n
     ·simp [h1,g1,g2,g3,ast]
      exact ContK.none hn
     ·have g4 : 1099511627776 - n < pos:=Int.lt_of_not_ge λh=>h2 ⟨by omega,by omega,by omega,h⟩
      simp [h1,g1,g2,g3,zfpZ (a:=1099511627776) (b:=n) (by omega) (by omega),g4,ast];exact ContK.none hn
 ·have hn : zwxZ (size,l) pos n=none:=if_neg (λh=>h1 h.1)
  simp [h1,ast];exact ContK.none hn
def GrN (N : Nat) (H H' : AH) : Prop:=H.length≤H'.length∧∀ i,i < N→H'[i]? = H[i]?
theorem GrN.trans {N : Nat} {A B C : AH} (h : GrN N A B) (k : GrN N B C) : GrN N A C:=⟨Nat.le_trans h.1 k.1,λi hi=>(k.2 i hi).trans (h.2 i hi)⟩
theorem GrN.of {N : Nat} {A B : AH} (h : Grew A B) (hN : N≤A.length) : GrN N A B:=⟨h.1,λi hi=>h.2 i (by omega)⟩
structure OwN (N sz : Nat) (cs : List AV) (n : Nat) (r : AV) (H : AH) : Prop where
 s : zaZ H sz r=some (cs,n)
 o : zjsZ r=true
 i : ∀ i ∈ idS r,N≤i
 c : capOk r n
theorem app0 {sz bytes : Nat} {H : AH} {x : AV} {ds : List AV} {m : Nat} (hx : zdeZ H sz x=some (ds,m)) (hb : m * bytes≤140737488355328) : ∃ r H',aap sz bytes H nilSl x=some (r,H')∧OwN H.length sz ds m r H'∧Grew H H':=by
 have h0 : zaZ H sz nilSl=some ([],0):=rfl;obtain ⟨r,H2,a1,a2,a3,a4,a5,a6⟩:=zjmZ (bytes:=bytes) h0 rfl hx (by rw [Nat.zero_add]; exact hb);have a7:=aap_cap h0 rfl hx (by simp [capOk]) a1;exact ⟨r,H2,a1,⟨by simpa using a3,a2,λi hi=>(a6 i hi).elim (by simp [idS]) id,by simpa using a7⟩,a4,λi hi=>a5 i hi (by simp [idS])⟩
theorem app1 {N sz bytes : Nat} {H : AH} {s x : AV} {cs ds : List AV} {n m : Nat} (hs : OwN N sz cs n s H) (hx : zdeZ H sz x=some (ds,m)) (hN : N≤H.length) (hb : (n + m) * bytes≤140737488355328) : ∃ r H',aap sz bytes H s x=some (r,H')∧OwN N sz (cs ++ ds) (n + m) r H'∧GrN N H H':=by
 obtain ⟨r,H2,a1,a2,a3,a4,a5,a6⟩:=zjmZ (bytes:=bytes) hs.s hs.o hx hb;have a7:=aap_cap hs.s hs.o hx hs.c a1;exact ⟨r,H2,a1,⟨a3,a2,λi hi=>(a6 i hi).elim (hs.i i) (λq=>by omega),a7⟩,a4,λi hi=>a5 i (by omega) (λq=>by have:=hs.i i q; omega)⟩
theorem OwN.grew {N sz n : Nat} {cs : List AV} {r : AV} {H H' : AH} (h : OwN N sz cs n r H) (g : Grew H H') : OwN N sz cs n r H':=⟨g.slice h.s,h.o,h.i,h.c⟩
theorem zxgZ {α : Type} {enc : α→List AV} {sz : Nat} (hsz : ∀ x,(enc x).length=sz) {H : AH} {v : AV} {l : List α} (h : zaZ H sz v=some (l.flatMap enc,l.length)) {k : Nat} (hk : k≤l.length) :
  (∃ r,aslS sz v none (some (I k)) none=some r∧zaZ H sz r=some ((l.take k).flatMap enc,k)∧∀ i ∈ idS r,i ∈ idS v)∧∃ r,aslS sz v (some (I k)) none none=some r∧zaZ H sz r=some ((l.drop k).flatMap enc,l.length - k)∧∀ i ∈ idS r,i ∈ idS v:=by
 constructor
 ·obtain ⟨r,h1,h2,h3,-⟩:=zrvZ h (lo:=none) (hi:=some (I k)) (l:=0) (k:=k) rfl (by simp [abnd]) (by omega) hk
  refine ⟨r,h1, ?_,h3⟩;rw [h2,Nat.zero_mul,List.drop_zero,Nat.sub_zero,zttZ hsz]
 ·obtain ⟨r,h1,h2,h3,-⟩:=zrvZ h (lo:=some (I k)) (hi:=none) (l:=k) (k:=l.length) (by simp [abnd]) rfl hk (Nat.le_refl _)
  refine ⟨r,h1, ?_,h3⟩;rw [h2,zseZ hsz,List.take_of_length_le]
  rw [zcvZ h2 |> λe=>(by
   have:=zseZ hsz l k
   rw [← this,List.length_drop,zcvZ h,Nat.mul_comm,← Nat.mul_comm sz,← Nat.mul_sub,Nat.mul_comm] : ((l.drop k).flatMap enc).length=(l.length - k) * sz)]
  exact Nat.le_refl _
theorem called_c {L oi : Nat} {ns : List Nm} {dv : List NdV} {a b : AV} {H : AH} {s : List UInt8} {no : Int} (h : ImH L oi ns dv a b H) (hn : ns.length≤100000) :
  ∃ r H',ImP L oi H (insK cmpN Nm.name ns ⟨s,no⟩) dv r H'∧BCall Tryz.prog 175 [.ptr oi 0,S (bstr s),I no] H r H':=zbapZ (by
 unfold zvaZ;have c0:=h.obj;refine ztlZ (λn x0 x1 x2 x6 H'=>∃ k : Nat,k + n=ns.length∧x0 = .ptr oi 0∧x1=S (bstr s)∧x2=I no∧x6=I k∧H'=H∧∀ m y,m < k→ns[m]? = some y→cmpN y.name s < 0) ?_ ns.length ⟨0,by omega,rfl,rfl,rfl,rfl,rfl,by omega⟩;rintro n x0 x1 x2 x6 H' R hR ⟨k,hk,rfl,rfl,rfl,rfl,rfl,hlt⟩;unfold znaZ;have ln:=zhxZ h.sa;have fin : posK cmpN Nm.name ns s=k →
   bO (aslS 2 a none (some (I k)) none) (λv31=>bH (aap 2 24 H' nilSl v31) λv32 H33=>
    bO (abl [(.lit (.string ⟨#[]⟩)),(I 0)] [(0,1,S (bstr s)),(1,1,I no)]) λv34=>bH (absl H33 2 1 (zrow [(.lit (.string ⟨#[]⟩)),(I 0)] 1) [(0,2,v34)]) λv35 H36=>bH (aap 2 24 H36 v32 v35) λv37 H38=>
    bO (zgZ (.ptr oi 0)) λv39=>bO (zhZ 0 v39) λv40=>bO (ald false 1 H38 v40) λv41=>bO (aslS 2 v41 (some (I k)) none none) λv42=>bH (aap 2 24 H38 v37 v42) λv43 H44=>
    bO (zgZ (.ptr oi 0)) λv45=>bO (zhZ 0 v45) λv46=>bS (ast 1 H44 v46 v43) λH47=>ImP L oi H' (insK cmpN Nm.name ns ⟨s,no⟩) dv (.tup []) H47):=by
  intro hp;obtain ⟨⟨s1,e1,t1,i1⟩,-⟩:=zxgZ zgfZ h.sa (show k≤ns.length by omega);obtain ⟨r1,H1,e2,w1,g1⟩:=app0 (bytes:=24) (znZ t1) (by omega);have g2:=Grew.app H1 [some (.cells (encN ⟨s,no⟩))];have w2:=w1.grew g2;have hl1:=g1.1;have x1 : zdeZ (H1 ++ [some (.cells (encN ⟨s,no⟩))]) 2 (.sl H1.length 0 1 2 (.ex 1))=some (encN ⟨s,no⟩,1):=znZ (by rw [zbuZ (c:=encN ⟨s,no⟩) (by simp) (by simp [encN])]; rfl);obtain ⟨r2,H2,e3,w3,g3⟩:=app1 (bytes:=24) w2 x1 (by simp; omega) (by omega);have gg : GrN H'.length H' H2:=(GrN.of (g1.trans g2) (Nat.le_refl _)).trans g3;have hol:=(gSI.1 c0).1;have c2 : H2[oi]? = some (some (.cells [a,b])):=by rw [gg.2 oi hol]; exact c0
  have sa2 : zaZ H2 2 a=some (ns.flatMap encN,ns.length):=zcZ h.sa λi hi=>gg.2 i (zrZ h.sa i hi)
  obtain ⟨-,⟨s2,e4,t2,i2⟩⟩:=zxgZ zgfZ sa2 (show k≤ns.length by omega);obtain ⟨r3,H3,e5,w4,g4⟩:=app1 (bytes:=24) w3 (znZ t2) gg.1 (by omega);have el:=insK_len (c:=cmpN) (key:=Nm.name) (l:=ns) (x:=⟨s,no⟩)
  have ev : (ns.take k).flatMap encN ++ encN ⟨s,no⟩ ++ (ns.drop k).flatMap encN=(insK cmpN Nm.name ns ⟨s,no⟩).flatMap encN:=by
   unfold insK;rw [show posK cmpN Nm.name ns (Nm.name ⟨s,no⟩)=k from hp,List.flatMap_append,List.flatMap_cons,List.append_assoc]
  have en : k + 1 + (ns.length - k)=(insK cmpN Nm.name ns ⟨s,no⟩).length:=by omega
  have g5:=gg.trans g4;obtain ⟨H4,e6,n1,n2⟩:=h.newA (ms:=insK cmpN Nm.name ns ⟨s,no⟩) (H':=H3) (r:=r3) g5.1 (λi hi _=>g5.2 i hi) (by rw [← ev,← en]; exact w4.s) w4.o (by rw [← en]; exact w4.c) (λi hi=>.inr (w4.i i hi));have e7 : absl H1 2 1 (zrow [(.lit (.string ⟨#[]⟩)),(I 0)] 1) [(0,2,.agg (encN ⟨s,no⟩))]=some (.sl H1.length 0 1 2 (.ex 1),H1 ++ [some (.cells (encN ⟨s,no⟩))]):=rfl;have e8 : abl [(.lit (.string ⟨#[]⟩)),(I 0)] [(0,1,S (bstr s)),(1,1,I no)]=some (.agg (encN ⟨s,no⟩)):=rfl;have e9 : ald false 1 H2 (.ptr oi 0)=some a:=by rw [zlZ c2]; rfl
  simp only [e1,zbZ,e2,zbpZ,e8,e7,e3]
  show bO (some (AV.ptr oi 0)) _
  simp only [zbZ]
  show bO (some (AV.ptr oi 0)) _
  simp only [zbZ,e9,e4,e5,zbpZ]
  show bO (some (AV.ptr oi 0)) _
  simp only [zbZ]
  show bO (some (AV.ptr oi 0)) _
  simp only [zbZ,e6,zcaZ];exact ⟨rfl,r3,b,n1,n2⟩
 rcases Nat.lt_or_ge k ns.length with hkl | hkl
 ·have hx:=gEG hkl
  generalize ns[k]=x at hx;obtain ⟨o,off,cells,u1,u2,u3,u4,u5,-⟩:=own_at zgfZ (by omega) h.sa h.oa hx;have u50:=u5 0 (by omega);rw [Nat.add_zero] at u50
  by_cases hc : cmpN x.name s < 0
  ·simp [c0,ln,hkl,u1,u3,u50,encN,abT_lss,hc,zbdZ (a:=k) (b:=1) (by omega) (by omega)]
   exact hR (n - 1) _ _ _ _ _ (by omega) ⟨k + 1,by omega,rfl,rfl,rfl,by simp,rfl,λm y hm hy=>by
    by_cases c2 : m=k
    ·rw [c2,hx] at hy; injection hy with hy; rw [← hy]; exact hc
    ·exact hlt m y (by omega) hy⟩
  ·have:=fin (posK_eq (by omega) hlt (λy hy=>by rw [hx] at hy; injection hy with hy; rw [← hy]; exact hc))
   simp [c0] at this;simp [c0,ln,hkl,u1,u3,u50,encN,abT_lss,hc];exact this
 ·have:=fin (posK_eq (by omega) hlt (λy hy=>by have:=(gSI.1 hy).1; omega))
  simp [c0] at this;simp [c0,ln,show ¬ k < ns.length by omega];exact this)
theorem Sm.sub {ns ms : List Nm} {ds es : List Nd} (h : Sm ns ds) (h1 : ms.Sublist ns) (h2 : es.Sublist ds) : Sm ms es :=
 ⟨Nat.le_trans h1.length_le h.1,Nat.le_trans h2.length_le h.2.1,λx hx=>h.2.2.1 x (h1.subset hx),λd hd=>h.2.2.2 d (h2.subset hd)⟩
theorem cutN {L oi k : Nat} {ns : List Nm} {dv : List NdV} {a b : AV} {H : AH} (h : ImH L oi ns dv a b H) (hk : k < ns.length) (hn : ns.length≤100000) :
  ∃ s1 r1 H1 s2 r2 H2 H3,aslS 2 a none (some (I k)) none=some s1∧aap 2 24 H nilSl s1=some (r1,H1)∧H1[oi]? = some (some (.cells [a,b]))∧aslS 2 a (some (I ((k : Int) + 1))) none none=some s2∧aap 2 24 H1 r1 s2=some (r2,H2)∧ast 1 H2 (.ptr oi 0) r2=some H3∧ImH L oi (ns.take k ++ ns.drop (k + 1)) dv r2 b H3∧FrL L oi H H3:=by
 have c0:=h.obj;obtain ⟨⟨s1,e1,t1,i1⟩,-⟩:=zxgZ zgfZ h.sa (show k≤ns.length by omega);obtain ⟨r1,H1,e2,w1,g1⟩:=app0 (bytes:=24) (znZ t1) (by omega);have sa1:=g1.slice h.sa;obtain ⟨-,⟨s2,e4,t2,i2⟩⟩:=zxgZ zgfZ sa1 (show k + 1≤ns.length by omega);obtain ⟨r2,H2,e5,w4,g4⟩:=app1 (bytes:=24) w1 (znZ t2) g1.1 (by omega);have g5:=(GrN.of g1 (Nat.le_refl _)).trans g4;have en : k + (ns.length - (k + 1))=(ns.take k ++ ns.drop (k + 1)).length:=by simp; omega
 obtain ⟨H3,e6,n1,n2⟩:=h.newA (ms:=ns.take k ++ ns.drop (k + 1)) (H':=H2) (r:=r2) g5.1 (λi hi _=>g5.2 i hi) (by rw [List.flatMap_append,← en]; exact w4.s) w4.o (by rw [← en]; exact w4.c) (λi hi=>.inr (w4.i i hi));exact ⟨s1,r1,H1,s2,r2,H2,H3,e1,e2,g1.cells c0,e4,e5,e6,n1,n2⟩
theorem cutD {L oi k : Nat} {ns : List Nm} {dv : List NdV} {a b : AV} {H : AH} (h : ImH L oi ns dv a b H) (hk : k < dv.length) (hn : dv.length≤100000) :
  ∃ s1 r1 H1 s2 r2 H2 H3,aslS 3 b none (some (I k)) none=some s1∧aap 3 40 H nilSl s1=some (r1,H1)∧H1[oi]? = some (some (.cells [a,b]))∧aslS 3 b (some (I ((k : Int) + 1))) none none=some s2∧aap 3 40 H1 r1 s2=some (r2,H2)∧ast 1 H2 (.ptr oi 1) r2=some H3∧ImH L oi ns (dv.take k ++ dv.drop (k + 1)) a r2 H3∧FrL L oi H H3:=by
 have c0:=h.obj;obtain ⟨⟨s1,e1,t1,i1⟩,-⟩:=zxgZ zffZ h.sb (show k≤dv.length by omega);obtain ⟨r1,H1,e2,w1,g1⟩:=app0 (bytes:=40) (znZ t1) (by omega);have sa1:=g1.slice h.sb;obtain ⟨-,⟨s2,e4,t2,i2⟩⟩:=zxgZ zffZ sa1 (show k + 1≤dv.length by omega);obtain ⟨r2,H2,e5,w4,g4⟩:=app1 (bytes:=40) w1 (znZ t2) g1.1 (by omega);have g5:=(GrN.of g1 (Nat.le_refl _)).trans g4;have en : k + (dv.length - (k + 1))=(dv.take k ++ dv.drop (k + 1)).length:=by simp; omega
 obtain ⟨H3,e6,n1,n2⟩:=h.newB (ew:=dv.take k ++ dv.drop (k + 1)) (H':=H2) (r:=r2) g5.1 (λi hi _=>g5.2 i hi) (by rw [List.flatMap_append,← en]; exact w4.s) w4.o (by rw [← en]; exact w4.c) (λi hi=>.inr (w4.i i hi));exact ⟨s1,r1,H1,s2,r2,H2,H3,e1,e2,g1.cells c0,e4,e5,e6,n1,n2⟩
theorem gone_c {L oi : Nat} {ns : List Nm} {dv : List NdV} {a b : AV} {H : AH} {s : List UInt8} (h : ImH L oi ns dv a b H) (hs : srtK cmpN Nm.name ns) (hd : srtK cmpI NdV.ino dv) (hb : Sm ns (dv.map NdV.nd)) (q : hasK Nm.name ns s) (f : Bool) (hk : f=true→hasK NdV.ino dv (nameI ns s)) :
  ∃ r H',ImP L oi H (delK cmpN Nm.name ns s) (if f=true then delK cmpI NdV.ino dv (nameI ns s) else dv) r H'∧BCall Tryz.prog 176 [.ptr oi 0,S (bstr s),B f] H r H':=zbddZ (by
 have b1:=hb.1;have b2:=hb.2.1;rw [List.length_map] at b2;obtain ⟨Ra,Rb,sa,sb,fz⟩:=h.lend;have c0:=h.obj;have b0 : ∀ x y : AV,ztZ true 2 [x,y] 0=some (.agg [x,y]):=λ_ _=>rfl
 unfold zzbZ;simp [c0,b0];refine bP_of (PCall.lend (FZs.cons fz (FZs.cons (FZ.lit _) FZs.nil)) rfl (znhZ ⟨Ra,Rb,dv,rfl,sa,sb,rfl⟩ hb s)) ?_;rw [idxK_pos koN hs q];obtain ⟨x,hx1,hx2,hx3⟩:=zypZ koN hs q;have en : nameI ns s=x.ino:=by unfold nameI; rw [hx2]
 rw [en] at hk ⊢;obtain ⟨o,off,cells,u1,u2,u3,u4,u5,-⟩:=own_at zgfZ (by omega) h.sa h.oa hx1;have u51:=u5 1 (by omega);have hpl:=(gSI.1 hx1).1;obtain ⟨s1,r1,H1,s2,r2,H2,H3,e1,e2,e3,e4,e5,e6,n1,n2⟩:=cutN h hpl b1;have c3:=n1.obj;have n1' : ImH L oi (delK cmpN Nm.name ns s) dv r2 b H3:=n1;obtain ⟨Sa,Sb,ta,tb,gz⟩:=n1'.lend;have hb2 : Sm (delK cmpN Nm.name ns s) (dv.map NdV.nd):=hb.sub delK_sub (List.Sublist.refl _);simp [c0,u1,u3,u51,encN,e1,e2,e3,zbdZ (a:=(posK cmpN Nm.name ns s : Nat)) (b:=1) (by omega) (by omega),e4,e5,e6,c3,b0];refine bP_of (PCall.lend (FZs.cons gz (FZs.cons (FZ.lit _) FZs.nil)) rfl (ztyZ ⟨Sa,Sb,dv,rfl,ta,tb,rfl⟩ hb2 x.ino)) ?_;cases f with
 | false =>
  simp;exact ⟨rfl,_,_,n1',n2⟩
 | true =>
  have hk:=hk rfl;rw [idxK_pos koI (zbgbZ.2 hd) (zbbmZ.2 hk),zbfyZ];have hdl:=hasK_pos koI hd hk;obtain ⟨s3,r3,H4,s4,r4,H5,H6,f1,f2,f3,f4,f5,f6,m1,m2⟩:=cutD n1' hdl b2;simp [c3,f1,f2,f3,zbdZ (a:=(posK cmpI NdV.ino dv x.ino : Nat)) (b:=1) (by omega) (by omega),f4,f5,f6];exact ⟨rfl,_,_,m1,n2.trans m2⟩)
theorem CopyImage_c {H : AH} {ns : List Nm} {dv : List NdV} {a b : AV} (sa : SV encN 2 ns a) (sb : SV encD 3 dv b) (hn : ns.length≤100000) (hm : dv.length≤100000) (hl : ∀ d ∈ dv,d.nd.l.length≤1000000) :
  ∃ r H',CopyK H ns (dv.map NdV.nd) r H'∧BCall Tryz.prog 140 [.agg [a,b]] H r H':=zwwZ (by
 unfold zplZ;have oa:=SV.oneA sa;have ob:=SV.oneA sb
 obtain ⟨H3,e3,c0,c1,g3,l3⟩ : ∃ H3,anew (H ++ [some (.cells [a,b])]) (.agg [nilSl,nilSl])=some (.ptr (H.length + 1) 0,H3)∧H3[H.length]? = some (some (.cells [a,b]))∧H3[H.length + 1]? = some (some (.cells [nilSl,nilSl]))∧Grew H H3∧H3.length=H.length + 2:=by
  refine ⟨H ++ [some (.cells [a,b]),some (.cells [nilSl,nilSl])],by simp,by simp,by rw [List.getElem?_append_right (by omega)]; simp,Grew.app _ _,by simp⟩
 simp [oa,ob,e3,c0];obtain ⟨ra,H7,e7,w7,g7⟩:=app0 (bytes:=24) (znZ (sa.2 H3)) (by omega);have ra1:=zbiZ w7.o;have l7:=g7.1;have w7i:=w7.i;simp [e7,zbsZ ra1]
 -- the new image
 obtain ⟨H11,e11,d9,g11,l11⟩ : ∃ H11,ast 2 (H7 ++ [some (.cells [nilSl,nilSl])]) (.ptr H7.length 0) (.agg [ra,nilSl])=some H11∧H11[H7.length]? = some (some (.cells [ra,nilSl]))∧Grew H7 H11∧H11.length=H7.length + 1:=by
  exact ⟨H7 ++ [some (.cells [ra,nilSl])],by simp [ast,zlaZ,ra1,zbsZ ra1],by simp,Grew.app _ _,by simp⟩
 simp [e11];have sra:=g11.slice w7.s;have d0:=g11.cells (g7.cells c0);have d1:=g11.cells (g7.cells c1);have gall : Grew H H11:=g3.trans (g7.trans g11);refine zpyZ (λn x1 x2 x3 x4 H'=>∃ (k : Nat) (ew : List NdV) (rb : AV),k + n=dv.length∧x1 = .ptr H.length 0∧x2 = .ptr (H.length + 1) 0∧x3 = .ptr H7.length 0∧x4=I k∧ew.map NdV.nd=(dv.map NdV.nd).take k∧H'[H7.length]? = some (some (.cells [ra,rb]))∧OwN H11.length 3 (ew.flatMap encD) ew.length rb H'∧H11.length≤H'.length∧∀ i,i < H11.length→i ≠ H7.length→H'[i]? = H11[i]?) ?_ dv.length ⟨0,[],nilSl,by omega,rfl,rfl,rfl,rfl,rfl,d9,⟨rfl,rfl,by simp [idS],by simp [capOk]⟩,Nat.le_refl _,λ_ _ _=>rfl⟩;rintro n x1 x2 x3 x4 H' R hR ⟨k,ew,rb,hk,rfl,rfl,rfl,rfl,hew,h9,hrb,hlen,hfr⟩;unfold zjiZ;have f0 : H'[H.length]? = some (some (.cells [a,b])):=by rw [hfr _ (by omega) (by omega)]; exact d0
 have el : ew.length=k:=by have:=congrArg List.length hew; simp at this; omega
 have rb1:=zbiZ hrb.o;rcases Nat.lt_or_ge k dv.length with h | h
 ·have hx:=gEG h
  generalize dv[k]=x at hx;have hxl:=hl x (List.mem_of_getElem? hx);obtain ⟨R2,s2,p2⟩:=copyOf_p (size:=x.nd.size) x.h (by omega);have ei:=sb.idx zffZ hx rfl;have o2:=SV.oneA s2;simp [f0,sb.len,h,h9,ei,encD_0,encD_c];refine bP_of p2 ?_;have ap : zdeZ H' 3 (.imm [I x.nd.ino,I x.nd.size,R2] 1 3)=some (encD ⟨x.nd,R2,s2⟩,1):=znZ (by simp [zaZ,encD]);obtain ⟨r4,H4,e4,w4,g4⟩:=app1 (bytes:=40) hrb ap hlen (by omega);have hH7 : H7.length < H11.length:=by omega
  have k9 : H4[H7.length]? = some (some (.cells [ra,rb])):=by rw [g4.2 _ hH7]; exact h9
  have r41:=zbiZ w4.o
  have e5 : ast 1 H4 (.ptr H7.length 1) r4=some (H4.set H7.length (some (.cells [ra,r4]))):=by
   rw [zcoZ (n:=1) (off:=1) (xs:=[r4]) (cs:=[ra,rb]) (zbsZ r41) k9 rfl (by simp)]; rfl
  have k9l:=(gSI.1 k9).1;simp [zbsZ o2,o2,e4,e5,absf,zrow,zbdZ (a:=k) (b:=1) (by omega) (by omega)];refine hR (n - 1) _ _ _ _ _ (by omega) ⟨k + 1,ew ++ [⟨x.nd,R2,s2⟩],r4,by omega,rfl,rfl,rfl,by simp, ?_,by simp [k9l],⟨?_,w4.o,w4.i,by simpa using w4.c⟩,by rw [List.length_set]; have:=g4.1; omega,λi i1 i2=>?_⟩
  ·rw [List.map_append,hew,zxsZ (x:=x.nd) (by rw [List.getElem?_map,hx]; rfl)]; rfl
  ·have:=w4.s
   rw [List.flatMap_append,List.flatMap_singleton,List.length_append,List.length_singleton];exact zcZ this λi hi=>gSN (by have:=w4.i i hi; omega)
  ·rw [gSN (Ne.symm i2),g4.2 i i1,hfr i i1 i2]
 ·have ek : (dv.map NdV.nd).take k=dv.map NdV.nd:=List.take_of_length_le (by simp; omega)
  rw [ek] at hew;have b0 : ztZ true 2 [ra,rb] 0=some (.agg [ra,rb]):=rfl;have f1 : H'[H.length + 1]? = some (some (.cells [nilSl,nilSl])):=by rw [hfr _ (by omega) (by omega)]; exact d1
  have f1l:=(gSI.1 f1).1
  have e5 : ast 2 H' (.ptr (H.length + 1) 0) (.agg [ra,rb])=some (H'.set (H.length + 1) (some (.cells [ra,rb]))):=by
   rw [zcoZ (n:=2) (off:=0) (xs:=[ra,rb]) (by simp [ra1,rb1]) f1 rfl (by simp)]; rfl
  simp [f0,sb.len,show ¬ k < dv.length by omega,h9,b0,e5,f1l];have lta:=zrZ w7.s;refine ⟨ra,rb,ew,rfl,hew,⟨by rw [List.length_set]; omega,λi hi=>by rw [gSN (by omega),hfr i (by omega) (by omega)]; exact gall.2 i hi⟩,⟨?_,w7.o,w7.c,λi q=>by have:=w7i i q; omega, ?_,hrb.o,hrb.c,λi q=>by have:=hrb.i i q; omega,λi q1 q2=>by have:=hrb.i i q2; have:=lta i q1; omega⟩⟩
  ·refine zcZ sra λi q=>?_
   have h1:=w7i i q;have h2:=lta i q;rw [gSN (by omega),hfr i (by omega) (by omega)]
  ·exact zcZ hrb.s λi q=>gSN (by have:=hrb.i i q; omega))
theorem ref_change_p {d : Nd} {R bv : AV} {o : OpM} (hv : SV encE 9 d.l R) (hl : d.l.length≤1000000) (hb : SV encU 1 o.b bv) (hbl : o.b.length≤281474976710656) :
  ∃ R',SV encE 9 (cL (chgC o d)) R'∧BPure Tryz.prog 177 [.agg [I d.size,R],.agg (opA o bv)] (.tup [.agg [I (cS (chgC o d)),R'],B (chgC o d).isSome]):=by
 have o1:=SV.oneA hv;have o3:=SV.oneA hb;have hids : zdcZ [.agg [I d.size,R],.agg (opA o bv)]=true:=by simp [zdcZ,noIds,hv.1,opA,hb.1]
 have wk : ∀ (res : Option Cont) (R' : AV),chgC o d=res→SV encE 9 (cL res) R'→zdsZ (.agg [I d.size,R]) (.agg (opA o bv)) [] (λr _=>r = .tup [.agg [I (cS res),R'],B res.isSome])→∃ R',SV encE 9 (cL (chgC o d)) R'∧BPure Tryz.prog 177 [.agg [I d.size,R],.agg (opA o bv)] (.tup [.agg [I (cS (chgC o d)),R'],B (chgC o d).isSome]):=by
  intro res R' hr h1 h2;rw [hr];exact ⟨R',h1,BPure.val hids (by simp [noIds,zdcZ,h1.1]) (zbamZ h2)⟩
 have b8 : ztZ true 8 (opA o bv) 0=some (.agg (opA o bv)):=rfl
 by_cases k2 : o.kind=2
 ·obtain ⟨R',s1,p1⟩:=zwfZ (size:=d.size) hv hl o.pos hb hbl
  refine wk _ R' (by unfold chgC; rw [if_pos k2]) s1 ?_;have o2:=SV.oneA s1;unfold zdsZ;simp [o1,o3,opA,k2,ztZ];refine zyZ p1 ?_;simp [o2,zbsZ o2,ast,zlaZ,ztZ]
 ·by_cases k3 : o.kind=3
  ·obtain ⟨R',s1,p1⟩:=zpwZ (size0:=d.size) hv hl o.size
   refine wk _ R' (by unfold chgC; rw [if_neg k2,if_pos k3]) s1 ?_;have o2:=SV.oneA s1;unfold zdsZ;simp [o1,o3,opA,k3,ztZ];refine zyZ p1 ?_;simp [o2,zbsZ o2,ast,zlaZ,ztZ]
  ·by_cases k4 : o.kind=4
   ·obtain ⟨R',s1,p1⟩:=zpqZ (size:=d.size) hv hl o.pos o.size o.keep
    refine wk _ R' (by unfold chgC; rw [if_neg k2,if_neg k3,if_pos k4]) s1 ?_;have o2:=SV.oneA s1;unfold zdsZ;simp [o1,o3,opA,k4,ztZ];refine zyZ p1 ?_;simp [o2,zbsZ o2,ast,zlaZ,ztZ]
   ·by_cases k5 : o.kind=5
    ·obtain ⟨R',s1,p1⟩:=zvzZ (size:=d.size) hv hl o.pos o.size
     refine wk _ R' (by unfold chgC; rw [if_neg k2,if_neg k3,if_neg k4,if_pos k5]) s1 ?_;have o2:=SV.oneA s1;unfold zdsZ;simp [o1,o3,opA,k5,ztZ];refine zyZ p1 ?_;simp [o2,zbsZ o2,ast,zlaZ,ztZ]
    ·refine wk none nilSl (by unfold chgC; rw [if_neg k2,if_neg k3,if_neg k4,if_neg k5]) SV.nil ?_
     unfold zdsZ;simp [o1,o3,opA,k2,k3,k4,k5,ast,zlaZ,ztZ,cS]
theorem chgD_other {ds : List Nd} {o : OpM} (h : ¬ (o.kind=2∨o.kind=3∨o.kind=4∨o.kind=5)) : chgD ds o=ds:=by
 have hn : ∀ d,chgC o d=none:=λd=>by
  unfold chgC;rw [if_neg (by omega),if_neg (by omega),if_neg (by omega),if_neg (by omega)]
 unfold chgD
 split
 ·rw [hn]
 ·rfl
theorem zevZ {oi : Nat} {ns : List Nm} {dv : List NdV} {a b : AV} {H : AH} {p : List Nm × List Nd} (h : ImH 3 oi ns dv a b H) (hoi : 3≤oi) (h2 : H[2]? = some (some (.cells [nilSl,nilSl]))) (hp : p=(ns,dv.map NdV.nd)) : zbbZ (.ptr 2 0) (.ptr oi 0) H (ApK p):=by
 rw [zmqZ]; unfold zhzZ;have c0:=h.obj;have b0 : ztZ true 2 [a,b] 0=some (.agg [a,b]):=rfl;have ra1:=zbiZ h.oa;have rb1:=zbiZ h.ob;have hcl:=(gSI.1 h2).1
 have e5 : ast 2 H (.ptr 2 0) (.agg [a,b])=some (H.set 2 (some (.cells [a,b]))):=by
  rw [zcoZ (n:=2) (off:=0) (xs:=[a,b]) (by simp [ra1,rb1]) h2 rfl (by simp)]; rfl
 simp [c0,b0,e5,hcl];have h3 : ImH 3 oi ns dv a b (H.set 2 (some (.cells [a,b]))):=⟨by rw [gSN (by omega)]; exact c0,h.lo,by simpa using h.len,zcZ h.sa λi q=>gSN (by have:=h.ia i q; omega),h.oa,h.ca,h.ia,zcZ h.sb λi q=>gSN (by have:=h.ib i q; omega),h.ob,h.cb,h.ib,h.ab⟩;obtain ⟨Ra,Rb,sa,sb,fz⟩:=h3.lend;subst hp;exact ⟨_,fz,Ra,Rb,dv,rfl,sa,sb,rfl⟩
theorem ref_ins {oi : Nat} {ns : List Nm} {dv : List NdV} {a b bv : AV} {H : AH} {o : OpM} {K : AV→AH→Prop} (h : ImH 3 oi ns dv a b H) (hp : H[1]? = some (some (.cells (opA o bv)))) (hoi : 3≤oi) (hm : dv.length≤100000)
  (hK : ∀ r H',ImH 3 oi ns (insK cmpI NdV.ino dv (newD o.ino)) a r H'→FrL 3 oi H H'→zbbZ (.ptr 2 0) (.ptr oi 0) H' K) : zixZ (.ptr 1 0) (.ptr 2 0) (.ptr oi 0) (I 0) H K:=by
 have c0:=h.obj;refine zsoZ (λn x3 x4 x5 x6 H'=>∃ k : Nat,k + n=dv.length∧x3 = .ptr 1 0∧x4 = .ptr 2 0∧x5 = .ptr oi 0∧x6=I k∧H=H'∧∀ m y,m < k→dv[m]? = some y→cmpI y.ino o.ino < 0) ?_ dv.length ⟨0,by omega,rfl,rfl,rfl,rfl,rfl,by omega⟩;rintro n x3 x4 x5 x6 H' R hR ⟨k,hk,rfl,rfl,rfl,rfl,rfl,hlt⟩;unfold znqZ;have ln:=zhxZ h.sb;have fin : posK cmpI NdV.ino dv o.ino=k →
   bO (aslS 3 b none (some (I k)) none) (λv27=>bH (aap 3 40 H nilSl v27) λv28 H29=>
    bO (zhZ 1 (.ptr 1 0)) λv30=>bO (ald false 1 H29 v30) λv31=>bO (abl [(I 0),(I 0),nilSl] [(0,1,v31)]) λv32=>bH (absl H29 3 1 (zrow [(I 0),(I 0),nilSl] 1) [(0,3,v32)]) λv33 H34=>bH (aap 3 40 H34 v28 v33) λv35 H36=>
    bO (zhZ 1 (.ptr oi 0)) λv37=>bO (ald false 1 H36 v37) λv38=>bO (aslS 3 v38 (some (I k)) none none) λv39=>bH (aap 3 40 H36 v35 v39) λv40 H41=>
    bO (zhZ 1 (.ptr oi 0)) λv42=>bS (ast 1 H41 v42 v40) λH43=>zbbZ (.ptr 2 0) (.ptr oi 0) H43 K):=by
  intro hp0;have hol:=(gSI.1 c0).1;obtain ⟨⟨s1,e1,t1,i1⟩,-⟩:=zxgZ zffZ h.sb (show k≤dv.length by omega);obtain ⟨r1,H1,e2,w1,g1⟩:=app0 (bytes:=40) (znZ t1) (by omega);have p1:=g1.cells hp;have g2:=Grew.app H1 [some (.cells (encD (newD o.ino)))];have w2:=w1.grew g2;have hl1:=g1.1;have x1 : zdeZ (H1 ++ [some (.cells (encD (newD o.ino)))]) 3 (.sl H1.length 0 1 3 (.ex 1))=some (encD (newD o.ino),1):=znZ (by rw [zbuZ (c:=encD (newD o.ino)) (by simp) (by simp [encD])]; rfl);obtain ⟨r2,H2,e3,w3,g3⟩:=app1 (bytes:=40) w2 x1 (by simp; omega) (by omega);have gg : GrN H.length H H2:=(GrN.of (g1.trans g2) (Nat.le_refl _)).trans g3;have c2 : H2[oi]? = some (some (.cells [a,b])):=by rw [gg.2 oi hol]; exact c0
  have sb2 : zaZ H2 3 b=some (dv.flatMap encD,dv.length):=zcZ h.sb λi hi=>gg.2 i (zrZ h.sb i hi)
  obtain ⟨-,⟨s2,e4,t2,i2⟩⟩:=zxgZ zffZ sb2 (show k≤dv.length by omega);obtain ⟨r3,H3,e5,w4,g4⟩:=app1 (bytes:=40) w3 (znZ t2) gg.1 (by omega);have el:=insK_len (c:=cmpI) (key:=NdV.ino) (l:=dv) (x:=newD o.ino)
  have ev : (dv.take k).flatMap encD ++ encD (newD o.ino) ++ (dv.drop k).flatMap encD=(insK cmpI NdV.ino dv (newD o.ino)).flatMap encD:=by
   unfold insK;rw [show posK cmpI NdV.ino dv (NdV.ino (newD o.ino))=k from hp0,List.flatMap_append,List.flatMap_cons,List.append_assoc]
  have en : k + 1 + (dv.length - k)=(insK cmpI NdV.ino dv (newD o.ino)).length:=by omega
  have g5:=gg.trans g4;obtain ⟨H4,e6,n1,n2⟩:=h.newB (ew:=insK cmpI NdV.ino dv (newD o.ino)) (H':=H3) (r:=r3) g5.1 (λi hi _=>g5.2 i hi) (by rw [← ev,← en]; exact w4.s) w4.o (by rw [← en]; exact w4.c) (λi hi=>.inr (w4.i i hi));have e7 : absl H1 3 1 (zrow [(I 0),(I 0),nilSl] 1) [(0,3,.agg (encD (newD o.ino)))]=some (.sl H1.length 0 1 3 (.ex 1),H1 ++ [some (.cells (encD (newD o.ino)))]):=rfl;have e8 : abl [(I 0),(I 0),nilSl] [(0,1,I o.ino)]=some (.agg (encD (newD o.ino))):=rfl;have e9 : ald false 1 H2 (.ptr oi 1)=some b:=by rw [zlZ c2]; rfl
  have e10 : ald false 1 H1 (.ptr 1 1)=some (I o.ino):=by rw [zlZ p1]; rfl
  simp only [e1,zbZ,e2,zbpZ]
  show bO (some (AV.ptr 1 1)) _
  simp only [zbZ,e10,e8,e7,zbpZ,e3]
  show bO (some (AV.ptr oi 1)) _
  simp only [zbZ,e9,e4,e5,zbpZ]
  show bO (some (AV.ptr oi 1)) _
  simp only [zbZ,e6,zcaZ];exact hK r3 H4 n1 n2
 rcases Nat.lt_or_ge k dv.length with hkl | hkl
 ·have hx:=gEG hkl
  generalize dv[k]=x at hx;obtain ⟨o',off,cells,u1,u2,u3,u4,u5,-⟩:=own_at zffZ (by omega) h.sb h.ob hx;have u50:=u5 0 (by omega);rw [Nat.add_zero] at u50
  by_cases hc : cmpI x.ino o.ino < 0
  ·have hc' : x.nd.ino < o.ino:=cmpI_lt.1 hc
   simp [c0,hp,opA,ln,hkl,u1,u3,u50,encD,hc',zbdZ (a:=k) (b:=1) (by omega) (by omega)]
   exact hR (n - 1) _ _ _ _ _ (by omega) ⟨k + 1,by omega,rfl,rfl,rfl,by simp,rfl,λm y hm hy=>by
    by_cases c2 : m=k
    ·rw [c2,hx] at hy; injection hy with hy; rw [← hy]; exact hc
    ·exact hlt m y (by omega) hy⟩
  ·have:=fin (posK_eq (by omega) hlt (λy hy=>by rw [hx] at hy; injection hy with hy; rw [← hy]; exact hc))
   have hc' : ¬ x.nd.ino < o.ino:=λq=>hc (cmpI_lt.2 q)
   simp [c0] at this;simp [c0,hp,opA,ln,hkl,u1,u3,u50,encD,hc'];exact this
 ·have:=fin (posK_eq (by omega) hlt (λy hy=>by have:=(gSI.1 hy).1; omega))
  simp [c0] at this;simp [c0,ln,show ¬ k < dv.length by omega];exact this
section
variable {κ α : Type} {c : κ→κ→Int} {key : α→κ}
theorem srtK_ext (hc : KO c) : ∀ {l m : List α},srtK c key l→srtK c key m→(∀ x,x ∈ l ↔ x ∈ m)→l=m
 | [],[],_,_,_ => rfl
 | [],b :: m,_,_,h => by have:=(h b).2 (by simp); simp at this
 | a :: l,[],_,_,h => by have:=(h a).1 (by simp); simp at this
 | a :: l,b :: m,h1,h2,h => by
  have k1:=List.pairwise_cons.1 h1;have k2:=List.pairwise_cons.1 h2
  have e : a=b:=by
   rcases List.mem_cons.1 ((h a).1 (by simp)) with e | q1
   ·exact e
   ·rcases List.mem_cons.1 ((h b).2 (by simp)) with e | q2
    ·exact e.symm
    ·exact absurd (hc.trans _ _ _ (k1.1 b q2) (k2.1 a q1)) (hc.irr _)
  subst e
  congr 1
  refine srtK_ext hc k1.2 k2.2 λx=>?_
  have irr : ∀ y,y ∈ l∨y ∈ m→y ≠ a:=by
   rintro y (q | q) rfl
   ·exact hc.irr _ (k1.1 y q)
   ·exact hc.irr _ (k2.1 y q)
  constructor
  ·intro q
   rcases List.mem_cons.1 ((h x).1 (by simp [q])) with e | q2
   ·exact absurd e (irr x (.inl q))
   ·exact q2
  ·intro q
   rcases List.mem_cons.1 ((h x).2 (by simp [q])) with e | q2
   ·exact absurd e (irr x (.inr q))
   ·exact q2
theorem zbgaZ (hc : KO c) {l : List α} (h : srtK c key l) {k k2 : κ} (hk : hasK key l k) (hne : k2 ≠ k) : hasK key (delK c key l k) k2 ↔ hasK key l k2:=by
 constructor
 ·rintro ⟨x,hx,e⟩
  exact ⟨x,delK_sub.subset hx,e⟩
 ·rintro ⟨x,hx,e⟩
  exact ⟨x,(zzmZ hc h hk).2 ⟨hx,by rw [e]; exact hne⟩,e⟩
theorem delK_comm (hc : KO c) {l : List α} (h : srtK c key l) {k k2 : κ} (hk : hasK key l k) (hk2 : hasK key l k2) (hne : k ≠ k2) : delK c key (delK c key l k) k2=delK c key (delK c key l k2) k:=by
 refine srtK_ext hc (zrbZ (zrbZ h)) (zrbZ (zrbZ h)) λx=>?_
 rw [zzmZ hc (zrbZ h) ((zbgaZ hc h hk (Ne.symm hne)).2 hk2),zzmZ hc h hk,zzmZ hc (zrbZ h) ((zbgaZ hc h hk2 hne).2 hk),zzmZ hc h hk2,and_right_comm]
end
theorem nameI_del {ns : List Nm} (hs : srtK cmpN Nm.name ns) {s t : List UInt8} (hk : hasK Nm.name ns s) (ht : hasK Nm.name ns t) (hne : t ≠ s) : nameI (delK cmpN Nm.name ns s) t=nameI ns t:=by
 obtain ⟨x,h1,h2,rfl⟩:=atK_has ht;unfold nameI;rw [h1,atK_eq koN (zrbZ hs) ((zzmZ koN hs hk).2 ⟨h2,hne⟩)]
end Go.Proofs.YtlhiaihmkjlaaaaGreat.Av
end
section
namespace Go.Proofs.YtlhiaihmkjlaaaaGreat.Av
open Go Go.RowKit
theorem idxK_ge {κ α : Type} [DecidableEq κ] {key : α→κ} {l : List α} {k : κ} : 0≤idxK key l k ↔ hasK key l k:=by
 constructor
 ·intro h
  refine Classical.byContradiction λq=>?_
  have:=zbcuZ.2 q
  omega
 ·intro h
  obtain ⟨j,x,h1,-⟩:=idxK_has h;omega
theorem renOk_doc {ns : List Nm} {ds : List Nd} {o : OpM} (hm : mayI ns ds) (h1 : ¬ o.kind=1) (h2 : ¬ (o.kind=2∨o.kind=3∨o.kind=4∨o.kind=5)) (h6 : o.kind=6) (hc : renOk ns o.name o.to) :
  ziaZ ns ds o=(insK cmpN Nm.name (delK cmpN Nm.name (if hasK Nm.name ns o.to then delK cmpN Nm.name ns o.to else ns) o.name) ⟨o.to,nameI ns o.name⟩,if hasK Nm.name ns o.to then delK cmpI Nd.ino ds (nameI ns o.to) else ds):=by
 unfold ziaZ;rw [if_pos hm,if_neg h1,if_neg h2,if_pos h6,if_pos hc];have hs:=hm.1.2.2.1;unfold remNs remD;have hd:=zbgaZ koN hs hc.1 (Ne.symm hc.2.2)
 by_cases ht : hasK Nm.name ns o.to
 ·rw [if_pos ht,if_pos (hd.2 ht),if_pos ht,if_pos (hd.2 ht),delK_comm koN hs hc.1 ht hc.2.2,nameI_del hs hc.1 ht (Ne.symm hc.2.2)]
 ·rw [if_neg ht,if_neg (λh=>ht (hd.1 h)),if_neg ht,if_neg (λh=>ht (hd.1 h))]
theorem ref_Apply_p {ns : List Nm} {ds : List Nd} {v bv : AV} {o : OpM} (hv : ImV ns ds v) (hb : Sm ns ds) (hbv : SV encU 1 o.b bv) (hbl : o.b.length≤281474976710656) (hn : o.name.length≤1000000000) (ht : o.to.length≤1000000000) :
  ∃ R,ImV (ziaZ ns ds o).1 (ziaZ ns ds o).2 R∧BPure Tryz.prog 139 [v,.agg (opA o bv)] R:=by
 have hids:=hv.noIds;refine BPure.FZ (by simp [zdcZ] at hids ⊢; exact ⟨hids,by simp [opA,noIds,zdcZ,hbv.1]⟩) (zbckZ (K:=ApK (ziaZ ns ds o)) ?_);have hv0:=hv;obtain ⟨a,b,dv,rfl,sa,sb,rfl⟩:=hv;have b1:=hb.1;have b2:=hb.2.1;rw [List.length_map] at b2;have oa:=SV.oneA sa;have ob:=SV.oneA sb;have o3:=SV.oneA hbv;unfold zxlZ;obtain ⟨H5,e5,c0,c1,c2,l5⟩ : ∃ H5,anew [some (.cells [a,b]),some (.cells (opA o bv))] (.agg [nilSl,nilSl])=some (.ptr 2 0,H5)∧H5[0]? = some (some (.cells [a,b]))∧H5[1]? = some (some (.cells (opA o bv)))∧H5[2]? = some (some (.cells [nilSl,nilSl]))∧H5.length=3 :=
  ⟨[some (.cells [a,b]),some (.cells (opA o bv)),some (.cells [nilSl,nilSl])],by simp,rfl,rfl,rfl,rfl⟩
 have e4 : anew [some (.cells [a,b])] (.agg (opA o bv))=some (.ptr 1 0,[some (.cells [a,b]),some (.cells (opA o bv))]):=by simp [opA,o3]
 have b0 : ∀ x y : AV,ztZ true 2 [x,y] 0=some (.agg [x,y]):=λ_ _=>rfl
 have e0 : anew [] (.agg [a,b])=some (.ptr 0 0,[some (.cells [a,b])]):=by simp [oa,ob]
 simp [-anew_agg,e0,e4,e5,c0,b0];obtain ⟨r,H8,⟨a',b',ew,rfl,hew,hg,ow⟩,hc⟩:=CopyImage_c (H:=H5) sa sb (by omega) b2 (λd hd=>hb.2.2.2 d.nd (List.mem_map_of_mem hd));refine bC_of hc ?_;have a1:=zbiZ ow.oa;have a2:=zbiZ ow.ob;have l8:=hg.1;rw [l5] at ow l8
 obtain ⟨H11,e11,i9,g11,l11⟩ : ∃ H11,ast 2 (H8 ++ [some (.cells [nilSl,nilSl])]) (.ptr H8.length 0) (.agg [a',b'])=some H11∧ImH 3 H8.length ns ew a' b' H11∧Grew H8 H11∧H11.length=H8.length + 1:=by
  have g:=Grew.app H8 [some (.cells [a',b'])];refine ⟨H8 ++ [some (.cells [a',b'])],by simp [ast,zlaZ,a1,a2,zbsZ a1,zbsZ a2],⟨by simp,⟨λq=>by have:=zrZ ow.sa _ q; omega,λq=>by have:=zrZ ow.sb _ q; omega⟩,by simp; omega,g.slice ow.sa,ow.oa,ow.ca,ow.ia,g.slice ow.sb,ow.ob,ow.cb,ow.ib,ow.ab⟩,g,by simp⟩
 have e10 : anew H8 (.agg [nilSl,nilSl])=some (.ptr H8.length 0,H8 ++ [some (.cells [nilSl,nilSl])]):=by simp
 simp [-anew_agg,e10,e11];have k0:=g11.cells (hg.cells c0);have k1:=g11.cells (hg.cells c1);have k2:=g11.cells (hg.cells c2);have hoi : 3≤H8.length:=l8;generalize H8.length=oi at *;have d0:=i9.obj;have el : ew.length=dv.length:=by have:=congrArg List.length hew; simpa using this
 have keep : ∀ {H' : AH},FrL 3 oi H11 H'→H'[0]? = some (some (.cells [a,b]))∧H'[1]? = some (some (.cells (opA o bv)))∧H'[2]? = some (some (.cells [nilSl,nilSl])):=λf=>by
  rw [f.2 0 (by omega) (by omega),f.2 1 (by omega) (by omega),f.2 2 (by omega) (by omega)]; exact ⟨k0,k1,k2⟩
 have hsm : Sm ns (ew.map NdV.nd):=by rw [hew]; exact hb
 simp [-anew_agg,k0,b0];refine zyZ (zmrZ hv0 hb) ?_
 by_cases hm : mayI ns (dv.map NdV.nd)
 ·have hs:=hm.1.2.2.1
  have hdd:=hm.2.2.1;have hd : srtK cmpI NdV.ino ew:=by rw [← zbgbZ,hew]; exact hdd
  have hx : ∀ x ∈ ns,hasK NdV.ino ew x.ino:=λx hx=>by rw [← zbbmZ,hew]; exact (mayI_doc.1 hm).2.2.2.2.1 x hx
  simp [-anew_agg,hm,k1,opA]
  by_cases q1 : o.kind=1
  ·-- a file is made
   have hno : ¬ creI ns (dv.map NdV.nd) o→zbbZ (.ptr 2 0) (.ptr oi 0) H11 (ApK (ziaZ ns (dv.map NdV.nd) o)):=λhc=>zevZ i9 hoi k2 (by unfold ziaZ; rw [if_pos hm,if_pos q1,if_neg hc,hew])
   rw [decide_eq_true q1];simp only [zbcZ];refine zyZ (ziwZ (s:=o.name) (by omega)) ?_
   by_cases q3 : mayN o.name
   ·simp [q3,k0,k1,b0,opA]
    refine zyZ (znhZ hv0 hb o.name) ?_
    by_cases q4 : hasK Nm.name ns o.name
    ·have i4 : ¬ idxK Nm.name ns o.name < 0:=by rw [zbcuZ]; exact λh=>h q4
     simp [i4];exact hno λhc=>hc.1 q4
    ·have i4 : idxK Nm.name ns o.name < 0:=zbcuZ.2 q4
     simp [i4,k1,opA]
     by_cases q5 : 1≤o.ino
     ·by_cases q6 : o.ino≤4611686018427387904
      ·simp [q5,q6,k0,k1,b0,opA]
       refine zyZ (ztyZ hv0 hb o.ino) ?_
       by_cases q7 : hasK Nd.ino (dv.map NdV.nd) o.ino
       ·have i7 : ¬ idxK Nd.ino (dv.map NdV.nd) o.ino < 0:=by rw [zbcuZ]; exact λh=>h q7
        simp [i7];exact hno λhc=>hc.2.1 q7
       ·have i7 : idxK Nd.ino (dv.map NdV.nd) o.ino < 0:=zbcuZ.2 q7
        by_cases q8 : ns.length < 16
        ·have q8' : (ns.length : Int) < 16:=by omega
         have hc : creI ns (dv.map NdV.nd) o:=⟨q4,q7,q3,q5,q6,q8⟩
         have e : ziaZ ns (dv.map NdV.nd) o=(insK cmpN Nm.name ns ⟨o.name,o.ino⟩,(insK cmpI NdV.ino ew (newD o.ino)).map NdV.nd):=by
          unfold ziaZ; rw [if_pos hm,if_pos q1,if_pos hc,insK_map,hew]
         simp [i7,k0,sa.len,q8',k1,opA];obtain ⟨r2,H2,⟨rfl,a3,b3,i3,f3⟩,w3⟩:=called_c (s:=o.name) (no:=o.ino) i9 b1;refine bC_of w3 ?_;refine ref_ins i3 (keep f3).2.1 hoi (by omega) λr4 H4 i4 f4=>?_
         exact zevZ i4 hoi (keep (f3.trans f4)).2.2 e
        ·have q8' : ¬ (ns.length : Int) < 16:=by omega
         simp [i7,k0,sa.len,q8'];exact hno λhc=>q8 hc.2.2.2.2.2
      ·simp [q5,q6,k1,opA]
       exact hno λhc=>q6 hc.2.2.2.2.1
     ·simp [q5]
      exact hno λhc=>q5 hc.2.2.2.1
   ·simp [q3]
    exact hno λhc=>q3 hc.2.2.1
  ·by_cases q6 : o.kind=6
   ·have q2 : ¬ (o.kind=2∨o.kind=3∨o.kind=4∨o.kind=5):=by omega
    have hno : ¬ renOk ns o.name o.to→zbbZ (.ptr 2 0) (.ptr oi 0) H11 (ApK (ziaZ ns (dv.map NdV.nd) o)):=λhc=>zevZ i9 hoi k2 (by unfold ziaZ; rw [if_pos hm,if_neg q1,if_neg q2,if_pos q6,if_neg hc,hew])
    rw [decide_eq_false q1];simp only [zmZ];simp [q6,k0,k1,b0,opA];refine zyZ (znhZ hv0 hb o.name) ?_
    by_cases q3 : hasK Nm.name ns o.name
    ·have i3 : 0≤idxK Nm.name ns o.name:=idxK_ge.2 q3
     simp [i3,k1,opA];refine zyZ (ziwZ (s:=o.to) (by omega)) ?_
     by_cases q4 : mayN o.to
     ·simp [q4,k1,opA,abT_neq]
      by_cases q5 : o.to=o.name
      ·simp [q5]
       exact hno λhc=>hc.2.2 q5.symm
      ·have hc : renOk ns o.name o.to:=⟨q3,q4,Ne.symm q5⟩
       have e:=renOk_doc hm q1 q2 q6 hc;obtain ⟨Ra,Rb,ta,tb,fz⟩:=i9.lend
       have hJ : ∀ ns1 dw a1 b1 Hc,ImH 3 oi ns1 dw a1 b1 Hc→FrL 3 oi H11 Hc→srtK cmpN Nm.name ns1→srtK cmpI NdV.ino dw→Sm ns1 (dw.map NdV.nd)→hasK Nm.name ns1 o.name→ziaZ ns (dv.map NdV.nd) o=(insK cmpN Nm.name (delK cmpN Nm.name ns1 o.name) ⟨o.to,nameI ns o.name⟩,dw.map NdV.nd)→zgaZ (.ptr 0 0) (.ptr 1 0) (.ptr 2 0) (.ptr oi 0) (I (idxK Nm.name ns o.name)) Hc (ApK (ziaZ ns (dv.map NdV.nd) o)):=by
        intro ns1 dw a1 b1 Hc hi hf hs1 hd1 hb1 hk1 he;rw [zwpZ]; unfold zmyZ;obtain ⟨g0,g1,g2⟩:=keep hf;simp [g1,opA];obtain ⟨r2,H2,⟨rfl,a3,b3,i3,f3⟩,w3⟩:=gone_c (s:=o.name) hi hs1 hd1 hb1 hk1 false (by simp);refine bC_of w3 ?_;rw [zwsZ]; unfold zndZ;obtain ⟨g0,g1,g2⟩:=keep (hf.trans f3);rw [idxK_pos koN hs q3];obtain ⟨x,hx1,hx2,hx3⟩:=zypZ koN hs q3;have en : nameI ns o.name=x.ino:=by unfold nameI; rw [hx2]
        simp [g0,g1,opA,sa.idx zgfZ hx1 rfl,encN_1];obtain ⟨r4,H4,⟨rfl,a5,b5,i5,f5⟩,w5⟩:=called_c (s:=o.to) (no:=x.ino) i3 (Nat.le_trans delK_sub.length_le hb1.1);refine bC_of w5 ?_;rw [en] at he;exact zevZ i5 hoi (keep ((hf.trans f3).trans f5)).2.2 he
       simp [q5,d0,b0,k1,opA];refine bP_of (PCall.lend (FZs.cons fz (FZs.cons (FZ.lit _) FZs.nil)) rfl (znhZ ⟨Ra,Rb,ew,rfl,ta,tb,rfl⟩ hsm o.to)) ?_
       by_cases q7 : hasK Nm.name ns o.to
       ·have i7:=idxK_ge.2 q7
        rw [if_pos q7,if_pos q7] at e
        have hk7 : hasK NdV.ino ew (nameI ns o.to):=by
         obtain ⟨y,y1,y2,y3⟩:=atK_has q7;have : nameI ns o.to=y.ino:=by unfold nameI; rw [y1]
         rw [this]; exact hx y y2
        simp [i7,k1,opA];obtain ⟨r2,H2,⟨rfl,a3,b3,i3,f3⟩,w3⟩:=gone_c (s:=o.to) i9 hs hd hsm q7 true (λ_=>hk7);refine bC_of w3 ?_;refine hJ _ _ _ _ _ i3 f3 (zrbZ hs) (by simpa using zrbZ hd) (hsm.sub delK_sub (by simpa using delK_sub.map NdV.nd)) ((zbgaZ koN hs q7 (Ne.symm q5)).2 q3) ?_;rw [e,← hew];simp [delK_map]
       ·have i7 : ¬ 0≤idxK Nm.name ns o.to:=λh=>q7 (idxK_ge.1 h)
        rw [if_neg q7,if_neg q7] at e;simp [i7];exact hJ _ _ _ _ _ i9 (FrL.refl _ _ _) hs hd hsm q3 (by rw [e,hew])
     ·simp [q4]
      exact hno λhc=>q4 hc.2.1
    ·have i3 : ¬ 0≤idxK Nm.name ns o.name:=λh=>q3 (idxK_ge.1 h)
     simp [i3];exact hno λhc=>q3 hc.1
   ·by_cases q7 : o.kind=7
    ·have q2 : ¬ (o.kind=2∨o.kind=3∨o.kind=4∨o.kind=5):=by omega
     have e : ziaZ ns (dv.map NdV.nd) o=(remNs ns o.name,(remDv ns ew o.name).map NdV.nd):=by
      unfold ziaZ;rw [if_pos hm,if_neg q1,if_neg q2,if_neg q6,if_pos q7,remDv_map,hew]
     rw [decide_eq_false q1];simp only [zmZ];simp [q7,k0,k1,b0,opA];refine zyZ (znhZ hv0 hb o.name) ?_
     by_cases q3 : hasK Nm.name ns o.name
     ·have i3:=idxK_ge.2 q3
      have hk7 : hasK NdV.ino ew (nameI ns o.name):=by
       obtain ⟨y,y1,y2,y3⟩:=atK_has q3;have : nameI ns o.name=y.ino:=by unfold nameI; rw [y1]
       rw [this]; exact hx y y2
      simp [i3,k1,opA];obtain ⟨r2,H2,⟨rfl,a3,b3,i3,f3⟩,w3⟩:=gone_c (s:=o.name) i9 hs hd hsm q3 true (λ_=>hk7);refine bC_of w3 ?_;refine zevZ i3 hoi (keep f3).2.2 (e.trans ?_);unfold remNs remDv;rw [if_pos q3,if_pos q3]; rfl
     ·have i3 : ¬ 0≤idxK Nm.name ns o.name:=λh=>q3 (idxK_ge.1 h)
      simp [i3];refine zevZ i9 hoi k2 (e.trans ?_);unfold remNs remDv;rw [if_neg q3,if_neg q3]
    ·have e : ziaZ ns (dv.map NdV.nd) o=(ns,chgD (ew.map NdV.nd) o):=by
      unfold ziaZ;rw [if_pos hm,if_neg q1,if_neg q6,if_neg q7,hew]
      by_cases q2 : o.kind=2∨o.kind=3∨o.kind=4∨o.kind=5
      ·rw [if_pos q2]
      ·rw [if_neg q2,chgD_other q2]
     rw [decide_eq_false q1];simp only [zmZ];simp [-anew_agg,q6,q7,k0,k1,b0,opA];refine zyZ (ztyZ hv0 hb o.ino) ?_
     by_cases q3 : hasK Nd.ino (dv.map NdV.nd) o.ino
     ·have i3:=idxK_ge.2 q3
      have hdv : srtK cmpI NdV.ino dv:=zbgbZ.1 hdd;have ek:=idxK_pos koI hdd q3;rw [zbfyZ] at ek;obtain ⟨x,hx1,hx2,hx3⟩:=zypZ koI hdv (zbbmZ.1 q3);have hxl:=hb.2.2.2 x.nd (List.mem_map_of_mem (List.mem_of_getElem? hx1));obtain ⟨R2,s2,p2⟩:=ref_change_p (d:=x.nd) (o:=o) x.h hxl hbv hbl;have o2:=SV.oneA s2
      obtain ⟨y,hy1,hy2⟩ : ∃ y,ew[posK cmpI NdV.ino dv o.ino]? = some y∧y.nd=x.nd:=by
       have h1 : (ew.map NdV.nd)[posK cmpI NdV.ino dv o.ino]? = some x.nd:=by rw [hew,List.getElem?_map,hx1]; rfl
       exact getElem?_map_nd h1
      have b8 : ztZ true 8 (opA o bv) 0=some (.agg (opA o bv)):=rfl;have ei:=sb.idx zffZ hx1 rfl
      obtain ⟨H1,f1,f2,f3,f4,f5⟩ : ∃ H1,anew H11 (.agg [I 0,nilSl])=some (.ptr H11.length 0,H1)∧H1[0]? = some (some (.cells [a,b]))∧H1[1]? = some (some (.cells (opA o bv)))∧H1=H11 ++ [some (.cells [I 0,nilSl])]∧Grew H11 H1:=by
       have g:=Grew.app H11 [some (.cells [I 0,nilSl])];exact ⟨_,by simp,g.cells k0,g.cells k1,rfl,g⟩
      obtain ⟨H2,f6,f7,f8⟩ : ∃ H2,ast 2 H1 (.ptr H11.length 0) (.agg [I (cS (chgC o x.nd)),R2])=some H2∧H2[H11.length]? = some (some (.cells [I (cS (chgC o x.nd)),R2]))∧Grew H11 H2:=by
       subst f4;exact ⟨H11 ++ [some (.cells [I (cS (chgC o x.nd)),R2])],by simp [ast,zlaZ,o2,zbsZ o2],by simp,Grew.app _ _⟩
      have i2:=i9.grew f8;have d2:=i2.obj;have fr2 : FrL 3 oi H11 H2:=⟨f8.1,λj j1 j2=>f8.2 j (by have:=i9.len; omega)⟩;have hat : atK Nd.ino (dv.map NdV.nd) o.ino=some x.nd:=atK_map hx2;simp [-anew_agg,i3,ek,k0,k1,b8,ei,encD_c];refine bP_of p2 ?_;simp only [zjZ,zbZ,gCZ,gCS,f1,zbpZ,f6,zcaZ];simp [f2,f3,b8,ei,encD_c];cases hr : chgC o x.nd with
      | none =>
       simp;refine ⟨by simp [ztZ,encD],rfl, ?_⟩;refine zevZ i2 hoi (keep fr2).2.2 (e.trans ?_);unfold chgD;rw [hew,hat];simp only [hr]
      | some c =>
       rw [hr] at s2 f7;obtain ⟨o',off,cells,H4,w1,w2,w3,w4,w5,w6⟩:=i2.putD (sz:=cS (some c)) hy1 s2;simp [d2,f7,w1,ztZ,w4];refine ⟨by rw [zffZ]; omega,rfl, ?_⟩;refine zevZ w5 hoi (keep (fr2.trans w6)).2.2 (e.trans ?_);unfold chgD;rw [hew,hat];simp only [hr,zbfyZ];rw [List.map_set,hew]
       congr 2
       rw [← hy2]; rfl
     ·have i3 : ¬ 0≤idxK Nd.ino (dv.map NdV.nd) o.ino:=λh=>q3 (idxK_ge.1 h)
      simp [i3];refine zevZ i9 hoi k2 (e.trans ?_);unfold chgD;rw [hew,atK_none q3]
 ·have e : ziaZ ns (dv.map NdV.nd) o=(ns,ew.map NdV.nd):=by unfold ziaZ; rw [if_neg hm,hew]
  have:=zevZ i9 hoi k2 e
  rw [zmqZ] at this; unfold zhzZ at this;simp [d0,b0] at this;simp [hm,d0,b0];exact this
theorem wr_len12 : ∀ {bs : List UInt8} {l : List Ext} {p : Int},(ztdZ l p bs).length≤l.length + bs.length
 | [],l,p => Nat.le_refl _
 | b :: r,l,p => by
  show (ztdZ (zspZ l p [b]) (p + 1) r).length≤_
  have ih:=wr_len12 (bs:=r) (l:=zspZ l p [b]) (p:=p + 1)
  have h : (zspZ l p [b]).length≤l.length + 1:=by
   unfold zspZ
   have:=need_len l (p / 8)
   simp [putL];omega
  simp only [List.length_cons]; omega
theorem chg_len {o : OpM} {d : Nd} : (cL (chgC o d)).length≤d.l.length + o.b.length + 4098:=by
 unfold chgC
 split
 ·unfold ztsZ
  split
  ·split
   ·simp only [cL,Option.getD_some]; omega
   ·simp only [cL,Option.getD_some]
    have:=wr_len12 (bs:=o.b) (l:=d.l) (p:=o.pos)
    omega
  ·simp [cL]
 ·split
  ·unfold zvnZ
   split
   ·simp only [cL,Option.getD_some,zbgfZ,wipeL,List.length_map]
    exact Nat.le_trans (List.length_filter_le _ _) (by omega)
   ·simp [cL]
  ·split
   ·unfold ztqZ
    split
    ·simp only [cL,Option.getD_some,allocL]
     have:=(ns_len (k:=allocN o.pos o.size) (l:=d.l) (no:=o.pos / 8)).1
     have hN : allocN o.pos o.size≤4098:=by unfold allocN; omega
     omega
    ·simp [cL]
   ·split
    ·unfold zwxZ
     split
     ·simp only [cL,Option.getD_some,zbglZ,wipeL,List.length_map]
      exact Nat.le_trans (List.length_filter_le _ _) (by omega)
     ·simp [cL]
    ·simp [cL]
def FewI (ns : List Nm) (ds : List Nd) : Prop:=ns.length≤30∧ds.length≤30∧(∀ d ∈ ds,d.l.length≤60)∧sumL ds≤300
instance (ns : List Nm) (ds : List Nd) : Decidable (FewI ns ds):=by unfold FewI; infer_instance
theorem OwI.lend {L : Nat} {ns : List Nm} {dv : List NdV} {a b : AV} {H : AH} (h : OwI L ns dv a b H) : ∃ R,ImV ns (dv.map NdV.nd) R∧FZ H (.agg [a,b]) R:=by
 obtain ⟨Ra,h1,f1⟩:=FZ.sv h.sa (zipZ λx _=>noIdss_encN x);obtain ⟨Rb,h2,f2⟩:=FZ.sv h.sb (zipZ λx _=>zbcaZ x);exact ⟨_,⟨Ra,Rb,dv,rfl,h1,h2,rfl⟩,FZ.agg (FZs.cons f1 (FZs.cons f2 FZs.nil))⟩
theorem Copy_p {ns : List Nm} {ds : List Nd} {v : AV} (hv : ImV ns ds v) (hb : Sm ns ds) : ∃ R,ImV ns ds R∧BPure Tryz.prog 61 [v] R:=by
 have hids:=hv.noIds;obtain ⟨a,b,dv,rfl,sa,sb,rfl⟩:=hv;have b2:=hb.2.1;rw [List.length_map] at b2;obtain ⟨r,X,⟨a',b',ew,rfl,hew,-,ow⟩,hc⟩:=Copy_c (H:=[]) sa sb hb.1 b2 (λd hd=>hb.2.2.2 d.nd (List.mem_map_of_mem hd));obtain ⟨R,hR,fR⟩:=ow.lend;rw [hew] at hR;exact BPure.FZ hids ⟨_,X,⟨R,fR,hR⟩,hc⟩
structure OpV where
 o : OpM
 bv : AV
 h : SV encU 1 o.b bv
def encO (x : OpV) : List AV:=opA x.o x.bv
theorem encO_len (x : OpV) : (encO x).length=8:=rfl
theorem op_at {H : AH} {w : AV} {l : List OpV} {k : Nat} {x : OpV} (hw : zaZ H 8 w=some (l.flatMap encO,l.length)) (hx : l[k]? = some x) : ∃ p,aixS 8 w (I k)=some p∧ald true 8 H p=some (.agg (opA x.o x.bv)):=by
 have hk:=(gSI.1 hx).1;obtain ⟨p,c,h1,h2,h3,h4⟩:=aixS_spec hw (i:=(k : Int)) rfl hk
 have hc : c.take 8=encO x:=by
  rw [h3,zlzZ encO_len hx,List.take_append_of_le_length (by rw [encO_len]; omega),List.take_of_length_le (by rw [encO_len]; omega)]
 exact ⟨p,h1,by rw [ald_at h2 (by omega) h4,rdCells_agg (by omega),List.drop_zero,hc]; rfl⟩
section
variable {α κ ι : Type} {c : κ→κ→Int} {key : α→κ}
theorem hasK_ins {f : α→ι} {l : List α} {x : α} {i : ι} : hasK f (insK c key l x) i ↔ f x=i∨hasK f l i:=by
 unfold hasK
 constructor
 ·rintro ⟨y,hy,e⟩
  rcases zuvZ.1 hy with rfl | hy
  ·exact .inl e
  ·exact .inr ⟨y,hy,e⟩
 ·rintro (e | ⟨y,hy,e⟩)
  ·exact ⟨x,zuvZ.2 (.inl rfl),e⟩
  ·exact ⟨y,zuvZ.2 (.inr hy),e⟩
theorem hasK_delf (hc : KO c) {f : α→ι} {l : List α} (h : srtK c key l) {k : κ} (hk : hasK key l k) {i : ι} : hasK f (delK c key l k) i ↔ ∃ y ∈ l,key y ≠ k∧f y=i:=by
 unfold hasK
 constructor
 ·rintro ⟨y,hy,e⟩
  obtain ⟨h1,h2⟩:=(zzmZ hc h hk).1 hy;exact ⟨y,h1,h2,e⟩
 ·rintro ⟨y,hy,h2,e⟩
  exact ⟨y,(zzmZ hc h hk).2 ⟨hy,h2⟩,e⟩
theorem nodup_inj {β : Type} {f : α→β} : ∀ {l : List α},l.Nodup→((l.map f).Nodup ↔ ∀ x ∈ l,∀ y ∈ l,f x=f y→x=y)
 | [],_ => by simp
 | a :: l,h => by
  obtain ⟨h1,h2⟩:=List.nodup_cons.1 h;rw [List.map_cons,List.nodup_cons,nodup_inj h2]
  constructor
  ·rintro ⟨h3,h4⟩ x hx y hy e
   rcases List.mem_cons.1 hx with hx1 | hx1 <;> rcases List.mem_cons.1 hy with hy1 | hy1
   ·rw [hx1,hy1]
   ·rw [hx1] at e; exact absurd (List.mem_map.2 ⟨y,hy1,e.symm⟩) h3
   ·rw [hy1] at e; exact absurd (List.mem_map.2 ⟨x,hx1,e⟩) h3
   ·exact h4 x hx1 y hy1 e
  ·intro h3
   refine ⟨λhm=>?_,λx hx y hy=>h3 x (by simp [hx]) y (by simp [hy])⟩;obtain ⟨y,hy,e⟩:=List.mem_map.1 hm
   have:=h3 y (by simp [hy]) a (by simp) e
   exact h1 (this ▸ hy)
theorem srtK_nodup (hc : KO c) {l : List α} (h : srtK c key l) : l.Nodup:=by
 refine List.Pairwise.imp ?_ h;rintro a b hab rfl;exact hc.irr _ hab
end
structure MayW (ns : List Nm) (ds : List Nd) : Prop where
 len : ns.length≤16
 nm : ∀ x ∈ ns,mayN x.name∧1≤x.ino∧x.ino≤4611686018427387904
 srt : srtK cmpN Nm.name ns
 inj : ∀ x ∈ ns,∀ y ∈ ns,x.ino=y.ino→x=y
 sd : srtK cmpI Nd.ino ds
 mc : ∀ d ∈ ds,mayC d.size d.l
 ino : ∀ i,hasK Nd.ino ds i ↔ hasK Nm.ino ns i
theorem inos_nodup {ds : List Nd} (h : srtK cmpI Nd.ino ds) : (ds.map Nd.ino).Nodup:=by
 rw [List.Nodup,List.pairwise_map];exact h.imp λh=>by rw [cmpI_lt] at h; omega
theorem mayI_w {ns : List Nm} {ds : List Nd} : mayI ns ds ↔ MayW ns ds:=by
 constructor
 ·intro h
  have h2:=mayI_doc.1 h;obtain ⟨h21,h22,⟨h23,h24,h25⟩,h26,h27,h28⟩:=h2;refine ⟨h21,h23,h24,(nodup_inj (srtK_nodup koN h24)).1 h25,h26,h28,λi=>⟨?_, ?_⟩⟩
  ·rintro ⟨d,hd,rfl⟩
   exact (h.2.2.2 d hd).1
  ·rintro ⟨x,hx,rfl⟩
   exact h27 x hx
 ·intro h
  refine ⟨⟨h.len,h.nm,h.srt,(nodup_inj (srtK_nodup koN h.srt)).2 h.inj⟩, ?_,h.sd,λd hd=>⟨(h.ino d.ino).1 ⟨d,hd,rfl⟩,h.mc d hd⟩⟩
  have hp:=(List.perm_ext_iff_of_nodup (inos_nodup h.sd) ((nodup_inj (srtK_nodup koN h.srt)).2 h.inj)).2 λi=>by
   have:=h.ino i
   unfold hasK at this
   simpa [List.mem_map] using this
  have:=hp.length_eq
  simpa using this
theorem nameI_mem {ns : List Nm} (hs : srtK cmpN Nm.name ns) {x : Nm} (hx : x ∈ ns) : nameI ns x.name=x.ino:=by
 unfold nameI;rw [atK_eq koN hs hx]
theorem nameI_no {ns : List Nm} {s : List UInt8} (h : ¬ hasK Nm.name ns s) : nameI ns s=0:=by
 unfold nameI;rw [atK_none h]
theorem MayW.rem {ns : List Nm} {ds : List Nd} {s : List UInt8} (h : MayW ns ds) (hk : hasK Nm.name ns s) : MayW (delK cmpN Nm.name ns s) (delK cmpI Nd.ino ds (nameI ns s)):=by
 obtain ⟨x,hx,rfl⟩:=hk;have hk : hasK Nm.name ns x.name:=⟨x,hx,rfl⟩;rw [nameI_mem h.srt hx];have hd : hasK Nd.ino ds x.ino:=(h.ino _).2 ⟨x,hx,rfl⟩;have sub : ∀ y,y ∈ delK cmpN Nm.name ns x.name→y ∈ ns:=λy hy=>delK_sub.subset hy
 have hl:=delK_len (hasK_pos koN h.srt hk)
 have:=h.len
 refine ⟨by omega,λy hy=>h.nm y (sub y hy),zrbZ h.srt,λy hy z hz=>h.inj y (sub y hy) z (sub z hz),zrbZ h.sd,λd hd=>h.mc d (delK_sub.subset hd),λi=>?_⟩;rw [hasK_delf koI h.sd hd,hasK_delf koN h.srt hk]
 constructor
 ·rintro ⟨d,hd1,hd2,rfl⟩
  obtain ⟨y,hy,e⟩:=(h.ino d.ino).1 ⟨d,hd1,rfl⟩;exact ⟨y,hy,λe2=>hd2 (by rw [← e,srtK_uniq koN h.srt hy hx e2]),e⟩
 ·rintro ⟨y,hy,hne,rfl⟩
  obtain ⟨d,hd1,e⟩:=(h.ino y.ino).2 ⟨y,hy,rfl⟩;exact ⟨d,hd1,λe2=>hne (by rw [h.inj y hy x hx (by rw [← e,e2])]),e⟩
theorem MayW.ren {ns : List Nm} {ds : List Nd} {s t : List UInt8} (h : MayW ns ds) (hk : hasK Nm.name ns s) (ht : ¬ hasK Nm.name ns t) (hm : mayN t) : MayW (insK cmpN Nm.name (delK cmpN Nm.name ns s) ⟨t,nameI ns s⟩) ds:=by
 obtain ⟨x,hx,rfl⟩:=hk;have hk : hasK Nm.name ns x.name:=⟨x,hx,rfl⟩;rw [nameI_mem h.srt hx];have mem : ∀ y,y ∈ insK cmpN Nm.name (delK cmpN Nm.name ns x.name) ⟨t,x.ino⟩ ↔ y=⟨t,x.ino⟩∨(y ∈ ns∧y.name ≠ x.name):=λy=>by rw [zuvZ,zzmZ koN h.srt hk]
 have hl:=delK_len (hasK_pos koN h.srt hk)
 have:=h.len
 refine ⟨by rw [insK_len]; omega, ?_,srtK_ins koN (zrbZ h.srt) (λhh=>ht ?_), ?_,h.sd,h.mc,λi=>?_⟩
 ·intro y hy
  rcases (mem y).1 hy with rfl | ⟨hy,-⟩
  ·exact ⟨hm,(h.nm x hx).2⟩
  ·exact h.nm y hy
 ·obtain ⟨y,hy,e⟩:=hh
  exact ⟨y,delK_sub.subset hy,e⟩
 ·intro y hy z hz e
  rcases (mem y).1 hy with rfl | ⟨hy,hny⟩ <;> rcases (mem z).1 hz with rfl | ⟨hz,hnz⟩
  ·rfl
  ·exact absurd (by rw [h.inj x hx z hz e]) hnz
  ·exact absurd (by rw [h.inj y hy x hx e]) hny
  ·exact h.inj y hy z hz e
 ·rw [h.ino i,hasK_ins,hasK_delf koN h.srt hk]
  constructor
  ·rintro ⟨y,hy,rfl⟩
   by_cases c : y.name=x.name
   ·exact .inl (by rw [srtK_uniq koN h.srt hy hx c])
   ·exact .inr ⟨y,hy,c,rfl⟩
  ·rintro (rfl | ⟨y,hy,-,rfl⟩)
   ·exact ⟨x,hx,rfl⟩
   ·exact ⟨y,hy,rfl⟩
theorem mayC_nil : mayC 0 []:=by decide
theorem MayW.cre {ns : List Nm} {ds : List Nd} {o : OpM} (h : MayW ns ds) (hc : creI ns ds o) : MayW (insK cmpN Nm.name ns ⟨o.name,o.ino⟩) (insK cmpI Nd.ino ds ⟨o.ino,0,[]⟩):=by
 obtain ⟨h1,h2,h3,h4,h5,h6⟩:=hc;have hn : ¬ hasK Nm.ino ns o.ino:=λhh=>h2 ((h.ino _).2 hh)
 refine ⟨by rw [insK_len]; omega, ?_,srtK_ins koN h.srt h1, ?_,srtK_ins koI h.sd h2, ?_,λi=>by rw [hasK_ins,hasK_ins,h.ino]⟩
 ·intro y hy
  rcases zuvZ.1 hy with rfl | hy
  ·exact ⟨h3,h4,h5⟩
  ·exact h.nm y hy
 ·intro y hy z hz e
  rcases zuvZ.1 hy with rfl | hy <;> rcases zuvZ.1 hz with rfl | hz
  ·rfl
  ·exact absurd ⟨z,hz,e.symm⟩ hn
  ·exact absurd ⟨y,hy,e⟩ hn
  ·exact h.inj y hy z hz e
 ·intro d hd
  rcases zuvZ.1 hd with rfl | hd
  ·exact mayC_nil
  ·exact h.mc d hd
theorem chgC_may {o : OpM} {d : Nd} {c : Cont} (hk : o.kind=2∨o.kind=3∨o.kind=4∨o.kind=5) (h : chgC o d=some c) : mayC c.1 c.2:=by
 unfold chgC at h;split at h
 ·exact may_write h
 ·split at h
  ·exact may_trunc h
  ·split at h
   ·exact may_alloc h
   ·split at h
    ·exact may_punch h
    ·omega
theorem chgD_inos {ds : List Nd} {o : OpM} (hs : srtK cmpI Nd.ino ds) : (chgD ds o).map Nd.ino=ds.map Nd.ino:=by
 unfold chgD
 split
 ·rename_i d hd
  split
  ·rename_i c hc
   have hk : hasK Nd.ino ds o.ino:=⟨d,List.mem_of_find?_eq_some hd,by simpa using List.find?_some hd⟩;obtain ⟨y,h1,h2,h3⟩:=zypZ koI hs hk;have e : y=d:=by rw [hd] at h2; injection h2 with h2; exact h2.symm
   rw [List.map_set,← e];apply List.ext_getElem?;intro j;rw [List.getElem?_set]
   split
   ·rename_i hj
    subst hj
    split
    ·rw [List.getElem?_map,h1]; rfl
    ·rename_i hl
     rw [List.getElem?_map,h1]
     have:=(gSI.1 h1).1
     simp at hl; omega
   ·rfl
  ·rfl
 ·rfl
theorem srt_inos {ds es : List Nd} (e : ds.map Nd.ino=es.map Nd.ino) (h : srtK cmpI Nd.ino es) : srtK cmpI Nd.ino ds:=by
 unfold srtK at h ⊢;have h1 : (es.map Nd.ino).Pairwise λa b=>cmpI a b < 0:=List.pairwise_map.2 h
 rw [← e] at h1;exact List.pairwise_map.1 h1
theorem has_inos {ds es : List Nd} (e : ds.map Nd.ino=es.map Nd.ino) (i : Int) : hasK Nd.ino ds i ↔ hasK Nd.ino es i:=by
 have a : ∀ l : List Nd,hasK Nd.ino l i ↔ i ∈ l.map Nd.ino:=λl=>by unfold hasK; simp [List.mem_map]
 rw [a,a,e]
theorem mem_chgD {ds : List Nd} {o : OpM} (hs : srtK cmpI Nd.ino ds) {d : Nd} (h : d ∈ chgD ds o) : d ∈ ds∨(d.ino=o.ino∧∃ e ∈ ds,e.ino=o.ino∧chgC o e=some (d.size,d.l)):=by
 unfold chgD at h;split at h
 ·rename_i e he
  split at h
  ·rename_i c hc
   have e1:=List.mem_of_find?_eq_some he;have e2 : e.ino=o.ino:=by simpa using List.find?_some he
   rcases List.mem_or_eq_of_mem_set h with h | h
   ·exact .inl h
   ·exact .inr ⟨by rw [h]; exact e2,e,e1,e2,by rw [h]; exact hc⟩
  ·exact .inl h
 ·exact .inl h
theorem MayW.chg {ns : List Nm} {ds : List Nd} {o : OpM} (h : MayW ns ds) (hk : o.kind=2∨o.kind=3∨o.kind=4∨o.kind=5) : MayW ns (chgD ds o):=by
 have hi:=chgD_inos (o:=o) h.sd;refine ⟨h.len,h.nm,h.srt,h.inj,srt_inos hi h.sd,λd hd=>?_,λi=>by rw [has_inos hi,h.ino]⟩;rcases mem_chgD h.sd hd with hd | ⟨-,e,-,-,he⟩
 ·exact h.mc d hd
 ·exact chgC_may hk he
theorem ren_eq {ns : List Nm} {ds : List Nd} {s t : List UInt8} (h : MayW ns ds) (hk : hasK Nm.name ns s) (hne : s ≠ t) :
  (insK cmpN Nm.name (remNs (delK cmpN Nm.name ns s) t) ⟨t,nameI ns s⟩,remD (delK cmpN Nm.name ns s) ds t)=(insK cmpN Nm.name (delK cmpN Nm.name (remNs ns t) s) ⟨t,nameI (remNs ns t) s⟩,remD ns ds t):=by
 unfold remNs remD
 by_cases c : hasK Nm.name ns t
 ·have c1 : hasK Nm.name (delK cmpN Nm.name ns s) t:=(zbgaZ koN h.srt hk (Ne.symm hne)).2 c
  rw [if_pos c1,if_pos c,if_pos c1,if_pos c,delK_comm koN h.srt hk c hne,nameI_del h.srt hk c (Ne.symm hne),nameI_del h.srt c hk hne]
 ·have c1 : ¬ hasK Nm.name (delK cmpN Nm.name ns s) t:=λhh=>c ((zbgaZ koN h.srt hk (Ne.symm hne)).1 hh)
  rw [if_neg c1,if_neg c,if_neg c1,if_neg c]
theorem MayW.remN {ns : List Nm} {ds : List Nd} (h : MayW ns ds) (t : List UInt8) : MayW (remNs ns t) (remD ns ds t)∧¬ hasK Nm.name (remNs ns t) t:=by
 unfold remNs remD
 by_cases c : hasK Nm.name ns t
 ·rw [if_pos c,if_pos c]
  refine ⟨h.rem c, ?_⟩;rintro ⟨y,hy,e⟩;exact ((zzmZ koN h.srt c).1 hy).2 e
 ·rw [if_neg c,if_neg c]; exact ⟨h,c⟩
theorem has_remN {ns : List Nm} (hs : srtK cmpN Nm.name ns) {s t : List UInt8} (hne : s ≠ t) : hasK Nm.name (remNs ns t) s ↔ hasK Nm.name ns s:=by
 unfold remNs
 split
 ·rename_i c; exact zbgaZ koN hs c hne
 ·rfl
theorem applyI_w {ns : List Nm} {ds : List Nd} (h : MayW ns ds) (o : OpM) : MayW (ziaZ ns ds o).1 (ziaZ ns ds o).2:=by
 unfold ziaZ;rw [if_pos (mayI_w.2 h)]
 split
 ·split
  ·rename_i hc; exact h.cre hc
  ·exact h
 ·split
  ·rename_i hk; exact h.chg hk
  ·split
   ·split
    ·rename_i hr
     obtain ⟨h1,h2,h3⟩:=hr;rw [ren_eq h h1 h3];obtain ⟨g1,g2⟩:=h.remN o.to;exact g1.ren ((has_remN h.srt h3).2 h1) g2 h2
    ·exact h
   ·split
    ·exact (h.remN o.name).1
    ·exact h
theorem findI_w {ns : List Nm} {ds : List Nd} (h : MayW ns ds) (s : List UInt8) : findI ns ds s=nameI ns s∧(hasI ns ds s ↔ hasK Nm.name ns s):=by
 have hm:=mayI_w.2 h;have hi : hasI ns ds s ↔ hasK Nm.name ns s:=⟨λhh=>hh.2,λhh=>⟨hm,hh⟩⟩;refine ⟨?_,hi⟩;unfold findI
 by_cases c : hasI ns ds s
 ·rw [if_pos c]
 ·rw [if_neg c,nameI_no (λhh=>c (hi.2 hh))]
theorem getN_w {ns : List Nm} {ds : List Nd} (h : MayW ns ds) {d : Nd} (hd : d ∈ ds) : getN ns ds d.ino=d∧hasG ns ds d.ino:=by
 have hg : hasG ns ds d.ino:=⟨mayI_w.2 h,d,hd,rfl⟩;refine ⟨?_,hg⟩;unfold getN;rw [if_pos hg,atK_eq koI h.sd hd]; rfl
theorem usedI_w {ns : List Nm} {ds : List Nd} (h : MayW ns ds) : usedI ns ds=sumL ds:=by unfold usedI; rw [if_pos (mayI_w.2 h)]
theorem sumL_ins {ds : List Nd} {d : Nd} : sumL (insK cmpI Nd.ino ds d)=sumL ds + d.l.length:=by
 unfold sumL insK
 have:=List.take_append_drop (posK cmpI Nd.ino ds d.ino) ds
 conv => rhs; rw [← this]
 simp only [List.map_append,List.map_cons,List.sum_append,List.sum_cons];omega
end Go.Proofs.YtlhiaihmkjlaaaaGreat.Av
end
section
namespace Go.Proofs.YtlhiaihmkjlaaaaGreat.Av
open Go Go.RowKit
def old (N : Nat) (X : AH) : AH:=List.replicate N none ++ X.drop N
theorem old_get {N : Nat} {X : AH} {o : Nat} {x : AObj} (h : (old N X)[o]? = some (some x)) : N≤o∧X[o]? = some (some x):=by
 unfold old at h;rcases Nat.lt_or_ge o N with hlt | hge
 ·rw [List.getElem?_append_left (by simpa using hlt),List.getElem?_replicate,if_pos hlt] at h
  cases h
 ·rw [List.getElem?_append_right (by simpa using hge),List.length_replicate,List.getElem?_drop] at h
  rw [show N + (o - N)=o by omega] at h;exact ⟨hge,h⟩
def Cfg.less (G : Cfg) (L : Nat→Prop) : Cfg:={ G with L:=L }
theorem HR.less {G : Cfg} {H : AH} (hr : HR G H) (L : Nat→Prop) (hL : ∀ b,L b→G.L b) (hl : ∀ (o : Nat) (x : AObj),H[o]? = some (some x)→L (G.μ o).1) : HR (G.less L) H:=by
 have ht : Tr G (G.less L):=⟨Nat.le_refl _,λ_ _=>rfl,λad vs hh=>hh.imp id λh=>⟨λhh=>h.1 (hh.imp (hL _) id),h.2⟩⟩;exact ⟨hr.n,λo x ho=>OR.tr ht (hr.lt_n ho) rfl (hr.obj o x ho),hr.inj,hl,λb hb=>hr.lt b (hb.imp (hL _) id),λb hb=>hr.dis b (hL b hb)⟩
theorem HR.fewer {G : Cfg} {H H2 : AH} (hr : HR G H) (hlen : H2.length=H.length) (h : ∀ (o : Nat) (x : AObj),H2[o]? = some (some x)→H[o]? = some (some x)) : HR G H2 :=
 ⟨by rw [hlen]; exact hr.n,λo x ho=>hr.obj o x (h o x ho),λo o' x x' ho ho'=>hr.inj o o' x x' (h o x ho) (h o' x' ho'),λo x ho=>hr.live o x (h o x ho),hr.lt,hr.dis⟩
section
variable {P : Program}
theorem ACalls.fzNew {f : FuncId} {args : List AV} {H : AH} {R : AV→AH→Prop} {R' : AV→Prop} (h : ACalls P f args H R)
  (hR : ∀ r H1,R r H1→H.length≤H1.length∧(∀ o,o < H.length→H1[o]? = H[o]?)∧∃ n r',frz (old H.length H1) n r=some r'∧R' r') : ACalls P f args H λr' H'=>R' r'∧H'=H:=by
 intro G vs hH hv;refine (h G vs hH hv).mono ?_;rintro e w' ⟨r,H1,G',v,rfl,rfl,hE,hx,hX,hq⟩;obtain ⟨hlen,hpre,n,r',hf,hr'⟩:=hR r H1 hq
 have e1 : H1=H ++ H1.drop H.length:=by
  apply List.ext_getElem?;intro o;rcases Nat.lt_or_ge o H.length with hlt | hge
  ·rw [List.getElem?_append_left hlt,hpre o hlt]
  ·rw [List.getElem?_append_right hge,List.getElem?_drop,show H.length + (o - H.length)=o by omega]
 have hX1 : HR G' (H ++ H1.drop H.length):=by rw [← e1]; exact hX
 have hF : HR { G' with n:=H.length } H:=hX1.forget λo x ho=>by
  have:=(hH.obj o x ho).bel
  rwa [hH.n] at this
 let L2 : Nat→Prop:=λb=>G.L b∧G'.L b∧∀ (o : Nat) (x : AObj),H.length≤o→H1[o]? = some (some x)→b ≠ (G'.μ o).1
 have hF2:=hF.less L2 (λb hb=>hb.2.1) (λo x ho=>by
  have hlt:=(gSI.1 ho).1;have ho1 : H1[o]? = some (some x):=by rw [hpre o hlt]; exact ho
  have hμ : G'.μ o=G.μ o:=hE.μ o (by rw [hH.n]; exact hlt);refine ⟨?_,hX.live o x ho1,λo' x' hge ho' he=>?_⟩
  ·show G.L (G'.μ o).1
   rw [hμ]; exact hH.live o x ho
  ·have:=hX.inj o o' x x' ho1 ho' he
   omega)
 have hE2 : Evo G (Cfg.less { G' with n:=H.length } L2):=⟨hE.os,hE.tape,hE.output,hE.size,λk hk hL=>⟨(hE.keep k hk hL).1,λhh=>hL hh.1⟩,by show G.n≤H.length; rw [hH.n]; exact Nat.le_refl _,λo ho=>hE.μ o ho,hE.K⟩;have hK : HR G' (old H.length H1):=hX.fewer (by unfold old; simp; omega) λo x ho=>(old_get ho).2
 refine ⟨r',H,Cfg.less { G' with n:=H.length } L2,v,rfl,rfl,hE2, ?_,hF2,hr',rfl⟩;refine frz_ok (G':=G') (G'':=Cfg.less { G' with n:=H.length } L2) rfl (λb hn hh=>hn (hh.imp (λh=>h.2.1) id)) hK ?_ n r v r' hx hf;intro o x ho hh;obtain ⟨h1,h2⟩:=old_get ho;rcases hh with hh | hh
 ·exact hh.2.2 o x h1 h2 rfl
 ·exact hX.dis _ (hX.live o x h2) hh
end
end Go.Proofs.YtlhiaihmkjlaaaaGreat.Av
end
section
namespace Go.Proofs.YtlhiaihmkjlaaaaGreat.Av
open Go
def pqe : FuncId→Bool:=inL [61,60,39,35,33,90,70,29,69,65,71,72,73,36,142,144,37,66,105,118,67,120,59,119,170,111,165,11,40,18]
def store_New (a0 : AV) (H : AH) (K : KT) : Prop :=
bO (amm imx [a0,(I 0)]) λv0=>
bO (amm imn [v0,(I 4096)]) λv1=>
bO (abl [(I 0),nilSl,nilSl,nilSl,nilSl,nilSl,(I 0),(I 0),(B false)] [(0,1,v1),(7,1,(I (-1)))]) λv2=>
bH (anew H v2) λv3 H4=>
K v3 H4
theorem store_New_ok {a0 : AV} {H : AH} {K : KT} (h : store_New a0 H K) : OKP 30 [a0] H K :=
 fok nofl pqe nokp Tryz.func30 (by kernel_rfl) (by kernel_rfl) h
def zbbyZ (a0 : AV) (H : AH) (K : KT) : Prop :=
bH (anew H (.agg [nilSl,nilSl])) λv0 H1=>
bO (zgZ a0) λv2=>
bO (zhZ 1 v2) λv3=>
bO (ald true 2 H1 v3) λv4=>
bP (PCall Tryz.prog 61 [v4] H1) λv5=>
bS (ast 2 H1 v0 v5) λH6=>
bO (ald true 2 H6 v0) λv7=>
K v7 H6
theorem store_Store_Now_ok {a0 : AV} {H : AH} {K : KT} (h : zbbyZ a0 H K) : OKP 15 [a0] H K :=
 fok nofl pqe nokp Tryz.func15 (by kernel_rfl) (by kernel_rfl) h
def zzhZ (a0 : AV) (H : AH) (K : KT) : Prop :=
bO (zgZ a0) λv0=>
bO (zhZ 0 v0) λv1=>
bO (ald false 1 H v1) λv2=>
bO (zgZ a0) λv3=>
bO (zhZ 1 v3) λv4=>
bO (ald true 2 H v4) λv5=>
bP (BPure Tryz.prog 33 [v5]) λv6=>
bO (abI .sub v2 v6) λv7=>
bO (amm imx [(I 0),v7]) λv8=>
K v8 H
theorem zbdtZ {a0 : AV} {H : AH} {K : KT} (h : zzhZ a0 H K) : OKP 34 [a0] H K :=
 fok nofl pqe nokp Tryz.func34 (by kernel_rfl) (by kernel_rfl) h
def zbboZ (a0 a1 : AV) (H : AH) (K : KT) : Prop :=
bO (amm imx [a1,(I (-1))]) λv0=>
bO (zgZ a0) λv1=>
bO (zhZ 7 v1) λv2=>
bS (ast 1 H v2 v0) λH3=>
K (.tup []) H3
theorem store_Store_Arm_ok {a0 a1 : AV} {H : AH} {K : KT} (h : zbboZ a0 a1 H K) : OKP 13 [a0,a1] H K :=
 fok nofl pqe nokp Tryz.func13 (by kernel_rfl) (by kernel_rfl) h
def zooZ : Nat→Option (List Bool):=kpOf [(5,mk 53 0 [0,1,9,10,11]),(2,mk 53 0 [0,1,9,10,11])]
def zgeZ (p : List Bool) (n : Nat) : List AV→AH→Kf→Prop:=sCode Tryz.prog nofl pqe none0 none0 zooZ (sub p (zhyZ Tryz.f38)) n
def zdvZ (R2 : RT) (x0 x1 x9 x10 x11 : AV) (H : AH) (K : KT) : Prop:=jn (mk 53 0 [0,1,9,10,11]) (zgeZ [fF,tT,fF,fF,tT,tT,tT] 8) [x0,x1,x9,x10,x11] H (kLp (mk 53 0 [0,1,9,10,11]) R2 (kBlk 0 (kSeq (zgeZ [tT] 8) (kRet Tryz.prog Tryz.f38.results.toList K))))
def zolZ (x0 x1 x9 x10 x11 : AV) (H : AH) (K : KT) : Prop:=lp (mk 53 0 [0,1,9,10,11]) (zgeZ [fF,tT,fF,fF] 3) [x0,x1,x9,x10,x11] H (kBlk 0 (kSeq (zgeZ [tT] 8) (kRet Tryz.prog Tryz.f38.results.toList K)))
def zgnZ (R2 : RT) (x0 x1 x9 x10 x11 : AV) (H : AH) (K : KT) : Prop :=
bO (abI .add x11 (I 1)) λv0=>
R2 [x0,x1,x9,x10,v0] H
theorem zkqZ (R2 : RT) (x0 x1 x9 x10 x11 : AV) (H : AH) (K : KT) : zdvZ R2 x0 x1 x9 x10 x11 H K=zgnZ R2 x0 x1 x9 x10 x11 H K:=(jn_eq _ _ _ _ _).trans (by kernel_rfl)
def zluZ (R2 : RT) (x0 x1 x9 x10 x11 : AV) (H : AH) (K : KT) : Prop :=
bO (abI .lss x11 x10) λv0=>
bB v0 λt1=>bI t1 (
bO (aixS 8 x9 x11) λv2=>
bO (ald true 8 H v2) λv3=>
bH (anew H (.agg [(I 0),(I 0),(I 0),(I 0),(B false),(.lit (.string ⟨#[]⟩)),(.lit (.string ⟨#[]⟩)),nilSl])) λv4 H5=>
bS (ast 8 H5 v4 v3) λH6=>
bO (alnS x1) λv7=>
bO (abI .lss x11 v7) λv8=>
bG v8 true λw9=>
gO w9 (some x1) λv10=>
bG v8 true λw11=>
gO w11 (some x11) λv12=>
bG v8 true λw13=>
gO w13 (aixS 1 v10 v12) λv14=>
bG v8 true λw15=>
gO w15 (ald false 1 H6 v14) λv16=>
bO (apick v8 v16 (B false)) λv17=>
bB v17 λt18=>bI t18 (
bO (zgZ x0) λv19=>
bO (zhZ 3 v19) λv20=>
bO (ald true 2 H6 v20) λv21=>
bO (ald true 8 H6 v4) λv22=>
bP (BPure Tryz.prog 60 [v21,v22]) λv23=>
bO (zgZ x0) λv24=>
bO (zhZ 3 v24) λv25=>
bS (ast 2 H6 v25 v23) λH26=>
zdvZ R2 x0 x1 x9 x10 x11 H26 K)
 (zdvZ R2 x0 x1 x9 x10 x11 H6 K))
 (bO (zgZ x0) λv27=>
bO (zhZ 3 v27) λv28=>
bO (ald true 2 H v28) λv29=>
bP (PCall Tryz.prog 61 [v29] H) λv30=>
bO (zgZ x0) λv31=>
bO (zhZ 1 v31) λv32=>
bS (ast 2 H v32 v30) λH33=>
bO (zgZ x0) λv34=>
bO (zhZ 5 v34) λv35=>
bS (ast 1 H33 v35 nilSl) λH36=>
bO (zgZ x0) λv37=>
bO (zhZ 8 v37) λv38=>
bS (ast 1 H36 v38 (B false)) λH39=>
bO (zgZ x0) λv40=>
bO (zhZ 7 v40) λv41=>
bS (ast 1 H39 v41 (I (-1))) λH42=>
K (.tup []) H42)
theorem zsbZ {K : KT} : RL5 (λR x0 x1 x9 x10 x11 H=>zluZ R x0 x1 x9 x10 x11 H K) (λx0 x1 x9 x10 x11 H=>zolZ x0 x1 x9 x10 x11 H K):=lpr5 (zvZ _ _) (λ_ _ _ _ _ _ _=>by kernel_rfl)
def zsyZ (a0 a1 : AV) (H : AH) (K : KT) : Prop :=
bO (zgZ a0) λv0=>
bO (zhZ 5 v0) λv1=>
bO (ald false 1 H v1) λv2=>
bO (alnS v2) λv3=>
zolZ a0 a1 v2 v3 (I 0) H K
theorem zyvZ {a0 a1 : AV} {H : AH} {K : KT} (h : zsyZ a0 a1 H K) : OKP 38 [a0,a1] H K :=
 fok nofl pqe zooZ Tryz.func38 (by kernel_rfl) (by kernel_rfl) h
def zsuZ : Nat→Option (List Bool):=kpOf [(1,mk 31 0 [])]
def store_Store_deed_c (p : List Bool) (n : Nat) : List AV→AH→Kf→Prop:=sCode Tryz.prog nofl pqe none0 none0 zsuZ (sub p (zhyZ Tryz.f58)) n
def zmgZ (H : AH) (K : KT) : Prop:=jn (mk 31 0 []) (store_Store_deed_c [tT,tT] 6) [] H (kRet Tryz.prog Tryz.f58.results.toList K)
def ziuZ (H : AH) (K : KT) : Prop :=
K (B true) H
theorem zocZ (H : AH) (K : KT) : zmgZ H K=ziuZ H K:=(jn_eq _ _ _ _ _).trans (by kernel_rfl)
def zzdZ (a0 : AV) (H : AH) (K : KT) : Prop :=
bO (zgZ a0) λv0=>
bO (zhZ 8 v0) λv1=>
bO (ald false 1 H v1) λv2=>
bG v2 false λw3=>
gO w3 (some a0) λv4=>
bG v2 false λw5=>
gO w5 (zgZ v4) λv6=>
bG v2 false λw7=>
gO w7 (zhZ 7 v6) λv8=>
bG v2 false λw9=>
gO w9 (ald false 1 H v8) λv10=>
bG v2 false λw11=>
gO w11 (abI .eql v10 (I 0)) λv12=>
bO (apick v2 (B true) v12) λv13=>
bB v13 λt14=>bI t14 (
bO (zgZ a0) λv15=>
bO (zhZ 8 v15) λv16=>
bS (ast 1 H v16 (B true)) λH17=>
K (B false) H17)
 (bO (zgZ a0) λv18=>
bO (zhZ 7 v18) λv19=>
bO (ald false 1 H v19) λv20=>
bO (abI .gtr v20 (I 0)) λv21=>
bB v21 λt22=>bI t22 (
bO (zgZ a0) λv23=>
bO (zhZ 7 v23) λv24=>
bO (ald false 1 H v24) λv25=>
bO (abI .sub v25 (I 1)) λv26=>
bO (zgZ a0) λv27=>
bO (zhZ 7 v27) λv28=>
bS (ast 1 H v28 v26) λH29=>
zmgZ H29 K)
 (zmgZ H K))
theorem zbcyZ {a0 : AV} {H : AH} {K : KT} (h : zzdZ a0 H K) : OKP 58 [a0] H K :=
 fok nofl pqe zsuZ Tryz.func58 (by kernel_rfl) (by kernel_rfl) h
def zbdxZ (a0 a1 : AV) (H : AH) (K : KT) : Prop :=
bH (anew H a1) λv0 H1=>
bC (BCall Tryz.prog 58 [a0] H1) λv2 H3=>
bO (aun .not v2) λv4=>
bB v4 λt5=>bI t5 (
K (I 8) H3)
 (bO (zgZ a0) λv6=>
bO (zhZ 1 v6) λv7=>
bO (ald true 2 H3 v7) λv8=>
bO (ald true 8 H3 v0) λv9=>
bP (BPure Tryz.prog 60 [v8,v9]) λv10=>
bO (zgZ a0) λv11=>
bO (zhZ 1 v11) λv12=>
bS (ast 2 H3 v12 v10) λH13=>
bO (zgZ a0) λv14=>
bO (zhZ 5 v14) λv15=>
bO (ald false 1 H13 v15) λv16=>
bO (ald true 8 H13 v0) λv17=>
bO (absf 8 1 (zrow [(I 0),(I 0),(I 0),(I 0),(B false),(.lit (.string ⟨#[]⟩)),(.lit (.string ⟨#[]⟩)),nilSl] 1) [(0,8,v17)]) λv18=>
bH (aap 8 96 H13 v16 v18) λv19 H20=>
bO (zgZ a0) λv21=>
bO (zhZ 5 v21) λv22=>
bS (ast 1 H20 v22 v19) λH23=>
K (I 0) H23)
theorem store_Store_do_ok {a0 a1 : AV} {H : AH} {K : KT} (h : zbdxZ a0 a1 H K) : OKP 63 [a0,a1] H K :=
 fok nofl pqe nokp Tryz.func63 (by kernel_rfl) (by kernel_rfl) h
def zhjZ (a0 a1 : AV) (H : AH) (K : KT) : Prop :=
bH (anew H (.agg [(I 0),nilSl])) λv0 H1=>
bO (zgZ a0) λv2=>
bO (zhZ 8 v2) λv3=>
bO (ald false 1 H1 v3) λv4=>
bB v4 λt5=>bI t5 (
bO (abl [(I 0),nilSl] []) λv6=>
bS (ast 2 H1 v0 v6) λH7=>
bO (ald true 2 H7 v0) λv8=>
K (.tup [v8,(I 8)]) H7)
 (bO (zgZ a0) λv9=>
bO (zhZ 1 v9) λv10=>
bO (ald true 2 H1 v10) λv11=>
bP (PCall Tryz.prog 35 [v11,a1] H1) λv12=>
bO (zjZ v12 0) λv13=>
bO (zjZ v12 1) λv14=>
bH (anew H1 (.agg [(I 0),nilSl])) λv15 H16=>
bS (ast 2 H16 v15 v13) λH17=>
bO (aun .not v14) λv18=>
bB v18 λt19=>bI t19 (
bO (abl [(I 0),nilSl] []) λv20=>
bS (ast 2 H17 v0 v20) λH21=>
bO (ald true 2 H21 v0) λv22=>
K (.tup [v22,(I 3)]) H21)
 (bO (ald true 2 H17 v15) λv23=>
bS (ast 2 H17 v0 v23) λH24=>
bO (ald true 2 H24 v0) λv25=>
K (.tup [v25,(I 0)]) H24))
theorem zhuZ {a0 a1 : AV} {H : AH} {K : KT} (h : zhjZ a0 a1 H K) : OKP 64 [a0,a1] H K :=
 fok nofl pqe nokp Tryz.func64 (by kernel_rfl) (by kernel_rfl) h
def zzpZ (a0 a1 : AV) (H : AH) (K : KT) : Prop :=
bO (zgZ a0) λv0=>
bO (zhZ 8 v0) λv1=>
bO (ald false 1 H v1) λv2=>
bB v2 λt3=>bI t3 (
K (.tup [(I 0),(I 8)]) H)
 (bP (PCall Tryz.prog 70 [a1] H) λv4=>
bO (aun .not v4) λv5=>
bB v5 λt6=>bI t6 (
K (.tup [(I 0),(I 5)]) H)
 (bO (zgZ a0) λv7=>
bO (zhZ 1 v7) λv8=>
bO (ald true 2 H v8) λv9=>
bP (PCall Tryz.prog 39 [v9,a1] H) λv10=>
bO (zjZ v10 0) λv11=>
bO (zjZ v10 1) λv12=>
bO (aun .not v12) λv13=>
bB v13 λt14=>bI t14 (
K (.tup [(I 0),(I 3)]) H)
 (K (.tup [v11,(I 0)]) H)))
theorem zbdlZ {a0 a1 : AV} {H : AH} {K : KT} (h : zzpZ a0 a1 H K) : OKP 62 [a0,a1] H K :=
 fok nofl pqe nokp Tryz.func62 (by kernel_rfl) (by kernel_rfl) h
def zzrZ (a0 a1 a2 : AV) (H : AH) (K : KT) : Prop :=
bC (BCall Tryz.prog 62 [a0,a1] H) λv0 H1=>
bO (zjZ v0 0) λv2=>
bO (zjZ v0 1) λv3=>
bO (abI .neq v3 (I 3)) λv4=>
bG v4 false λw5=>
gO w5 (some a2) λv6=>
bG v4 false λw7=>
gO w7 (aun .not v6) λv8=>
bO (apick v4 (B true) v8) λv9=>
bB v9 λt10=>bI t10 (
K (.tup [v2,v3]) H1)
 (bO (zgZ a0) λv11=>
bO (zhZ 1 v11) λv12=>
bO (zhZ 0 v12) λv13=>
bO (ald false 1 H1 v13) λv14=>
bO (alnS v14) λv15=>
bO (abI .geq v15 (I 16)) λv16=>
bB v16 λt17=>bI t17 (
K (.tup [(I 0),(I 4)]) H1)
 (bO (zgZ a0) λv18=>
bO (zhZ 6 v18) λv19=>
bO (ald false 1 H1 v19) λv20=>
bO (abI .add v20 (I 1)) λv21=>
bO (abl [(I 0),(I 0),(I 0),(I 0),(B false),(.lit (.string ⟨#[]⟩)),(.lit (.string ⟨#[]⟩)),nilSl] [(0,1,(I 1)),(5,1,a1),(1,1,v21)]) λv22=>
bC (BCall Tryz.prog 63 [a0,v22] H1) λv23 H24=>
bO (abI .neq v23 (I 0)) λv25=>
bB v25 λt26=>bI t26 (
K (.tup [(I 0),v23]) H24)
 (bO (zgZ a0) λv27=>
bO (zhZ 6 v27) λv28=>
bO (ald false 1 H24 v28) λv29=>
bO (abI .add v29 (I 1)) λv30=>
bO (zgZ a0) λv31=>
bO (zhZ 6 v31) λv32=>
bS (ast 1 H24 v32 v30) λH33=>
bO (zgZ a0) λv34=>
bO (zhZ 6 v34) λv35=>
bO (ald false 1 H33 v35) λv36=>
K (.tup [v36,(I 0)]) H33)))
theorem zbdiZ {a0 a1 a2 : AV} {H : AH} {K : KT} (h : zzrZ a0 a1 a2 H K) : OKP 19 [a0,a1,a2] H K :=
 fok nofl pqe nokp Tryz.func19 (by kernel_rfl) (by kernel_rfl) h
def zbaaZ (a0 a1 : AV) (H : AH) (K : KT) : Prop :=
bC (BCall Tryz.prog 64 [a0,a1] H) λv0 H1=>
bO (zjZ v0 0) λv2=>
bO (zjZ v0 1) λv3=>
bH (anew H1 (.agg [(I 0),nilSl])) λv4 H5=>
bS (ast 2 H5 v4 v2) λH6=>
bO (zhZ 0 v4) λv7=>
bO (ald false 1 H6 v7) λv8=>
K (.tup [v8,v3]) H6
theorem zbdbZ {a0 a1 : AV} {H : AH} {K : KT} (h : zbaaZ a0 a1 H K) : OKP 22 [a0,a1] H K :=
 fok nofl pqe nokp Tryz.func22 (by kernel_rfl) (by kernel_rfl) h
def zmlZ (a0 a1 a2 a3 : AV) (H : AH) (K : KT) : Prop :=
bC (BCall Tryz.prog 64 [a0,a1] H) λv0 H1=>
bO (zjZ v0 0) λv2=>
bO (zjZ v0 1) λv3=>
bH (anew H1 (.agg [(I 0),nilSl])) λv4 H5=>
bS (ast 2 H5 v4 v2) λH6=>
bO (abI .neq v3 (I 0)) λv7=>
bB v7 λt8=>bI t8 (
K (.tup [nilSl,v3]) H6)
 (bO (abI .lss a2 (I 0)) λv9=>
bG v9 false λw10=>
gO w10 (some a3) λv11=>
bG v9 false λw12=>
gO w12 (abI .lss v11 (I 0)) λv13=>
bO (apick v9 (B true) v13) λv14=>
bG v14 false λw15=>
gO w15 (some a3) λv16=>
bG v14 false λw17=>
gO w17 (abI .gtr v16 (I 4096)) λv18=>
bO (apick v14 (B true) v18) λv19=>
bB v19 λt20=>bI t20 (
K (.tup [nilSl,(I 5)]) H6)
 (bO (ald true 2 H6 v4) λv21=>
bP (PCall Tryz.prog 69 [v21,a2,a3] H6) λv22=>
K (.tup [v22,(I 0)]) H6))
theorem zmjZ {a0 a1 a2 a3 : AV} {H : AH} {K : KT} (h : zmlZ a0 a1 a2 a3 H K) : OKP 21 [a0,a1,a2,a3] H K :=
 fok nofl pqe nokp Tryz.func21 (by kernel_rfl) (by kernel_rfl) h
def zraZ : zbcqZ:=flOf [(12,[(3,some 11)])]
def zqyZ : Nat→Option (List Bool):=kpOf [(9,mk 79 0 [0,1,2,3,10,36,37,38])]
def zsjZ (p : List Bool) (n : Nat) : List AV→AH→Kf→Prop:=sCode Tryz.prog zraZ pqe none0 none0 zqyZ (sub p (zhyZ Tryz.f20)) n
def zrgZ (x0 x1 x2 x3 x10 x36 x37 x38 : AV) (H : AH) (K : KT) : Prop:=lp (mk 79 0 [0,1,2,3,10,36,37,38]) (zsjZ [tT,tT,tT,fF,tT,fF,fF] 10) [x0,x1,x2,x3,x10,x36,x37,x38] H (kBlk 1 (kSeq (zsjZ [tT,tT,tT,tT] 21) (kRet Tryz.prog Tryz.f20.results.toList K)))
def zokZ (R9 : RT) (x0 x1 x2 x3 x10 x36 x37 x38 : AV) (H : AH) (K : KT) : Prop :=
bO (abI .lss x38 x37) λv0=>
bB v0 λt1=>bI t1 (
bO (aixS 2 x36 x38) λv2=>
bO (ald true 2 H v2) λv3=>
bH (anew H (.agg [(I 0),(I 0)])) λv4 H5=>
bS (ast 2 H5 v4 v3) λH6=>
bO (zhZ 0 v4) λv7=>
bO (ald false 1 H6 v7) λv8=>
bO (abI .sub v8 x2) λv9=>
bO (ald true 2 H6 x10) λv10=>
bO (zhZ 0 v4) λv11=>
bO (ald false 1 H6 v11) λv12=>
bO (abI .quo v12 (I 8)) λv13=>
bP (PCall Tryz.prog 67 [v10,v13] H6) λv14=>
bO (aun .not v14) λv15=>
bG v15 true λw16=>
gO w16 (some x0) λv17=>
bG v15 true λw18=>
gC w18 (BCall Tryz.prog 34 [v17] H6) H6 λv19 H20=>
bG v15 true λw21=>
gO w21 (abI .eql v19 (I 0)) λv22=>
bO (apick v15 v22 (B false)) λv23=>
bB v23 λt24=>bI t24 (
K (.tup [v9,(I 4)]) H20)
 (bO (zhZ 0 v4) λv25=>
bO (ald false 1 H20 v25) λv26=>
bO (zhZ 1 v4) λv27=>
bO (ald false 1 H20 v27) λv28=>
bO (abI .add v9 v28) λv29=>
bO (aslS 1 x3 (some v9) (some v29) none) λv30=>
bC (BCall Tryz.prog 68 [v30] H20) λv31 H32=>
bO (abl [(I 0),(I 0),(I 0),(I 0),(B false),(.lit (.string ⟨#[]⟩)),(.lit (.string ⟨#[]⟩)),nilSl] [(0,1,(I 2)),(1,1,x1),(2,1,v26),(7,1,v31)]) λv33=>
bC (BCall Tryz.prog 63 [x0,v33] H32) λv34 H35=>
(ald false 1 H32 v25=some v26) ∧
bO (abI .neq v34 (I 0)) λv36=>
bB v36 λt37=>bI t37 (
K (.tup [v9,v34]) H35)
 (bO (abI .add x38 (I 1)) λv38=>
R9 [x0,x1,x2,x3,x10,x36,x37,v38] H35)))
 (bO (alnS x3) λv39=>
K (.tup [v39,(I 0)]) H)
theorem ztwZ {K : KT} : RL8 (λR x0 x1 x2 x3 x10 x36 x37 x38 H=>zokZ R x0 x1 x2 x3 x10 x36 x37 x38 H K) (λx0 x1 x2 x3 x10 x36 x37 x38 H=>zrgZ x0 x1 x2 x3 x10 x36 x37 x38 H K):=lpr8 (zvZ _ _) (λ_ _ _ _ _ _ _ _ _ _=>by kernel_rfl)
def zxpZ (a0 a1 a2 a3 : AV) (H : AH) (K : KT) : Prop :=
bC (BCall Tryz.prog 64 [a0,a1] H) λv0 H1=>
bO (zjZ v0 0) λv2=>
bO (zjZ v0 1) λv3=>
bH (anew H1 (.agg [(I 0),nilSl])) λv4 H5=>
bS (ast 2 H5 v4 v2) λH6=>
bO (abI .neq v3 (I 0)) λv7=>
bB v7 λt8=>bI t8 (
K (.tup [(I 0),v3]) H6)
 (bO (alnS a3) λv9=>
bP (PCall Tryz.prog 65 [a2,v9] H6) λv10=>
bO (aun .not v10) λv11=>
bB v11 λt12=>bI t12 (
K (.tup [(I 0),(I 5)]) H6)
 (bO (alnS a3) λv13=>
bO (abl [(I 0),(I 0)] [(0,1,a2),(1,1,v13)]) λv14=>
bP (PCall Tryz.prog 66 [v14,(I 8)] H6) λv15=>
bO (alnS v15) λv16=>
zrgZ a0 a1 a2 a3 v4 v15 v16 (I 0) H6 K))
theorem zbcbZ {a0 a1 a2 a3 : AV} {H : AH} {K : KT} (h : zxpZ a0 a1 a2 a3 H K) : OKP 20 [a0,a1,a2,a3] H K :=
 fok zraZ pqe zqyZ Tryz.func20 (by kernel_rfl) (by kernel_rfl) h
def zqsZ (a0 a1 a2 : AV) (H : AH) (K : KT) : Prop :=
bC (BCall Tryz.prog 64 [a0,a1] H) λv0 H1=>
bO (zjZ v0 0) λv2=>
bO (zjZ v0 1) λv3=>
bH (anew H1 (.agg [(I 0),nilSl])) λv4 H5=>
bS (ast 2 H5 v4 v2) λH6=>
bO (abI .neq v3 (I 0)) λv7=>
bB v7 λt8=>bI t8 (
K v3 H6)
 (bO (ald true 2 H6 v4) λv9=>
bP (PCall Tryz.prog 71 [v9,a2] H6) λv10=>
bO (zjZ v10 0) λv11=>
bO (zjZ v10 1) λv12=>
bH (anew H6 (.agg [(I 0),nilSl])) λv13 H14=>
bS (ast 2 H14 v13 v11) λH15=>
bO (aun .not v12) λv16=>
bB v16 λt17=>bI t17 (
K (I 5) H15)
 (bO (abl [(I 0),(I 0),(I 0),(I 0),(B false),(.lit (.string ⟨#[]⟩)),(.lit (.string ⟨#[]⟩)),nilSl] [(0,1,(I 3)),(1,1,a1),(3,1,a2)]) λv18=>
bC (BCall Tryz.prog 63 [a0,v18] H15) λv19 H20=>
K v19 H20))
theorem zxtZ {a0 a1 a2 : AV} {H : AH} {K : KT} (h : zqsZ a0 a1 a2 H K) : OKP 25 [a0,a1,a2] H K :=
 fok nofl pqe nokp Tryz.func25 (by kernel_rfl) (by kernel_rfl) h
def zxfZ : zbcqZ:=flOf [(7,[(1,some 8),(2,some 8),(4,some 8),(5,some 8)])]
def zrqZ (a0 a1 a2 a3 a4 : AV) (H : AH) (K : KT) : Prop :=
bC (BCall Tryz.prog 64 [a0,a1] H) λv0 H1=>
bO (zjZ v0 0) λv2=>
bO (zjZ v0 1) λv3=>
bH (anew H1 (.agg [(I 0),nilSl])) λv4 H5=>
bS (ast 2 H5 v4 v2) λH6=>
bO (abI .neq v3 (I 0)) λv7=>
bB v7 λt8=>bI t8 (
K v3 H6)
 (bO (ald true 2 H6 v4) λv9=>
bP (PCall Tryz.prog 72 [v9,a2,a3,a4] H6) λv10=>
bO (zjZ v10 0) λv11=>
bO (zjZ v10 1) λv12=>
bH (anew H6 (.agg [(I 0),nilSl])) λv13 H14=>
bS (ast 2 H14 v13 v11) λH15=>
bO (aun .not v12) λv16=>
bB v16 λt17=>bI t17 (
K (I 5) H15)
 (bO (zhZ 1 v13) λv18=>
bO (ald false 1 H15 v18) λv19=>
bO (alnS v19) λv20=>
bO (zhZ 1 v4) λv21=>
bO (ald false 1 H15 v21) λv22=>
bO (alnS v22) λv23=>
bO (abI .sub v20 v23) λv24=>
bC (BCall Tryz.prog 34 [a0] H15) λv25 H26=>
bO (abI .gtr v24 v25) λv27=>
(ald false 1 H26 v18=some v19) ∧
(alnS v19=some v20) ∧
(ald false 1 H26 v21=some v22) ∧
(alnS v22=some v23) ∧
bB v27 λt28=>bI t28 (
K (I 4) H26)
 (bO (abl [(I 0),(I 0),(I 0),(I 0),(B false),(.lit (.string ⟨#[]⟩)),(.lit (.string ⟨#[]⟩)),nilSl] [(0,1,(I 4)),(1,1,a1),(2,1,a2),(3,1,a3),(4,1,a4)]) λv29=>
bC (BCall Tryz.prog 63 [a0,v29] H26) λv30 H31=>
K v30 H31)))
theorem zymZ {a0 a1 a2 a3 a4 : AV} {H : AH} {K : KT} (h : zrqZ a0 a1 a2 a3 a4 H K) : OKP 26 [a0,a1,a2,a3,a4] H K :=
 fok zxfZ pqe nokp Tryz.func26 (by kernel_rfl) (by kernel_rfl) h
def zxeZ (a0 a1 a2 a3 : AV) (H : AH) (K : KT) : Prop :=
bC (BCall Tryz.prog 64 [a0,a1] H) λv0 H1=>
bO (zjZ v0 0) λv2=>
bO (zjZ v0 1) λv3=>
bH (anew H1 (.agg [(I 0),nilSl])) λv4 H5=>
bS (ast 2 H5 v4 v2) λH6=>
bO (abI .neq v3 (I 0)) λv7=>
bB v7 λt8=>bI t8 (
K v3 H6)
 (bO (ald true 2 H6 v4) λv9=>
bP (PCall Tryz.prog 73 [v9,a2,a3] H6) λv10=>
bO (zjZ v10 0) λv11=>
bO (zjZ v10 1) λv12=>
bH (anew H6 (.agg [(I 0),nilSl])) λv13 H14=>
bS (ast 2 H14 v13 v11) λH15=>
bO (aun .not v12) λv16=>
bB v16 λt17=>bI t17 (
K (I 5) H15)
 (bO (abl [(I 0),(I 0),(I 0),(I 0),(B false),(.lit (.string ⟨#[]⟩)),(.lit (.string ⟨#[]⟩)),nilSl] [(0,1,(I 5)),(1,1,a1),(2,1,a2),(3,1,a3)]) λv18=>
bC (BCall Tryz.prog 63 [a0,v18] H15) λv19 H20=>
K v19 H20))
theorem zbbwZ {a0 a1 a2 a3 : AV} {H : AH} {K : KT} (h : zxeZ a0 a1 a2 a3 H K) : OKP 27 [a0,a1,a2,a3] H K :=
 fok nofl pqe nokp Tryz.func27 (by kernel_rfl) (by kernel_rfl) h
def zvwZ (a0 a1 a2 : AV) (H : AH) (K : KT) : Prop :=
bO (zgZ a0) λv0=>
bO (zhZ 8 v0) λv1=>
bO (ald false 1 H v1) λv2=>
bO (aun .not v2) λv3=>
bG v3 true λw4=>
gO w4 (some a2) λv5=>
bG v3 true λw6=>
gP w6 (PCall Tryz.prog 70 [v5] H) λv7=>
bG v3 true λw8=>
gO w8 (aun .not v7) λv9=>
bO (apick v3 v9 (B false)) λv10=>
bB v10 λt11=>bI t11 (
K (I 5) H)
 (bC (BCall Tryz.prog 62 [a0,a1] H) λv12 H13=>
bO (zjZ v12 0) λv14=>
bO (zjZ v12 1) λv15=>
bO (abI .neq v15 (I 0)) λv16=>
bG v16 false λw17=>
gO w17 (some a1) λv18=>
bG v16 false λw19=>
gO w19 (some a2) λv20=>
bG v16 false λw21=>
gO w21 (abT .eql v18 v20) λv22=>
bO (apick v16 (B true) v22) λv23=>
bB v23 λt24=>bI t24 (
K v15 H13)
 (bO (abl [(I 0),(I 0),(I 0),(I 0),(B false),(.lit (.string ⟨#[]⟩)),(.lit (.string ⟨#[]⟩)),nilSl] [(0,1,(I 6)),(5,1,a1),(6,1,a2)]) λv25=>
bC (BCall Tryz.prog 63 [a0,v25] H13) λv26 H27=>
K v26 H27))
theorem zbagZ {a0 a1 a2 : AV} {H : AH} {K : KT} (h : zvwZ a0 a1 a2 H K) : OKP 24 [a0,a1,a2] H K :=
 fok nofl pqe nokp Tryz.func24 (by kernel_rfl) (by kernel_rfl) h
def zvvZ (a0 a1 : AV) (H : AH) (K : KT) : Prop :=
bC (BCall Tryz.prog 62 [a0,a1] H) λv0 H1=>
bO (zjZ v0 0) λv2=>
bO (zjZ v0 1) λv3=>
bO (abI .neq v3 (I 0)) λv4=>
bB v4 λt5=>bI t5 (
K v3 H1)
 (bO (abl [(I 0),(I 0),(I 0),(I 0),(B false),(.lit (.string ⟨#[]⟩)),(.lit (.string ⟨#[]⟩)),nilSl] [(0,1,(I 7)),(5,1,a1)]) λv6=>
bC (BCall Tryz.prog 63 [a0,v6] H1) λv7 H8=>
K v7 H8)
theorem zbaoZ {a0 a1 : AV} {H : AH} {K : KT} (h : zvvZ a0 a1 H K) : OKP 23 [a0,a1] H K :=
 fok nofl pqe nokp Tryz.func23 (by kernel_rfl) (by kernel_rfl) h
def zthZ : Nat→Option (List Bool):=kpOf [(10,mk 41 0 [0,1,5,14,15,16]),(7,mk 41 0 [0,1,5,14,15,16])]
def zisZ (p : List Bool) (n : Nat) : List AV→AH→Kf→Prop:=sCode Tryz.prog nofl pqe none0 none0 zthZ (sub p (zhyZ Tryz.f14)) n
def zlbZ (R7 : RT) (x0 x1 x5 x14 x15 x16 : AV) (H : AH) (K : KT) : Prop:=jn (mk 41 0 [0,1,5,14,15,16]) (zisZ [tT,tT,tT,fF,tT,fF,fF,tT,tT,tT] 13) [x0,x1,x5,x14,x15,x16] H (kLp (mk 41 0 [0,1,5,14,15,16]) R7 (kBlk 0 (kSeq (zisZ [tT,tT,tT,tT] 13) (kRet Tryz.prog Tryz.f14.results.toList K))))
def zsrZ (x0 x1 x5 x14 x15 x16 : AV) (H : AH) (K : KT) : Prop:=lp (mk 41 0 [0,1,5,14,15,16]) (zisZ [tT,tT,tT,fF,tT,fF,fF] 8) [x0,x1,x5,x14,x15,x16] H (kBlk 0 (kSeq (zisZ [tT,tT,tT,tT] 13) (kRet Tryz.prog Tryz.f14.results.toList K)))
def zhvZ (R7 : RT) (x0 x1 x5 x14 x15 x16 : AV) (H : AH) (K : KT) : Prop :=
bO (abI .add x16 (I 1)) λv0=>
R7 [x0,x1,x5,x14,x15,v0] H
theorem znkZ (R7 : RT) (x0 x1 x5 x14 x15 x16 : AV) (H : AH) (K : KT) : zlbZ R7 x0 x1 x5 x14 x15 x16 H K=zhvZ R7 x0 x1 x5 x14 x15 x16 H K:=(jn_eq _ _ _ _ _).trans (by kernel_rfl)
def zqbZ (R7 : RT) (x0 x1 x5 x14 x15 x16 : AV) (H : AH) (K : KT) : Prop :=
bO (abI .lss x16 x15) λv0=>
bB v0 λt1=>bI t1 (
bO (aixS 8 x14 x16) λv2=>
bO (ald true 8 H v2) λv3=>
bH (anew H (.agg [(I 0),(I 0),(I 0),(I 0),(B false),(.lit (.string ⟨#[]⟩)),(.lit (.string ⟨#[]⟩)),nilSl])) λv4 H5=>
bS (ast 8 H5 v4 v3) λH6=>
bO (ald true 8 H6 v4) λv7=>
bP (PCall Tryz.prog 59 [v7,x1] H6) λv8=>
bB v8 λt9=>bI t9 (
bO (zgZ x0) λv10=>
bO (zhZ 3 v10) λv11=>
bO (ald true 2 H6 v11) λv12=>
bO (ald true 8 H6 v4) λv13=>
bP (BPure Tryz.prog 60 [v12,v13]) λv14=>
bO (zgZ x0) λv15=>
bO (zhZ 3 v15) λv16=>
bS (ast 2 H6 v16 v14) λH17=>
zlbZ R7 x0 x1 x5 x14 x15 x16 H17 K)
 (bO (ald true 8 H6 v4) λv18=>
bH (absl H6 8 1 (zrow [(I 0),(I 0),(I 0),(I 0),(B false),(.lit (.string ⟨#[]⟩)),(.lit (.string ⟨#[]⟩)),nilSl] 1) [(0,8,v18)]) λv19 H20=>
bH (aap 8 96 H20 x5 v19) λv21 H22=>
zlbZ R7 x0 x1 v21 x14 x15 x16 H22 K))
 (bO (zgZ x0) λv23=>
bO (zhZ 5 v23) λv24=>
bS (ast 1 H v24 x5) λH25=>
K (I 0) H25)
theorem zwrZ {K : KT} : RL6 (λR x0 x1 x5 x14 x15 x16 H=>zqbZ R x0 x1 x5 x14 x15 x16 H K) (λx0 x1 x5 x14 x15 x16 H=>zsrZ x0 x1 x5 x14 x15 x16 H K):=lpr6 (zvZ _ _) (λ_ _ _ _ _ _ _ _=>by kernel_rfl)
def zzjZ (a0 a1 : AV) (H : AH) (K : KT) : Prop :=
bC (BCall Tryz.prog 58 [a0] H) λv0 H1=>
bO (aun .not v0) λv2=>
bB v2 λt3=>bI t3 (
K (I 8) H1)
 (bO (zgZ a0) λv4=>
bO (zhZ 5 v4) λv5=>
bO (ald false 1 H1 v5) λv6=>
bO (alnS v6) λv7=>
zsrZ a0 a1 nilSl v6 v7 (I 0) H1 K)
theorem zbcwZ {a0 a1 : AV} {H : AH} {K : KT} (h : zzjZ a0 a1 H K) : OKP 14 [a0,a1] H K :=
 fok nofl pqe zthZ Tryz.func14 (by kernel_rfl) (by kernel_rfl) h
def znrZ (a0 a1 a2 a3 : AV) (H : AH) (K : KT) : Prop :=
bC (BCall Tryz.prog 64 [a0,a1] H) λv0 H1=>
bO (zjZ v0 0) λv2=>
bO (zjZ v0 1) λv3=>
bH (anew H1 (.agg [(I 0),nilSl])) λv4 H5=>
bS (ast 2 H5 v4 v2) λH6=>
bO (abI .neq v3 (I 0)) λv7=>
bB v7 λt8=>bI t8 (
K (.tup [(I 0),v3]) H6)
 (bO (ald true 2 H6 v4) λv9=>
bF true a3 λk12 f12 c12=>
bT (zbchZ Tryz.prog k12 || !true) <|
bC (BCall Tryz.prog k12 (f12 ++ [v9,a2] ++ c12) H6) λv10 H11=>
bO (zjZ v10 0) λv13=>
bO (zjZ v10 1) λv14=>
bO (aun .not v14) λv15=>
bB v15 λt16=>bI t16 (
K (.tup [(I 0),(I 5)]) H11)
 (K (.tup [v13,(I 0)]) H11))
theorem zqcZ {a0 a1 a2 a3 : AV} {H : AH} {K : KT} (h : znrZ a0 a1 a2 a3 H K) : OKP 141 [a0,a1,a2,a3] H K :=
 fok nofl pqe nokp Tryz.func141 (by kernel_rfl) (by kernel_rfl) h
def zzeZ (a0 a1 a2 : AV) (H : AH) (K : KT) : Prop :=
bC (BCall Tryz.prog 141 [a0,a1,a2,(.fn (.func 142) [] [])] H) λv0 H1=>
bO (zjZ v0 0) λv2=>
bO (zjZ v0 1) λv3=>
K (.tup [v2,v3]) H1
theorem zbczZ {a0 a1 a2 : AV} {H : AH} {K : KT} (h : zzeZ a0 a1 a2 H K) : OKP 86 [a0,a1,a2] H K :=
 fok nofl pqe nokp Tryz.func86 (by kernel_rfl) (by kernel_rfl) h
def zzsZ (a0 a1 a2 : AV) (H : AH) (K : KT) : Prop :=
bC (BCall Tryz.prog 141 [a0,a1,a2,(.fn (.func 144) [] [])] H) λv0 H1=>
bO (zjZ v0 0) λv2=>
bO (zjZ v0 1) λv3=>
K (.tup [v2,v3]) H1
theorem zbdqZ {a0 a1 a2 : AV} {H : AH} {K : KT} (h : zzsZ a0 a1 a2 H K) : OKP 88 [a0,a1,a2] H K :=
 fok nofl pqe nokp Tryz.func88 (by kernel_rfl) (by kernel_rfl) h
def store_has (a0 a1 : AV) (H : AH) (K : KT) : Prop :=
bH (anew H a0) λv0 H1=>
bH (anew H1 a1) λv2 H3=>
bO (zhZ 1 v0) λv4=>
bO (ald false 1 H3 v4) λv5=>
bP (PCall Tryz.prog 119 [v5,(.fn (.func 120) [] [v2])] H3) λv6=>
K v6 H3
theorem store_has_ok {a0 a1 : AV} {H : AH} {K : KT} (h : store_has a0 a1 H K) : OKP 67 [a0,a1] H K :=
 fok nofl pqe nokp Tryz.func67 (by kernel_rfl) (by kernel_rfl) h
def store_has_1 (a0 a1 : AV) (H : AH) (K : KT) : Prop :=
bH (anew H a0) λv0 H1=>
bO (zhZ 0 v0) λv2=>
bO (ald false 1 H1 v2) λv3=>
bO (ald false 1 H1 a1) λv4=>
bO (abI .eql v3 v4) λv5=>
K v5 H1
theorem store_has_1_ok {a0 a1 : AV} {H : AH} {K : KT} (h : store_has_1 a0 a1 H K) : OKP 120 [a0,a1] H K :=
 fok nofl pqe nokp Tryz.func120 (by kernel_rfl) (by kernel_rfl) h
def zbexZ : Nat→Option (List Bool):=kpOf [(1,mk 15 0 [1,2]),(3,mk 15 0 [1,2,7])]
def zbarZ (p : List Bool) (n : Nat) : List AV→AH→Kf→Prop:=sCode Tryz.prog nofl pqe none0 none0 zbexZ (sub p (zhyZ Tryz.f59)) n
def zxqZ (x1 x2 : AV) (H : AH) (K : KT) : Prop:=jn (mk 15 0 [1,2]) (zbarZ [tT,tT] 7) [x1,x2] H (kRet Tryz.prog Tryz.f59.results.toList K)
def zrtZ (x1 x2 x7 : AV) (H : AH) (K : KT) : Prop:=jn (mk 15 0 [1,2,7]) (zbarZ [tT,fF,tT,fF,tT] 6) [x1,x2,x7] H (kBlk 0 (kSeq (cutC (mk 15 0 [1,2]) (zbarZ [tT,tT] 7)) (kRet Tryz.prog Tryz.f59.results.toList K)))
def zzuZ (x1 x2 : AV) (H : AH) (K : KT) : Prop :=
bO (zhZ 1 x2) λv0=>
bO (ald false 1 H v0) λv1=>
bP (PCall Tryz.prog 111 [x1,v1] H) λv2=>
K v2 H
theorem store_stays_J1_eq (x1 x2 : AV) (H : AH) (K : KT) : zxqZ x1 x2 H K=zzuZ x1 x2 H K:=(jn_eq _ _ _ _ _).trans (by kernel_rfl)
def zmnZ (x1 x2 x7 : AV) (H : AH) (K : KT) : Prop :=
bB x7 λt0=>bI t0 (
K (B true) H)
 (zxqZ x1 x2 H K)
theorem zpcZ (x1 x2 x7 : AV) (H : AH) (K : KT) : zrtZ x1 x2 x7 H K=zmnZ x1 x2 x7 H K:=(jn_eq _ _ _ _ _).trans (by kernel_rfl)
def store_stays (a0 a1 : AV) (H : AH) (K : KT) : Prop :=
bH (anew H a0) λv0 H1=>
bO (zhZ 0 v0) λv2=>
bO (ald false 1 H1 v2) λv3=>
bO (abI .eql v3 (I 1)) λv4=>
bB v4 λt5=>bI t5 (
zrtZ a1 v0 v4 H1 K)
 (bO (abI .eql v3 (I 6)) λv6=>
bB v6 λt7=>bI t7 (
zrtZ a1 v0 v6 H1 K)
 (bO (abI .eql v3 (I 7)) λv8=>
zrtZ a1 v0 v8 H1 K))
theorem store_stays_ok {a0 a1 : AV} {H : AH} {K : KT} (h : store_stays a0 a1 H K) : OKP 59 [a0,a1] H K :=
 fok nofl pqe zbexZ Tryz.func59 (by kernel_rfl) (by kernel_rfl) h
def zelZ (a0 a1 : AV) (H : AH) (K : KT) : Prop :=
bP (PCall Tryz.prog 170 [a0,a1] H) λv0=>
bO (abI .geq v0 (I 0)) λv1=>
K v1 H
theorem zhwZ {a0 a1 : AV} {H : AH} {K : KT} (h : zelZ a0 a1 H K) : OKP 119 [a0,a1] H K :=
 fok nofl pqe nokp Tryz.func119 (by kernel_rfl) (by kernel_rfl) h
def zlpZ (a0 a1 : AV) (H : AH) (K : KT) : Prop :=
bP (PCall Tryz.prog 165 [a0,a1] H) λv0=>
bO (abI .geq v0 (I 0)) λv1=>
K v1 H
theorem zsfZ {a0 a1 : AV} {H : AH} {K : KT} (h : zlpZ a0 a1 H K) : OKP 111 [a0,a1] H K :=
 fok nofl pqe nokp Tryz.func111 (by kernel_rfl) (by kernel_rfl) h
def zlyZ : Nat→Option (List Bool):=kpOf [(3,mk 19 0 [0,1,7,8])]
def zniZ (p : List Bool) (n : Nat) : List AV→AH→Kf→Prop:=sCode Tryz.prog nofl pqe none0 none0 zlyZ (sub p (zhyZ Tryz.f165)) n
def zlnZ (x0 x1 x7 x8 : AV) (H : AH) (K : KT) : Prop:=lp (mk 19 0 [0,1,7,8]) (zniZ [tT,fF,tT,fF,fF] 4) [x0,x1,x7,x8] H (kBlk 0 (kSeq (zniZ [tT,tT] 10) (kRet Tryz.prog Tryz.f165.results.toList K)))
def zjdZ (R3 : RT) (x0 x1 x7 x8 : AV) (H : AH) (K : KT) : Prop :=
bO (abI .lss x8 x7) λv0=>
bB v0 λt1=>bI t1 (
bO (aixS 1 x0 x8) λv2=>
bO (ald false 1 H v2) λv3=>
bO (abI .eql x1 v3) λv4=>
bB v4 λt5=>bI t5 (
K x8 H)
 (bO (abI .add x8 (I 1)) λv6=>
R3 [x0,x1,x7,v6] H))
 (K (I (-1)) H)
theorem zqeZ {K : KT} : RL4 (λR x0 x1 x7 x8 H=>zjdZ R x0 x1 x7 x8 H K) (λx0 x1 x7 x8 H=>zlnZ x0 x1 x7 x8 H K):=lpr4 (zvZ _ _) (λ_ _ _ _ _ _=>by kernel_rfl)
def zphZ (a0 a1 : AV) (H : AH) (K : KT) : Prop :=
bO (alnS a0) λv0=>
zlnZ a0 a1 v0 (I 0) H K
theorem zwuZ {a0 a1 : AV} {H : AH} {K : KT} (h : zphZ a0 a1 H K) : OKP 165 [a0,a1] H K :=
 fok nofl pqe zlyZ Tryz.func165 (by kernel_rfl) (by kernel_rfl) h
def zmvZ (a0 : AV) (H : AH) (K : KT) : Prop :=
bO (abN .eql nilS a0 nilSl) λv0=>
bB v0 λt1=>bI t1 (
K nilSl H)
 (bH (absl H 1 0 (zrow [(.lit (.int .u8 0))] 0) []) λv2 H3=>
bH (aap 1 1 H3 v2 a0) λv4 H5=>
K v4 H5)
theorem ztoZ {a0 : AV} {H : AH} {K : KT} (h : zmvZ a0 H K) : OKP 68 [a0] H K :=
 fok nofl pqe nokp Tryz.func68 (by kernel_rfl) (by kernel_rfl) h
def salvorkeep_Name_c (p : List Bool) (n : Nat) : List AV→AH→Kf→Prop:=sCode Tryz.prog nofl pqe none0 none0 nokp (sub p (zhyZ Tryz.f18)) n
def zkdZ (a0 : AV) (H : AH) (K : KT) : Prop :=
bH (absl H 1 18 (zrow [(.lit (.string ⟨#[]⟩))] 18) [(0,1,(.lit (.string ⟨#[97]⟩))),(1,1,(.lit (.string ⟨#[98]⟩))),(2,1,(.lit (.string ⟨#[99]⟩))),(3,1,(.lit (.string ⟨#[100,115,116]⟩))),(4,1,(.lit (.string ⟨#[109,97,112]⟩))),(5,1,(.lit (.string ⟨#[109,97,112,46,110,101,119]⟩))),(6,1,(.lit (.string ⟨#[120,45,49]⟩))),(7,1,(.lit (.string ⟨#[100,105,115,107]⟩))),(8,1,(.lit (.string ⟨#[]⟩))),(9,1,(.lit (.string ⟨#[65]⟩))),(10,1,(.lit (.string ⟨#[45,97]⟩))),(11,1,(.lit (.string ⟨#[97,47,98]⟩))),(12,1,(.lit (.string ⟨#[97,98,99,100,101,102,103,104,105,106,107,108,109,110,111,112,113,114,115,116]⟩))),(13,1,(.lit (.string ⟨#[97,98,99,100,101,102,103,104,105,106,107,108,109,110,111,112,113,114,115,116,117]⟩))),(14,1,(.lit (.string ⟨#[97,98,99,100,101,102,103,104,105,106,107,108,109,110,111,112]⟩))),(15,1,(.lit (.string ⟨#[97,98,99,100,101,102,103,104,105,106,107,108,109,110,111,112,113]⟩))),(16,1,(.lit (.string ⟨#[46]⟩))),(17,1,(.lit (.string ⟨#[48]⟩)))]) λv0 H1=>
bO (abI .rem a0 (.lit (.int .u8 18))) λv2=>
bO (aixS 1 v0 v2) λv3=>
bO (ald false 1 H1 v3) λv4=>
K v4 H1
theorem salvorkeep_Name_eq (a0 : AV) (H : AH) (K : KT) : sFun Tryz.prog nofl pqe none0 none0 nokp Tryz.f18 [a0] H K=zkdZ a0 H K:=by kernel_rfl
attribute [irreducible] zkdZ salvorkeep_Name_c
attribute [local irreducible] nofl nokp
theorem zbduZ {a0 : AV} {H : AH} {K : KT} (h : zkdZ a0 H K) : sFun Tryz.prog nofl pqe none0 none0 nokp Tryz.f18 [a0] H K:=Eq.mpr (salvorkeep_Name_eq a0 H K) h
theorem zbcvZ : bodyOk nofl pqe Tryz.f18=true:=by kernel_rfl
theorem salvorkeep_Name_ok {a0 : AV} {H : AH} {K : KT} (h : zkdZ a0 H K) : OKP 18 [a0] H K:=sFun_ok mixP Tryz.func18 zbcvZ (zbduZ h)
end Go.Proofs.YtlhiaihmkjlaaaaGreat.Av
end
section
namespace Go.Proofs.YtlhiaihmkjlaaaaGreat.Av
open Go Go.RowKit
abbrev Img:=List Nm × List Nd
structure StS where
 cap : Int
 now : Img
 kept : Img
 pend : List OpM
 made : Int
 armed : Int
 off : Bool
def newS (room : Int) : StS:=⟨min (max room 0) 4096,([],[]),([],[]),[],0,-1,false⟩
def wt (o : OpM) : Nat:=1 + o.b.length + if o.kind=4 then 4098 else 0
def wts (l : List OpM) : Nat:=(l.map wt).sum
theorem chg_wt {o : OpM} {d : Nd} {c : Cont} (h : chgC o d=some c) : c.2.length≤d.l.length + wt o:=by
 have h4:=chg_len (o:=o) (d:=d);rw [h] at h4;simp only [cL,Option.getD_some] at h4;unfold wt
 by_cases c4 : o.kind=4
 ·rw [if_pos c4]; omega
 ·rw [if_neg c4]
  unfold chgC at h;split at h
  ·unfold ztsZ at h
   split at h
   ·injection h with h
    subst h
    split
    ·simp
    ·have:=wr_len12 (bs:=o.b) (l:=d.l) (p:=o.pos)
     simp only; omega
   ·cases h
  ·split at h
   ·unfold zvnZ at h
    split at h
    ·injection h with h
     subst h;simp only [zbgfZ,wipeL,List.length_map];exact Nat.le_trans (List.length_filter_le _ _) (by omega)
    ·cases h
   ·split at h
    ·unfold zwxZ at h
     split at h
     ·injection h with h
      subst h;simp only [zbglZ,wipeL,List.length_map];exact Nat.le_trans (List.length_filter_le _ _) (by omega)
     ·cases h
    ·cases h
def Few1 (M : Nat) (i : Img) : Prop:=MayW i.1 i.2∧∀ d ∈ i.2,d.l.length≤M
theorem remD_mem {ns : List Nm} {ds : List Nd} {s : List UInt8} {d : Nd} (h : d ∈ remD ns ds s) : d ∈ ds:=by
 unfold remD at h;split at h
 ·exact delK_sub.subset h
 ·exact h
theorem Few1.step {M : Nat} {i : Img} (h : Few1 M i) (o : OpM) : Few1 (M + wt o) (ziaZ i.1 i.2 o):=by
 refine ⟨applyI_w h.1 o,λd hd=>?_⟩;have old : d ∈ i.2→d.l.length≤M + wt o:=λhd=>Nat.le_trans (h.2 d hd) (by omega)
 unfold ziaZ at hd;rw [if_pos (mayI_w.2 h.1)] at hd;split at hd
 ·split at hd
  ·rcases zuvZ.1 hd with rfl | hd
   ·simp
   ·exact old hd
  ·exact old hd
 ·split at hd
  ·rcases mem_chgD h.1.sd hd with hd | ⟨-,e,he,-,hc⟩
   ·exact old hd
   ·have:=chg_wt hc
    have:=h.2 e he
    simp only at *;omega
  ·split at hd
   ·split at hd
    ·exact old (remD_mem hd)
    ·exact old hd
   ·split at hd
    ·exact old (remD_mem hd)
    ·exact old hd
theorem Few1.mono {M M' : Nat} {i : Img} (h : Few1 M i) (hm : M≤M') : Few1 M' i:=⟨h.1,λd hd=>Nat.le_trans (h.2 d hd) hm⟩
theorem MayW.len2 {ns : List Nm} {ds : List Nd} (h : MayW ns ds) : ds.length≤16:=by
 have:=(mayI_w.2 h).2.1
 have:=h.len
 omega
theorem Few1.sm {M : Nat} {i : Img} (h : Few1 M i) (hm : M≤1000000) : Sm i.1 i.2 :=
 ⟨by have:=h.1.len; omega,by have:=h.1.len2; omega,λx hx=>by have:=(h.1.nm x hx).1.2.1; omega,λd hd=>Nat.le_trans (h.2 d hd) hm⟩
def OpB (o : OpM) : Prop:=o.b.length≤5000∧o.name.length≤20∧o.to.length≤20
structure SW (N : Nat) (s : StS) : Prop where
 now : Few1 N s.now
 kept : ∃ a,Few1 a s.kept∧a + wts s.pend≤N
 ob : ∀ o ∈ s.pend,OpB o
 made : 0≤s.made∧s.made≤N
 cap : 0≤s.cap∧s.cap≤4096
 armed : -1≤s.armed∧s.armed≤9223372036854775807
theorem wts_len {l : List OpM} : l.length≤wts l:=by
 unfold wts
 induction l with
 | nil => simp
 | cons o l ih => simp only [List.map_cons,List.sum_cons,List.length_cons]; unfold wt at *; omega
theorem wts_snoc {l : List OpM} {o : OpM} : wts (l ++ [o])=wts l + wt o:=by simp [wts]
theorem SW.plen {N : Nat} {s : StS} (h : SW N s) : s.pend.length≤N:=by
 obtain ⟨a,-,h2⟩:=h.kept
 have:=wts_len (l:=s.pend)
 omega
theorem SW.mono {N N' : Nat} {s : StS} (h : SW N s) (hn : N≤N') : SW N' s :=
 ⟨h.now.mono hn,by obtain ⟨a,h1,h2⟩:=h.kept; exact ⟨a,h1,by omega⟩,h.ob,by have:=h.made; omega,h.cap,h.armed⟩
theorem mayW_nil : MayW [] []:=⟨by simp,by simp,by simp [srtK],by simp,by simp [srtK],by simp,λi=>by simp [hasK]⟩
theorem newS_w (room : Int) : SW 0 (newS room) :=
 ⟨⟨mayW_nil,by simp [newS]⟩,⟨0,⟨mayW_nil,by simp [newS]⟩,by simp [newS,wts]⟩,by simp [newS],by simp [newS],by simp [newS]; omega,by simp [newS]⟩
def deedS (s : StS) : Bool × StS :=
 if s.off=true∨s.armed=0 then (false,{ s with off:=true })
 else if 0 < s.armed then (true,{ s with armed:=s.armed - 1 })
 else (true,s)
def doS (s : StS) (o : OpM) : Int × StS :=
 if (deedS s).1=true then (0,{ (deedS s).2 with now:=ziaZ s.now.1 s.now.2 o,pend:=s.pend ++ [o] }) else (8,(deedS s).2)
theorem deedS_w {N : Nat} {s : StS} (h : SW N s) : SW N (deedS s).2:=by
 unfold deedS
 split
 ·exact ⟨h.now,h.kept,h.ob,h.made,h.cap,h.armed⟩
 ·split
  ·exact ⟨h.now,h.kept,h.ob,h.made,h.cap,by have:=h.armed; simp only; omega⟩
  ·exact h
theorem zkeZ (s : StS) : (deedS s).2.now=s.now∧(deedS s).2.kept=s.kept∧(deedS s).2.pend=s.pend∧(deedS s).2.made=s.made∧(deedS s).2.cap=s.cap:=by
 unfold deedS
 split
 ·exact ⟨rfl,rfl,rfl,rfl,rfl⟩
 ·split <;> exact ⟨rfl,rfl,rfl,rfl,rfl⟩
theorem doS_w {N : Nat} {s : StS} {o : OpM} (h : SW N s) (ho : OpB o) : SW (N + wt o) (doS s o).2:=by
 have hd:=deedS_w h;obtain ⟨e1,e2,e3,e4,e5⟩:=zkeZ s;unfold doS
 split
 ·obtain ⟨a,h1,h2⟩:=h.kept
  refine ⟨h.now.step o,⟨a,by simp only [e2]; exact h1,by simp only [wts_snoc]; omega⟩, ?_,by simp only [e4]; have:=h.made; omega,by simp only [e5]; exact h.cap,hd.armed⟩;intro x hx;simp only [List.mem_append,List.mem_singleton] at hx;rcases hx with hx | rfl
  ·exact h.ob x hx
  ·exact ho
 ·exact hd.mono (by omega)
structure StC (s : StS) (os : Nat) (a b c d p : AV) (pv : List OpV) (H : AH) : Prop where
 obj : H[os]? = some (some (.cells [I s.cap,a,b,c,d,p,I s.made,I s.armed,B s.off]))
 now : ImV s.now.1 s.now.2 (.agg [a,b])
 kept : ImV s.kept.1 s.kept.2 (.agg [c,d])
 pm : pv.map OpV.o=s.pend
 ps : zaZ H 8 p=some (pv.flatMap encO,pv.length)
 po : zjsZ p=true
 pi : os ∉ idS p
 pc : capOk p pv.length
def StAt (s : StS) (os : Nat) (p : AV) (H : AH) : Prop:=∃ a b c d pv,StC s os a b c d p pv H
structure StF (os : Nat) (p p' : AV) (H H' : AH) : Prop where
 len : H.length≤H'.length
 same : ∀ j,j < H.length→j ≠ os→j ∉ idS p→H'[j]? = H[j]?
 ids : ∀ j ∈ idS p',j ∈ idS p∨H.length≤j
theorem StF.refl (os : Nat) (p : AV) (H : AH) : StF os p p H H:=⟨Nat.le_refl _,λ_ _ _ _=>rfl,λ_ h=>.inl h⟩
theorem StF.trans {os : Nat} {p p' p'' : AV} {A B C : AH} (h : StF os p p' A B) (k : StF os p' p'' B C) : StF os p p'' A C :=
  ⟨Nat.le_trans h.len k.len,λj hj hne hp=>by
    rw [k.same j (Nat.lt_of_lt_of_le hj h.len) hne (λhp'=>(h.ids j hp').elim hp (λq=>by omega)),h.same j hj hne hp],
   λj hj=>(k.ids j hj).elim (h.ids j) (λq=>.inr (Nat.le_trans h.len q))⟩
theorem StF.of_grew {os : Nat} {p : AV} {H H' : AH} (g : Grew H H') : StF os p p H H':=⟨g.1,λj hj _ _=>g.2 j hj,λ_ h=>.inl h⟩
theorem StF.grew {os : Nat} {p p' : AV} {H H' H'' : AH} (h : StF os p p' H H') (g : Grew H' H'') : StF os p p' H H'':=h.trans (.of_grew g)
theorem StC.lt {s : StS} {os : Nat} {a b c d p : AV} {pv : List OpV} {H : AH} (h : StC s os a b c d p pv H) : os < H.length:=(gSI.1 h.obj).1
theorem StC.grew {s : StS} {os : Nat} {a b c d p : AV} {pv : List OpV} {H H' : AH} (h : StC s os a b c d p pv H) (g : Grew H H') : StC s os a b c d p pv H' :=
 ⟨g.cells h.obj,h.now,h.kept,h.pm,g.slice h.ps,h.po,h.pi,h.pc⟩
theorem StAt.grew {s : StS} {os : Nat} {p : AV} {H H' : AH} (h : StAt s os p H) (g : Grew H H') : StAt s os p H':=by
 obtain ⟨a,b,c,d,pv,h⟩:=h;exact ⟨a,b,c,d,pv,h.grew g⟩
theorem StC.set {s s' : StS} {os : Nat} {a b c d a' b' c' d' p : AV} {pv : List OpV} {H : AH} (h : StC s os a b c d p pv H) (hn : ImV s'.now.1 s'.now.2 (.agg [a',b'])) (hk : ImV s'.kept.1 s'.kept.2 (.agg [c',d'])) (hp : s'.pend=s.pend) :
  StC s' os a' b' c' d' p pv (H.set os (some (.cells [I s'.cap,a',b',c',d',p,I s'.made,I s'.armed,B s'.off])))∧StF os p p H (H.set os (some (.cells [I s'.cap,a',b',c',d',p,I s'.made,I s'.armed,B s'.off]))):=by
 refine ⟨⟨gSS h.lt,hn,hk,by rw [hp]; exact h.pm,zcZ h.ps λi q=>gSN (λe=>h.pi (by rw [e]; exact q)),h.po,h.pi,h.pc⟩,by simp,λj _ hne _=>gSN (Ne.symm hne),λ_ q=>.inl q⟩
theorem ImV.agg2 {ns : List Nm} {ds : List Nd} {v : AV} (h : ImV ns ds v) : ∃ a b,v = .agg [a,b]∧oneA a=true∧oneA b=true:=by
 obtain ⟨a,b,dv,rfl,h1,h2,-⟩:=h;exact ⟨a,b,rfl,SV.oneA h1,SV.oneA h2⟩
theorem fld {H : AH} {os k : Nat} {cs : List AV} {x : AV} (h : H[os]? = some (some (.cells cs))) (hk : k < cs.length) (hx : oneA x=true) : ast 1 H (.ptr os k) x=some (H.set os (some (.cells (cs.set k x)))):=by
 rw [zcoZ (n:=1) (xs:=[x]) (cs:=cs) (zbsZ hx) h rfl hk]; rfl
theorem rd2 (x y : AV) : ztZ true 2 [x,y] 0=some (.agg [x,y]):=rfl
theorem nwC (H : AH) : anew H (.agg [(I 0),nilSl])=some (.ptr H.length 0,H ++ [some (.cells [I 0,nilSl])]):=by simp
theorem stC' (H : AH) (s : Int) {R : AV} (hR : oneA R=true) : ast 2 (H ++ [some (.cells [I 0,nilSl])]) (.ptr H.length 0) (.agg [I s,R])=some (H ++ [some (.cells [I s,R])]):=by
 rw [zcoZ (n:=2) (xs:=[I s,R]) (cs:=[I 0,nilSl]) (by simp [hR]) (by simp) rfl (by simp)];simp [zlaZ]
theorem top1 {H : AH} {x : AObj} : (H ++ [some x])[H.length]? = some (some x):=by simp
theorem New_c (room : Int) (H : AH) (hr : room≤9223372036854775807) : ∃ r H',(∃ p,r = .ptr H.length 0∧H'.length=H.length + 1∧StAt (newS room) H.length p H'∧Grew H H'∧idS p=[])∧BCall Tryz.prog 30 [I room] H r H':=store_New_ok (by
 unfold store_New;have e1 : amm imx [I room,(I 0)]=some (I (max room 0)):=by rw [zbggZ,imx_eq,Int.max_comm]
 have e2 : amm imn [I (max room 0),(I 4096)]=some (I (min (max room 0) 4096)):=by rw [zbggZ,imn_eq,Int.min_comm]
 have e3 : abl [(I 0),nilSl,nilSl,nilSl,nilSl,nilSl,(I 0),(I 0),(B false)] [(0,1,I (min (max room 0) 4096)),(7,1,(I (-1)))]=some (.agg [I (min (max room 0) 4096),nilSl,nilSl,nilSl,nilSl,nilSl,I 0,I (-1),B false]):=rfl;have e4 : anew H (.agg [I (min (max room 0) 4096),nilSl,nilSl,nilSl,nilSl,nilSl,I 0,I (-1),B false])=some (.ptr H.length 0,H ++ [some (.cells [I (min (max room 0) 4096),nilSl,nilSl,nilSl,nilSl,nilSl,I 0,I (-1),B false])]):=by simp
 rw [e1,zbZ,e2,zbZ,e3,zbZ,e4,zbpZ];have hI : ImV [] [] (.agg [nilSl,nilSl]):=⟨nilSl,nilSl,[],rfl,SV.nil,SV.nil,rfl⟩;exact ⟨nilSl,rfl,by simp,⟨nilSl,nilSl,nilSl,nilSl,[],⟨top1,hI,hI,rfl,rfl,rfl,by simp [idS],by simp [capOk]⟩⟩,Grew.app _ _,rfl⟩)
def armS (s : StS) (n : Int) : StS:={ s with armed:=max n (-1) }
theorem armS_w {N : Nat} {s : StS} (h : SW N s) {n : Int} (hn : n≤9223372036854775807) : SW N (armS s n):=⟨h.now,h.kept,h.ob,h.made,h.cap,by simp only [armS]; omega⟩
theorem Arm_c {s : StS} {os : Nat} {p : AV} {H : AH} (h : StAt s os p H) (n : Int) : ∃ r H',(r = .tup []∧StAt (armS s n) os p H'∧StF os p p H H')∧BCall Tryz.prog 13 [.ptr os 0,I n] H r H':=store_Store_Arm_ok (by
 obtain ⟨a,b,c,d,pv,h⟩:=h;unfold zbboZ;have e1 : amm imx [I n,(I (-1))]=some (I (max n (-1))):=by rw [zbggZ,imx_eq,Int.max_comm]
 obtain ⟨h2,h3⟩:=h.set (s':=armS s n) h.now h.kept rfl;have e2 : ast 1 H (.ptr os 7) (I (max n (-1)))=some (H.set os (some (.cells [I s.cap,a,b,c,d,p,I s.made,I (max n (-1)),B s.off]))):=fld h.obj (by simp) rfl;simp only [e1,zbZ,zkZ,zeZ,Nat.zero_add,e2,zcaZ];exact ⟨by trivial,⟨a,b,c,d,pv,h2⟩,h3⟩)
theorem deed_c {s : StS} {os : Nat} {p : AV} {H : AH} (h : StAt s os p H) (hb : -1≤s.armed∧s.armed≤9223372036854775807) : ∃ r H',(r=B (deedS s).1∧StAt (deedS s).2 os p H'∧StF os p p H H')∧BCall Tryz.prog 58 [.ptr os 0] H r H':=zbcyZ (by
 obtain ⟨a,b,c,d,pv,h⟩:=h;unfold zzdZ;simp only [zkZ,zbZ,zeZ,Nat.zero_add,zlZ h.obj,zdZ,gCS,gCZ,zcrZ]
 have stop : s.off=true∨s.armed=0→bS (ast 1 H (.ptr os 8) (B true)) λH17=>B false=B (deedS s).1∧StAt (deedS s).2 os p H17∧StF os p p H H17:=by
  intro hc;have e : deedS s=(false,{ s with off:=true }):=by unfold deedS; rw [if_pos hc]
  rw [e];obtain ⟨h2,h3⟩:=h.set (s':={ s with off:=true }) h.now h.kept rfl;have e2 : ast 1 H (.ptr os 8) (B true)=some (H.set os (some (.cells [I s.cap,a,b,c,d,p,I s.made,I s.armed,B true]))):=fld h.obj (by simp) rfl;simp only [e2,zcaZ];exact ⟨by trivial,⟨a,b,c,d,pv,h2⟩,h3⟩
 cases ho : s.off with
 | true =>
  simp only [show ((true == false)=false) from rfl,zfxZ,zbZ,zoZ,if_true,zpZ,zbcZ,zkZ,zeZ,Nat.zero_add];exact stop (.inl ho)
 | false =>
  simp only [beq_self_eq_true,zbrZ,zbZ,zkZ,zeZ,Nat.zero_add,zlZ h.obj,zdZ,gCS,gCZ,zjaZ,zoZ,if_false,Bool.false_eq_true,zpZ]
  by_cases h0 : s.armed=0
  ·simp only [h0,dTt,zbcZ]
   exact stop (.inr h0)
  ·simp only [h0,dFf,zmZ,ztmZ,zpZ]
   have hn : ¬ (s.off=true∨s.armed=0):=by rintro (q | q); rw [ho] at q; cases q; exact h0 q
   by_cases hp : 0 < s.armed
   ·have e : deedS s=(true,{ s with armed:=s.armed - 1 }):=by unfold deedS; rw [if_neg hn,if_pos hp]
    rw [e];obtain ⟨h2,h3⟩:=h.set (s':={ s with armed:=s.armed - 1 }) h.now h.kept rfl;have e1 : abI .sub (I s.armed) (I 1)=some (I (s.armed - 1)):=zfpZ (by omega) (by omega);have e2 : ast 1 H (.ptr os 7) (I (s.armed - 1))=some (H.set os (some (.cells [I s.cap,a,b,c,d,p,I s.made,I (s.armed - 1),B s.off]))):=fld h.obj (by simp) rfl;simp only [hp,dTt,zbcZ,e1,zbZ,e2,zcaZ];rw [zocZ]; unfold ziuZ;exact ⟨rfl,⟨a,b,c,d,pv,h2⟩,h3⟩
   ·have e : deedS s=(true,s):=by unfold deedS; rw [if_neg hn,if_neg hp]
    rw [e];simp only [hp,dFf,zmZ];rw [zocZ]; unfold ziuZ;exact ⟨rfl,⟨a,b,c,d,pv,h⟩,.refl _ _ _⟩)
theorem rd9 (c a b d e f g h i : AV) : ztZ true 2 [c,a,b,d,e,f,g,h,i] 1=some (.agg [a,b])∧ztZ true 2 [c,a,b,d,e,f,g,h,i] 3=some (.agg [d,e]):=⟨rfl,rfl⟩
theorem st9 {H : AH} {os : Nat} {x0 x1 x2 x3 x4 x5 x6 x7 x8 a b : AV} (h : H[os]? = some (some (.cells [x0,x1,x2,x3,x4,x5,x6,x7,x8]))) (ha : oneA a=true) (hb : oneA b=true) :
  ast 2 H (.ptr os 1) (.agg [a,b])=some (H.set os (some (.cells [x0,a,b,x3,x4,x5,x6,x7,x8])))∧ast 2 H (.ptr os 3) (.agg [a,b])=some (H.set os (some (.cells [x0,x1,x2,a,b,x5,x6,x7,x8]))):=by
 constructor
 ·rw [zcoZ (n:=2) (off:=1) (xs:=[a,b]) (by simp [ha,hb]) h rfl (by simp)]; rfl
 ·rw [zcoZ (n:=2) (off:=3) (xs:=[a,b]) (by simp [ha,hb]) h rfl (by simp)]; rfl
theorem idS_lt {s : StS} {os : Nat} {a b c d p : AV} {pv : List OpV} {H : AH} (h : StC s os a b c d p pv H) : ∀ j ∈ idS p,j < H.length:=λj q=>zrZ h.ps j q
theorem do_c {N : Nat} {s : StS} {os : Nat} {p bv : AV} {H : AH} {o : OpM} (h : StAt s os p H) (hw : SW N s) (hN : N≤900000) (hb : SV encU 1 o.b bv) (ho : OpB o) :
  ∃ r H',(r=I (doS s o).1∧∃ p',StAt (doS s o).2 os p' H'∧StF os p p' H H')∧BCall Tryz.prog 63 [.ptr os 0,.agg (opA o bv)] H r H':=store_Store_do_ok (by
 have h0:=h;obtain ⟨a0,b0,c0,d0,pv0,hc0⟩:=h;unfold zbdxZ;have obv:=SV.oneA hb;have e1 : anew H (.agg (opA o bv))=some (.ptr H.length 0,H ++ [some (.cells (opA o bv))]):=by simp [opA,obv]
 have g:=Grew.app H [some (.cells (opA o bv))];obtain ⟨r,H3,⟨rfl,h3,f3⟩,hc⟩:=deed_c (h0.grew g) hw.armed;rw [e1,zbpZ];refine bC_of hc ?_;have sm:=hw.now.sm (by omega);obtain ⟨q1,q2,q3,q4,q5⟩:=zkeZ s;simp only [zduZ,zbZ,zpZ];cases hd : (deedS s).1 with
 | false =>
  have e : doS s o=(8,(deedS s).2):=by unfold doS; rw [if_neg (by rw [hd]; simp)]
  rw [e];simp only [Bool.not_false,zbcZ];exact ⟨by trivial,p,h3,(StF.of_grew g).trans f3⟩
 | true =>
  have e : doS s o=(0,{ (deedS s).2 with now:=ziaZ s.now.1 s.now.2 o,pend:=s.pend ++ [o] }):=by unfold doS; rw [if_pos hd]
  rw [e];have hos : os < H.length:=hc0.lt;have hid:=idS_lt hc0;obtain ⟨a,b,c,d,pv,h3⟩:=h3
  have c3 : H3[H.length]? = some (some (.cells (opA o bv))):=by
   rw [f3.same H.length (by simp) (by omega) (λq=>by have:=hid _ q; omega)]; exact top1
  obtain ⟨R,hR,hp⟩:=Apply_p (o:=o) (bv:=bv) h3.now (by rw [q1]; exact sm) hb (by have:=ho.1; omega) (by have:=ho.2.1; omega) (by have:=ho.2.2; omega);rw [q1] at hR;obtain ⟨a',b',rfl,oa,ob⟩:=hR.agg2;have rd8 : ztZ true 8 (opA o bv) 0=some (.agg (opA o bv)):=rfl;simp only [Bool.not_true,zmZ,zkZ,zbZ,zeZ,Nat.zero_add,zlZ h3.obj,(rd9 _ _ _ _ _ _ _ _ _).1,zlZ c3,rd8];refine bP_of hp ?_;obtain ⟨h4,f4⟩:=h3.set (s':={ (deedS s).2 with now:=ziaZ s.now.1 s.now.2 o }) hR h3.kept rfl;simp only [zkZ,zbZ,zeZ,Nat.zero_add,(st9 h3.obj oa ob).1,zcaZ];have c4 : (H3.set os (some (AObj.cells [I (deedS s).2.cap,a',b',c,d,p,I (deedS s).2.made,I (deedS s).2.armed,B (deedS s).2.off])))[H.length]? = some (some (.cells (opA o bv))):=by rw [gSN (by omega)]; exact c3
  simp only at h4 f4;generalize hH4 : H3.set os (some (AObj.cells [I (deedS s).2.cap,a',b',c,d,p,I (deedS s).2.made,I (deedS s).2.armed,B (deedS s).2.off]))=H4 at *
  have e6 : absf 8 1 (zrow [(I 0),(I 0),(I 0),(I 0),(B false),(.lit (.string ⟨#[]⟩)),(.lit (.string ⟨#[]⟩)),nilSl] 1) [(0,8,.agg (opA o bv))]=some (.imm (encO ⟨o,bv,hb⟩) 1 8):=by
   simp [absf,zrow,encO,opA,zbcjZ,obv,zlaZ]
  have x1 : zdeZ H4 8 (.imm (encO ⟨o,bv,hb⟩) 1 8)=some (encO ⟨o,bv,hb⟩,1):=znZ (by simp [zaZ,encO,opA]);have hpl : pv.length=s.pend.length:=by rw [← q3,← h3.pm,List.length_map]
  have hplN:=hw.plen;obtain ⟨r,H5,a1,a2,a3,a4,a5,a6⟩:=zjmZ (bytes:=96) h4.ps h4.po x1 (by omega);have a7:=aap_cap h4.ps h4.po x1 h4.pc a1;have c5 : H5[os]? = some (some (.cells [I (deedS s).2.cap,a',b',c,d,p,I (deedS s).2.made,I (deedS s).2.armed,B (deedS s).2.off])):=by rw [a5 os h4.lt h4.pi]; exact h4.obj
  have hor : os ∉ idS r:=λq=>(a6 os q).elim h4.pi (λq=>by have:=h4.lt; omega)
  have e7 : ast 1 H5 (.ptr os 5) r=some (H5.set os (some (.cells [I (deedS s).2.cap,a',b',c,d,r,I (deedS s).2.made,I (deedS s).2.armed,B (deedS s).2.off]))):=fld c5 (by simp) (zbiZ a2);simp only [zlZ h4.obj,zdZ,gCS,gCZ,zbZ,zlZ c4,rd8,e6,a1,zbpZ,e7,zcaZ,zeZ,Nat.zero_add,zkZ];have hl5 : os < H5.length:=(gSI.1 c5).1;refine ⟨by trivial,r,⟨a',b',c,d,pv ++ [⟨o,bv,hb⟩],⟨gSS hl5,hR,h3.kept, ?_, ?_,a2,hor,by simpa using a7⟩⟩, ?_⟩
  ·rw [List.map_append,h3.pm,q3]; rfl
  ·have:=zcZ a3 (H':=H5.set os (some (.cells [I (deedS s).2.cap,a',b',c,d,r,I (deedS s).2.made,I (deedS s).2.armed,B (deedS s).2.off]))) λi q=>gSN (λe=>hor (by rw [e]; exact q))
   simpa using this
  ·have f5 : StF os p r H4 (H5.set os (some (.cells [I (deedS s).2.cap,a',b',c,d,r,I (deedS s).2.made,I (deedS s).2.armed,B (deedS s).2.off]))):=⟨by simpa using a4,λj hj hne hjp=>by rw [gSN (Ne.symm hne),a5 j hj hjp],a6⟩
   exact ((StF.of_grew g).trans f3).trans (f4.trans f5))
theorem Now_c {N : Nat} {s : StS} {os : Nat} {p : AV} {H : AH} (h : StAt s os p H) (hw : SW N s) (hN : N≤900000) : ∃ R,ImV s.now.1 s.now.2 R∧∃ r H',(r=R∧Grew H H')∧BCall Tryz.prog 15 [.ptr os 0] H r H':=by
 obtain ⟨a,b,c,d,pv,h⟩:=h;obtain ⟨R,hR,hp⟩:=Copy_p h.now (hw.now.sm (by omega));refine ⟨R,hR,store_Store_Now_ok ?_⟩;unfold zbbyZ;obtain ⟨a',b',rfl,oa,ob⟩:=hR.agg2;have e1 : anew H (.agg [nilSl,nilSl])=some (.ptr H.length 0,H ++ [some (.cells [nilSl,nilSl])]):=by simp
 have g:=Grew.app H [some (.cells [nilSl,nilSl])]
 have e2 : ast 2 (H ++ [some (.cells [nilSl,nilSl])]) (.ptr H.length 0) (.agg [a',b'])=some (H ++ [some (.cells [a',b'])]):=by
  rw [zcoZ (n:=2) (xs:=[a',b']) (cs:=[nilSl,nilSl]) (by simp [oa,ob]) (by simp) rfl (by simp)];simp [zlaZ]
 simp only [e1,zbpZ,zkZ,zbZ,zeZ,Nat.zero_add,zlZ (g.cells h.obj),(rd9 _ _ _ _ _ _ _ _ _).1];refine zyZ hp ?_;simp only [e2,zcaZ,zlZ top1,rd2,zbZ];exact ⟨by trivial,Grew.app _ _⟩
def freeS (s : StS) : Int:=max 0 (s.cap - sumL s.now.2)
theorem sumL_few {M : Nat} {i : Img} (h : Few1 M i) : sumL i.2≤16 * M:=by
 have h1:=sumL_le h.2;have h2:=h.1.len2;exact Nat.le_trans h1 (Nat.mul_le_mul_right _ h2)
theorem Free_c {N : Nat} {s : StS} {os : Nat} {p : AV} {H : AH} (h : StAt s os p H) (hw : SW N s) (hN : N≤900000) : BCall Tryz.prog 34 [.ptr os 0] H (I (freeS s)) H:=by
 obtain ⟨r,H',⟨rfl,rfl⟩,hc⟩:=zbdtZ (a0:=.ptr os 0) (H:=H) (K:=λr H'=>r=I (freeS s)∧H'=H) (by
  obtain ⟨a,b,c,d,pv,h⟩:=h;unfold zzhZ;have hu:=Used_p h.now (hw.now.sm (by omega));rw [usedI_w hw.now.1] at hu;have hs:=sumL_few hw.now;have hcap:=hw.cap;have e1 : abI .sub (I s.cap) (I (sumL s.now.2 : Int))=some (I (s.cap - sumL s.now.2)):=zfpZ (by omega) (by omega);have e2 : amm imx [(I 0),I (s.cap - sumL s.now.2)]=some (I (freeS s)):=by rw [zbggZ,imx_eq,Int.max_comm]; rfl
  simp only [zkZ,zbZ,zeZ,Nat.zero_add,zlZ h.obj,zdZ,gCZ,(rd9 _ _ _ _ _ _ _ _ _).1];refine bP_of hu ?_;simp only [e1,zbZ,e2];exact ⟨by trivial,by trivial⟩)
 exact hc
def zsZ (s : StS) (ino : Int) : Cont × Int :=
 if s.off=true then ((0,[]),8) else if hasG s.now.1 s.now.2 ino then (((getN s.now.1 s.now.2 ino).size,(getN s.now.1 s.now.2 ino).l),0) else ((0,[]),3)
theorem zwyZ {N : Nat} {s : StS} {os : Nat} {p : AV} {H : AH} (h : StAt s os p H) (hw : SW N s) (hN : N≤900000) (ino : Int) :
  ∃ R,SV encE 9 (zsZ s ino).1.2 R∧∃ r H',(r = .tup [.agg [I (zsZ s ino).1.1,R],I (zsZ s ino).2]∧Grew H H')∧BCall Tryz.prog 64 [.ptr os 0,I ino] H r H':=by
 obtain ⟨a,b,c,d,pv,h⟩:=h;have e0 : abl [(I 0),nilSl] []=some (.agg [I 0,nilSl]):=rfl;have g:=Grew.app H [some (.cells [I 0,nilSl])];cases ho : s.off with
 | true =>
  have e : zsZ s ino=((0,[]),8):=by unfold zsZ; rw [if_pos ho]
  rw [e];refine ⟨nilSl,SV.nil,zhuZ ?_⟩;unfold zhjZ;simp only [nwC,zbpZ,zkZ,zbZ,zeZ,Nat.zero_add,zlZ (g.cells h.obj),zdZ,gCS,gCZ,ho,zpZ,zbcZ,e0,stC' H 0 (R:=nilSl) rfl,zcaZ,zlZ top1,rd2];exact ⟨by trivial,Grew.app _ _⟩
 | false =>
  have sm:=hw.now.sm (by omega);obtain ⟨R,hR,hp⟩:=Get_p h.now sm ino;have oR:=SV.oneA hR
  by_cases hg : hasG s.now.1 s.now.2 ino
  ·have e : zsZ s ino=(((getN s.now.1 s.now.2 ino).size,(getN s.now.1 s.now.2 ino).l),0):=by unfold zsZ; rw [if_neg (by rw [ho]; simp),if_pos hg]
   rw [e];refine ⟨R,hR,zhuZ ?_⟩;unfold zhjZ;simp only [nwC,zbpZ,zkZ,zbZ,zeZ,Nat.zero_add,zlZ (g.cells h.obj),zdZ,gCS,gCZ,ho,zpZ,zmZ,(rd9 _ _ _ _ _ _ _ _ _).1];refine zyZ hp ?_;have g2:=Grew.app (H ++ [some (AObj.cells [I 0,nilSl])]) [some (AObj.cells [I (getN s.now.1 s.now.2 ino).size,R])]
   have e5 : ast 2 (H ++ [some (AObj.cells [I 0,nilSl])] ++ [some (AObj.cells [I (getN s.now.1 s.now.2 ino).size,R])]) (.ptr H.length 0) (.agg [I (getN s.now.1 s.now.2 ino).size,R])=some (H ++ [some (AObj.cells [I (getN s.now.1 s.now.2 ino).size,R])] ++ [some (AObj.cells [I (getN s.now.1 s.now.2 ino).size,R])]):=by
    rw [zcoZ (n:=2) (xs:=[I (getN s.now.1 s.now.2 ino).size,R]) (cs:=[I 0,nilSl]) (by simp [oR]) (g2.cells top1) rfl (by simp)];simp [zlaZ]
   have g3:=Grew.app (H ++ [some (AObj.cells [I (getN s.now.1 s.now.2 ino).size,R])]) [some (AObj.cells [I (getN s.now.1 s.now.2 ino).size,R])];simp only [ziZ,gCS,gCZ,zbZ,nwC,zbpZ,stC' _ _ oR,zcaZ,hg,dTt,zduZ,Bool.not_true,zpZ,zmZ,zlZ top1,rd2,e5,zlZ (g3.cells top1)];exact ⟨by trivial,(Grew.app H _).trans g3⟩
  ·have e : zsZ s ino=((0,[]),3):=by unfold zsZ; rw [if_neg (by rw [ho]; simp),if_neg hg]
   rw [e];refine ⟨nilSl,SV.nil,zhuZ ?_⟩;unfold zhjZ;simp only [nwC,zbpZ,zkZ,zbZ,zeZ,Nat.zero_add,zlZ (g.cells h.obj),zdZ,gCS,gCZ,ho,zpZ,zmZ,(rd9 _ _ _ _ _ _ _ _ _).1];refine zyZ hp ?_;have g2:=Grew.app (H ++ [some (AObj.cells [I 0,nilSl])]) [some (AObj.cells [I (getN s.now.1 s.now.2 ino).size,R])]
   have e5 : ast 2 (H ++ [some (AObj.cells [I 0,nilSl])] ++ [some (AObj.cells [I (getN s.now.1 s.now.2 ino).size,R])]) (.ptr H.length 0) (.agg [I 0,nilSl])=some (H ++ [some (AObj.cells [I 0,nilSl])] ++ [some (AObj.cells [I (getN s.now.1 s.now.2 ino).size,R])]):=by
    rw [zcoZ (n:=2) (xs:=[I 0,nilSl]) (cs:=[I 0,nilSl]) rfl (g2.cells top1) rfl (by simp)];simp [zlaZ]
   simp only [ziZ,gCS,gCZ,zbZ,nwC,zbpZ,stC' _ _ oR,zcaZ,hg,dFf,zduZ,Bool.not_false,zpZ,zbcZ,e0,e5,zlZ (g2.cells top1),rd2];exact ⟨by trivial,g.trans g2⟩
def findS (s : StS) (name : List UInt8) : Int × Int :=
 if s.off=true then (0,8) else if ¬ mayN name then (0,5) else if hasK Nm.name s.now.1 name then (nameI s.now.1 name,0) else (0,3)
theorem find_c {N : Nat} {s : StS} {os : Nat} {p : AV} {H : AH} (h : StAt s os p H) (hw : SW N s) (hN : N≤900000) {name : List UInt8} (hn : name.length≤9223372036854775807) :
  BCall Tryz.prog 62 [.ptr os 0,S (bstr name)] H (.tup [I (findS s name).1,I (findS s name).2]) H:=by
 obtain ⟨r,H',⟨rfl,rfl⟩,hc⟩:=zbdlZ (a0:=.ptr os 0) (a1:=S (bstr name)) (H:=H) (K:=λr H'=>r = .tup [I (findS s name).1,I (findS s name).2]∧H'=H) (by
  obtain ⟨a,b,c,d,pv,h⟩:=h;unfold zzpZ;unfold findS;simp only [zkZ,zbZ,zeZ,Nat.zero_add,zlZ h.obj,zdZ,gCS,gCZ,zpZ];cases ho : s.off with
  | true => simp only [if_true,zbcZ]; exact ⟨by trivial,by trivial⟩
  | false =>
   simp only [zmZ,Bool.false_eq_true,if_false];refine zyZ (zbgdZ hn) ?_
   by_cases hm : mayN name
   ·simp only [hm,dTt,zduZ,Bool.not_true,zbZ,zpZ,zmZ,not_true_eq_false,if_false]
    have hf:=Find_p h.now (hw.now.sm (by omega)) name;obtain ⟨w1,w2⟩:=findI_w hw.now.1 name;rw [w1,show decide (hasI s.now.1 s.now.2 name)=decide (hasK Nm.name s.now.1 name) from decide_eq_decide.2 w2] at hf;simp only [zkZ,zbZ,zeZ,Nat.zero_add,zlZ h.obj,(rd9 _ _ _ _ _ _ _ _ _).1];refine zyZ hf ?_
    by_cases hk : hasK Nm.name s.now.1 name
    ·simp only [ziZ,gCS,gCZ,zbZ,hk,dTt,zduZ,Bool.not_true,zpZ,zmZ,if_true]
     exact ⟨by trivial,by trivial⟩
    ·simp only [ziZ,gCS,gCZ,zbZ,hk,dFf,zduZ,Bool.not_false,zpZ,zbcZ,if_false]
     exact ⟨by trivial,by trivial⟩
   ·simp only [hm,dFf,zduZ,Bool.not_false,zbZ,zpZ,zbcZ,not_false_eq_true,if_true]
    exact ⟨by trivial,by trivial⟩)
 exact hc
end Go.Proofs.YtlhiaihmkjlaaaaGreat.Av
end
