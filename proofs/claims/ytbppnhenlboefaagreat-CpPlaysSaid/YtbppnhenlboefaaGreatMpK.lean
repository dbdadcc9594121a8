/- Texts of this proof, one behind the other, packed into one file by a program of this session. No condition. -/
import Derived.Test.YtbppnhenlboefaaGreatMpJ
set_option linter.unusedVariables false
set_option linter.unusedSimpArgs false
set_option maxRecDepth 100000
section
set_option maxHeartbeats 1000000
namespace Go.Proofs.YtbppnhenlboefaaGreat.Av
open Go Go.RowKit Go.Proofs.Tryz
theorem Fk.grew {c a o:Nat}{e f j:AV}{l:List Tx}{op:List (Tx×Tx)}{d:List Tx}{b H H':AH}(h:Fk c a o e f j l op d b H)(g:Grew H H'):Fk c a o e f j l op d b H':=
 ⟨g.cells h.obj,g.cells h.ans,h.ne,h.no,g.slice h.sl,h.il,g.slice h.so,h.oo,h.io,g.slice h.sr,h.ow,h.ir,h.dj,Al1 h.g.1 g.1,λi k=>(g.2 i (by have:=h.g.1;omega)).trans (h.g.2 i k)⟩
def hZ (a:Nat)(F:Option (List (Tx×Tx)×List Tx))(r:AV)(H:AH):Prop:=match F with
 | none=>r=.tup [.agg [Ad,Ad],B false]
 | some (op,rs)=>∃vo vr,r=.tup [.agg [vo,vr],B true]/\Ac H 2 vo=some (op.flatMap D0,op.length)/\Ac H 1 vr=some (rs.flatMap BT,rs.length)/\oneA vo=true/\oneA vr=true/\(∀i∈Ba vo,a<=i)/\∀i∈Ba vr,a<=i
theorem Awh {l:List Tx}{v:AV}{H:AH}(hv:Ac H 1 v=some (l.flatMap BT,l.length))(hb:∀s∈l,s.length<=1000000)(hl:l.length<=1000000):
  ∃r H',(hZ H.length (Qp l) r H'/\H.length<=H'.length/\∀i,i<H.length->H'[i]?=H[i]?)/\Ba0 64 [.lit (.string ⟨#[]⟩),v] H r H':=Zv (by
 unfold UZ;have e1:∀H:AH,AE H (.agg [Ad,Ad])=some (.ptr H.length 0,H++[some (.cells [Ad,Ad])]):=λ_=>rfl;have g1:=Grew.app H [some (AObj.cells [Ad,Ad])];have t1:=BE (H:=H) (x:=AObj.cells [Ad,Ad]);have l1:(H++[some (AObj.cells [Ad,Ad])]).length=H.length+1:=by simp
 simp only[e1,A6];generalize (H++[some (AObj.cells [Ad,Ad])])=H1 at*;have g2:=Grew.app H1 [some (AObj.cells [Ad,Ad])];have t2:=BE (H:=H1) (x:=AObj.cells [Ad,Ad]);have l2:(H1++[some (AObj.cells [Ad,Ad])]).length=H1.length+1:=by simp
 have t1:=g2.cells t1;have ai:=g1.trans g2;generalize (H1++[some (AObj.cells [Ad,Ad])])=o at*;have ak:=ai.slice hv;have j:oneA Ad=true:=rfl;have T:Fk H.length H.length H1.length v Ad Ad l [] [] H o:=⟨t2,t1,by omega,⟨by omega,by omega⟩,ak,A5 hv,rfl,rfl,by simp[Ba],rfl,rfl,by simp[Ba],by simp[Ba],ai⟩;have X:∀{vo vr:AV} {op:List (Tx×Tx)} {rs:List Tx} {c:AH},Fk H.length H.length H1.length v vo vr l op rs H c->hZ H.length none (.tup [.agg [Ad,Ad],B false]) (c.set H.length (some (.cells [Ad,Ad])))/\H.length<=(c.set H.length (some (.cells [Ad,Ad]))).length/\∀i,i<H.length->(c.set H.length (some (AObj.cells [Ad,Ad])))[i]?=H[i]?:=λh=>by refine⟨rfl,by rw[Ak4];exact h.g.1,λi f=>?_⟩;rw[Cc (by omega)];exact h.g.2 i f
 have aj:∀{vo vr:AV} {op:List (Tx×Tx)} {rs:List Tx} {c:AH},Fk H.length H.length H1.length v vo vr l op rs H c->hZ H.length (some (op,rs)) (.tup [.agg [vo,vr],B true]) (c.set H.length (some (.cells [vo,vr])))/\H.length<=(c.set H.length (some (.cells [vo,vr]))).length/\∀i,i<H.length->(c.set H.length (some (AObj.cells [vo,vr])))[i]?=H[i]?:=by intro vo vr op rs c h;have ne:∀i,i≠H.length->(c.set H.length (some (AObj.cells [vo,vr])))[i]?=c[i]?:=λi f=>Cc (Al6 f);refine⟨⟨vo,vr,rfl,Ai h.so λi f=>ne i (h.io i f).2.2,Ai h.sr λi f=>ne i (h.ir i f).2.2,AI h.oo,AI h.ow,λi f=>(h.io i f).1,λi f=>(h.ir i f).1⟩,by rw[Ak4];exact h.g.1,λi f=>?_⟩;rw[ne i (by omega)];exact h.g.2 i f
 have W:Dy [Ad,Ad] []=some (.agg [Ad,Ad]):=rfl;simp only[Bt ak,Ad5,C8];unfold Qp;by_cases af:40<l.length
 ·simp only[show(40:Int)<(l.length:Int) by omega,Ad3,show((true==false)=false)from rfl,AT,ND,Ab9,W,(T.ret j j).1,A9,(T.ret j j).2];rw[if_pos af];exact X T
 rw[if_neg af];simp only[show ¬(40:Int)<(l.length:Int) by omega,B8,Do,Aa,V7];refine Az Awb ?_;simp only[AJ,Aa3,Ad1];refine TU (λn x0 N x4 x6 x7 H'=>∃(k:Nat) (op:List (Tx×Tx)) (rs:List Tx) (vo vr:AV),k+n=l.length/\x0=.lit (.string ⟨#[]⟩)/\N=v/\x4=.ptr H.length 0/\x6=.ptr H1.length 0/\x7=I k/\Fk H.length H.length H1.length v vo vr l op rs H H'/\op.length<=k/\rs.length<=k/\Ex l [] []=Ex (l.drop k) op rs) ?_ l.length
  ⟨0,[],[],Ad,Ad,by omega,rfl,rfl,rfl,rfl,rfl,T,by simp,by simp,rfl⟩
 rintro n x0 N x4 x6 x7 c R hR ⟨k,op,rs,vo,vr,hk,rfl,rfl,rfl,rfl,rfl,d,ho,hr,hF⟩;rw[hF];unfold MS;simp only[Bt d.sl,Ac1];rcases Aj5 k l.length with ap | av;rotate_left
 ·simp only[show ¬(k:Int)<(l.length:Int) by omega,Aa8];have M:=d.ret (AI d.oo) (AI d.ow);have l6:Aq true 2 c (.ptr H1.length 0)=some (.agg [vo,vr]):=by rw[Ah d.obj];rfl
  simp only[l6,Aa,M.1,A9,M.2];rw[Ak6 (by omega)];exact aj d
 have Q:=Dq ap;have aa:=Cs Q;generalize l[k]=s at Q aa;have aw:=hb s (Aj2 Q);obtain⟨p,p1,p2⟩:=Acj d.sl Q;rw[aa];have q1:Ar .add (I (k:Int)) (I 1)=some (I ((k+1:Nat):Int)):=by rw[Au (by omega) (by omega)];congr 3
 have s1:(AV.lit (.string ⟨#[45,45]⟩))=S (Ax [45,45]):=rfl;simp only[show(k:Int)<(l.length:Int) by omega,Ab7,p1,p2,Aa5,s1,DC];unfold Ex;by_cases A:s=[45,45]
 ·rw[if_pos A];obtain⟨w,w1,w2,-⟩:=DS d.sl (lo:=some (I ((k+1:Nat):Int))) (hi:=none) (l:=k+1) (k:=l.length) (by simp[BL];omega) rfl (by omega) (by omega);have w2:Ac c 1 w=some ((l.drop (k+1)).flatMap BT,(l.drop (k+1)).length):=by
   rw[w2];have e:∀(m:Nat) (L:List Tx),(L.flatMap BT).drop m=(L.drop m).flatMap BT:=by
    intro m
    induction m with
    | zero=>intro L;rfl
    | succ m ih=>intro L;cases L with
     | nil=>rfl
     | cons a L=>show((BT a++L.flatMap BT).drop (m+1))=_;exact ih L
   rw[Ao5,Ao5,e,Aj3 (by rw[Avz,Aj9];omega),Aj9]
  obtain⟨r,H8,O,u,a2,q⟩:=d.more (Grew.refl c) (by omega) w2 (by rw[Aj9];omega);have M:=q.ret (AI q.oo) (AI q.ow);have l6:Aq true 2 O (.ptr H1.length 0)=some (.agg [vo,r]):=by rw[Ah q.obj];rfl
  simp only[A,Ah2,Ab5,Ah d.obj,q1,w1,u,a2,l6,M.1,M.2];exact aj q
 rw[if_neg A];simp only[A,Aa8];have q2:Ev (S (Ax s))=some (I s.length):=FL (by omega);have ah:∀{G:List (Tx×Tx)} {J:List Tx} {ad ae:AV} {V:AH} {K:AV->AH->Prop},Fk H.length H.length H1.length N ad ae l G J H V->G.length<=k+1->J.length<=k+1->Ex l [] []=Ex (l.drop (k+1)) G J->D2 R (.lit (.string ⟨#[]⟩)) N (.ptr H.length 0) (.ptr H1.length 0) (I k) V K:=by intro G J ad ae V K D h5 h6 h7;rw[Va];unfold Ma;simp only[q1,Aa];exact hR (n - 1) _ _ _ _ _ _ (by omega) ⟨k+1,G,J,ad,ae,by omega,rfl,rfl,rfl,rfl,rfl,D,h5,h6,h7⟩
 have P:Ex l [] []=(match WD s with
  | none=>none
  | some (some kv)=>Ex (l.drop (k+1)) (op++[kv]) rs
  | some none=>Ex (l.drop (k+1)) op (rs++[s])):=by
  rw[hF,aa]
  conv=>lhs;unfold Ex
  rw[if_neg A];rfl
 have hK:∀r H',hZ H.length (Ex l [] []) r H'->hZ H.length (match WD s with
  | none=>none
  | some (some kv)=>Ex (l.drop (k+1)) (op++[kv]) rs
  | some none=>Ex (l.drop (k+1)) op (rs++[s])) r H':=λr H' h=>by rw[<- P];exact h
 have ax:WD s=none->hZ H.length (Ex l [] []) (.tup [.agg [Ad,Ad],B false]) []:=λh=>by rw[P,h];rfl
 simp only[q2,C8,Ad5];by_cases C:s.take 2=[45,45]
 ·have Z:2<s.length:=by
   have:=congrArg List.length C;rw[Aj4]at this;simp only[Aa6]at this;by_cases h:s.length=2
   ·exact absurd (by rw[<- C,Aj3 (by omega)]) A
   ·omega
  have t2:OI (S (Ax s)) none (some (I 2))=some (S (Ax (s.take 2))):=by rw[Hi (l:=0) (h:=2) rfl (by simp[BL]) (by omega) (by omega)];simp
  have t3:OI (S (Ax s)) (some (I 2)) none=some (S (Ax (s.drop 2))):=by rw[Hi (l:=2) (h:=s.length) (by simp[BL]) rfl (by omega) (by omega),Aj3 (by rw[Aj9];exact Aj7 _)]
  have E:WB [45,45] s=true:=by unfold WB;exact decide_eq_true C
  simp only[show(2:Int)<(s.length:Int) by omega,Ag6,t2,DC,C,Am,t3];refine Az (Awa (by rw[Aj9];omega)) ?_;simp only[Ad0];have cl:(JZ (s.drop 2)).1.length<=1000000:=by
   have hd:(s.drop 2).length<=s.length:=by rw[Aj9];omega
   unfold JZ;split
   ·rw[Aj4];omega
   ·show(s.drop 2).length<=_;omega
  refine Az (Aw9 (by omega)) ?_;simp only[Ag1];by_cases U:NH (JZ (s.drop 2)).1
  ·have t:WD s=some (some (JZ (s.drop 2))):=by unfold WD;rw[if_pos E,if_pos U]
   have e3:Dy [(.lit (.string ⟨#[]⟩)),(.lit (.string ⟨#[]⟩))] [(0,1,S (Ax (JZ (s.drop 2)).1)),(1,1,S (Ax (JZ (s.drop 2)).2))]=some (.agg [S (Ax (JZ (s.drop 2)).1),S (Ax (JZ (s.drop 2)).2)]):=rfl;obtain⟨r,H8,O,u,a2,q,a4⟩:=d.opt (by omega) (JZ (s.drop 2)).1 (JZ (s.drop 2)).2;simp only[U,Ah8,Ab1,Ah d.obj,BH,e3,u,Ad2,a2,q];exact ah a4 (by simp;omega) (by omega) (by rw[P,t])
  ·have t:WD s=none:=by unfold WD;rw[if_pos E,if_neg U]
   simp only[U,Ag4,W,Aa,(d.ret j j).1,A9,(d.ret j j).2,t];exact X d
 ·have E:WB [45,45] s=false:=by unfold WB;exact decide_eq_false C
  have w0:Co c 1 1 (Bx [(.lit (.string ⟨#[]⟩))] 1) [(0,1,S (Ax s))]=some (.sl c.length 0 1 1 (.ex 1),c++[some (.cells [S (Ax s)])]):=by simp[Co,Bx,Cy,Bb,oneA]
  have w1:Ac (c++[some (AObj.cells [S (Ax s)])]) 1 (.sl c.length 0 1 1 (.ex 1))=some (([s]:List Tx).flatMap BT,([s]:List Tx).length):=by rw[AS BE (by simp)];rfl
  obtain⟨r9,H8,O,u,a2,q⟩:=d.more (Grew.app c [some (AObj.cells [S (Ax s)])]) (by omega) w1 (by simp);have ag:∀{K:AV->AH->Prop},WD s=some none->D2 R (.lit (.string ⟨#[]⟩)) N (.ptr H.length 0) (.ptr H1.length 0) (I k) O K:=λt=>ah q (by omega) (by simp;omega) (by rw[P,t]);have am:¬(WB [45] s=true/\s.drop 1≠[])->WD s=some none:=λh=>by unfold WD;rw[if_neg (by rw[E];simp),if_neg h]
  have aq:(WB [45] s=true/\s.drop 1≠[])->WD s=none:=λh=>by unfold WD;rw[if_neg (by rw[E];simp),if_pos h]
  have ar:2<s.length->OI (S (Ax s)) none (some (I 2))=some (S (Ax (s.take 2))):=λZ=>by rw[Hi (l:=0) (h:=2) rfl (by simp[BL]) (by omega) (by omega)];simp
  have ao:2<s.length\/¬2<s.length:=Classical.em _;rcases ao with Z | Z
  all_goals first
   | simp only[show(2:Int)<(s.length:Int) by omega,Ag6,ar (by omega),DC,C,Aa8]
   | simp only[show ¬(2:Int)<(s.length:Int) by omega,Ag7,show((false==true)=false)from rfl]
  all_goals
   by_cases h1:1<s.length
   ·have F:=Dq (show 0<s.length by omega);generalize s[0]=y at F;have tk:s.take 1=[y]:=by
     cases s with
     | nil=>simp at F
     | cons b s=>simp at F;simp[F]
    have dr:s.drop 1≠[]:=λe=>by have:=congrArg List.length e;rw[Aj9]at this;simp only[Ap0]at this;omega
    simp only[show(1:Int)<(s.length:Int) by omega,Ac3,Aa5,I7 (i:=0) (k:=0) rfl F,Bu];by_cases Y:y=45
    ·subst Y;have t:=aq ⟨by unfold WB;exact decide_eq_true tk,dr⟩;simp only[show(((45:UInt8).toNat:Int)=45)from rfl,Ab7,t];refine Sv R (λn2 y0 y1 y4 y6 y7 y8 an o=>y0=.lit (.string ⟨#[]⟩)/\y4=.ptr H.length 0/\y8=S (Ax s)/\an=I 1/\o=c) ?_ 0 ⟨rfl,rfl,rfl,rfl,rfl⟩;rintro n2 y0 y1 y4 y6 y7 y8 an o R2 au ⟨rfl,rfl,rfl,rfl,rfl⟩;unfold Mb;have al:=Dq (show 1<s.length by omega);generalize s[1]=z at al;have u1:OI (S (Ax s)) (some (I 1)) (some (I (1+1)))=some (S (Ax ((s.drop 1).take (2 - 1)))):=Hi (l:=1) (h:=2) (by simp[BL]) (by simp[BL]) (by omega) (by omega);have u2:∀x:Tx,Dy [(.lit (.string ⟨#[]⟩)),(.lit (.string ⟨#[]⟩))] [(0,1,S (Ax x))]=some (.agg [S (Ax x),S (Ax [])]):=λx=>rfl;have u3:AE o (.agg [(.lit (.string ⟨#[]⟩)),(.lit (.string ⟨#[]⟩))])=some (.ptr o.length 0,o++[some (.cells [S (Ax []),S (Ax [])])]):=rfl;have u4:∀x:Tx,AU 2 (o++[some (AObj.cells [S (Ax []),S (Ax [])])]) (.ptr o.length 0) (.agg [S (Ax x),S (Ax [])])=some (o++[some (.cells [S (Ax x),S (Ax [])])]):=λx=>by rw[AG (n:=2) (xs:=[S (Ax x),S (Ax [])]) (cs:=[S (Ax []),S (Ax [])]) (by simp[Cy,oneA]) BE rfl (by simp)];simp[Bb]
     have D:=d.grew (Grew.app o [some (AObj.cells [S (Ax ((s.drop 1).take (2 - 1))),S (Ax [])])]);simp only[q2,Ac1,show(1:Int)<(s.length:Int) by omega,Ah2,Au (a:=1) (b:=1) (by omega) (by omega),u1,u2,u3,u4,I7 (i:=1) (k:=1) rfl al];refine Az (Awc z) ?_;simp only[Bu,Ab7,Aa5,W,(D.ret j j).1,A9,(D.ret j j).2];exact X D
    ·have c':¬((y.toNat:Int)=45):=λe=>Y (UInt8.toNat_inj.1 (by show y.toNat=45;omega));simp only[c',Aa8,Ab5,Ah d.obj,w0,Ad2,u,a2];exact ag (am λh=>Y (by have:=of_decide_eq_true h.1;rw[show([45]:List UInt8).length=1 from rfl,tk]at this;injection this))
   ·simp only[show ¬(1:Int)<(s.length:Int) by omega,Aa8,show((false==true)=false)from rfl,AT,Ab5,An,Af,Ah d.obj,w0,Ad2,u,a2];exact ag (am λh=>h.2 (Ak6 (by omega))))
theorem qW:∀{op:List (Tx×Tx)} {w:Tx},¬(∀b∈op,E9 b.2)->W5 op w=none
 | [],w,h=>absurd (by simp) h
 | b::l,w,h=>by
  unfold W5;by_cases c:E9 b.2
  ·rw[if_pos c];exact qW λz=>h λx a=>by
    rcases Al3.1 a with rfl | a
    ·exact c
    ·exact z x a
  ·rw[if_neg c]
theorem qV:∀{op:List (Tx×Tx)} {w:Tx},(∀a∈op,E9 a.2)->∃u,W5 op w=some u/\((op=[]/\u=w)\/∃a,op[op.length - 1]?=some a/\a.2=u)
 | [],w,h=>⟨w,rfl,.inl ⟨rfl,rfl⟩⟩
 | a::l,w,h=>by
  unfold W5;rw[if_pos (h a (by simp))];obtain⟨u,e,c⟩:=qV (op:=l) (w:=a.2) λx f=>h x (by simp[f]);refine⟨u,e,.inr ?_⟩;rcases c with⟨rfl,rfl⟩ | ⟨y,b,d⟩
  ·exact⟨a,rfl,rfl⟩
  ·refine⟨y,?_,d⟩;have:=(BG.1 b).1;rw[Al4,show l.length+1 - 1=(l.length - 1)+1 by omega,Ca];exact b
theorem Awi {op:List (Tx×Tx)}{q:List Tx}{i:Tx}(o:(i=GM/\∀d∈op,d.1≠gN)\/∃(k:Nat) (d:Tx×Tx),i=d.2/\op[k]?=some d/\d.1=gN/\∀m y,k<m->op[m]?=some y->y.1≠gN):
  jQ op q=(match q with
   | [a,b]=>if a=b\/¬(∀d∈op,d.1=gN)\/¬E9 i\/¬(∀d∈op,E9 d.2)then none else some (a,b,i)
   | _=>none):=by
 unfold jQ;split
 ·rename_i a b;simp only;by_cases l:a=b
  ·rw[if_pos l,if_pos (.inl l)]
  rw[if_neg l];by_cases g:∀d∈op,d.1=gN
  ·rw[if_pos (λd h=>by simpa using g d h)];by_cases j:∀d∈op,E9 d.2
   ·obtain⟨u,e,c⟩:=qV (w:=GM) j;have p:u=i/\E9 i:=by
     rcases c with⟨rfl,rfl⟩ | ⟨y,f,t⟩
     ·rcases o with⟨rfl,-⟩ | ⟨k,d,-,h,-⟩
      ·exact⟨rfl,.inl rfl⟩
      ·simp at h
     ·rcases o with⟨-,h⟩ | ⟨k,d,rfl,n,v,s⟩
      ·exact absurd (g y (Aj2 f)) (h y (Aj2 f))
      ·have x:=(BG.1 n).1;by_cases r:k=op.length - 1
       ·rw[<- r,n]at f;injection f with f;subst f;exact⟨t.symm,j _ (Aj2 n)⟩
       ·exact absurd (g y (Aj2 f)) (s _ y (by omega) f)
    rw[e,p.1,if_neg]
    ·rfl
    ·rintro(z | z | z | z)
     ·exact l z
     ·exact z g
     ·exact z p.2
     ·exact z j
   ·rw[qW j,if_pos (.inr (.inr (.inr j)))];rfl
  ·rw[if_neg (λz=>g λd h=>by simpa using z d h),if_pos (.inr (.inl g))]
 ·rename_i h;split
  ·rename_i a b;exact absurd rfl (h a b)
  ·rfl
end Go.Proofs.YtbppnhenlboefaaGreat.Av
end
section
set_option maxHeartbeats 1000000
namespace Go.Proofs.YtbppnhenlboefaaGreat.Av
open Go Go.RowKit
theorem dG {x:Ext}{l:List Ext}{p:Int}:Ml (x::l) p=if x.no=p/8 then x.b.getD (p % 8).toNat 0 else Ml l p:=by
 unfold Ml;rw[List.find?_cons];by_cases c:x.no=p/8
 ·simp[c]
 ·simp[c]
theorem Akc (i:Nat):z8.getD i 0=0:=by
 rw[Al0];cases a:z8[i]? with
 | none=>rfl
 | some y=>
  have:=Aj2 a;have h:∀y∈z8,y=0:=by decide
  exact h y this
theorem Akd {no:Int}{L:List Ext}(hs:srt L)(f:∀x∈L,no<=x.no):(∀p,p/8=no->(Kp no L).1.getD (p % 8).toNat 0=Ml L p)/\(∀p,no<p/8->Ml (Kp no L).2 p=Ml L p)/\srt (Kp no L).2/\(∀x∈(Kp no L).2,no+1<=x.no/\x∈L):=by
 unfold Kp;cases L with
 | nil=>exact⟨λp _=>(Akc _).trans rfl,λp _=>rfl,hs,by simp⟩
 | cons x L=>
  have b:=An2.1 hs;simp only;by_cases c:x.no=no
  ·rw[if_pos c];refine⟨λp d=>?_,λp d=>?_,b.2,λy a=>⟨by have:=b.1 y a;omega,by simp[a]⟩⟩
   ·rw[dG,if_pos (by omega)]
   ·rw[dG,if_neg (by omega)]
  ·rw[if_neg c];have g:=f x (by simp);refine⟨λp d=>?_,λp d=>rfl,hs,λy a=>⟨?_,a⟩⟩
   ·rw[Akc,Fq];rintro⟨y,a,e⟩;rcases Al3.1 a with rfl | a
    ·omega
    ·have:=b.1 y a;omega
   ·rcases Al3.1 a with rfl | a
    ·omega
    ·have:=b.1 y a;omega
theorem V1 {size:Int}:∀{l:List Ext},srt l->∀x,x∈BM size l↔x∈l/\x.no*8<size
 | [],_,x=>by simp[BM]
 | y::l,hs,x=>by
  have a:=An2.1 hs;unfold BM;split
  ·rename_i c;rw[Al3,V1 a.2 x,Al3];constructor
   ·rintro(rfl | q)
    ·exact⟨.inl rfl,c⟩
    ·exact⟨.inr q.1,q.2⟩
   ·rintro⟨rfl | q,r⟩
    ·exact .inl rfl
    ·exact .inr ⟨q,r⟩
  ·rename_i c;constructor
   ·intro q;simp at q
   ·rintro⟨q,r⟩;rcases Al3.1 q with rfl | q
    ·exact absurd r c
    ·have:=a.1 x q;omega
theorem sZ {size:Int}:∀{l:List Ext},srt l->srt (BM size l)
 | [],h=>h
 | y::l,hs=>by
  have a:=An2.1 hs;unfold BM;split
  ·exact An2.2 ⟨λx b=>a.1 x ((V1 a.2 x).1 b).1,sZ a.2⟩
  ·exact List.Pairwise.nil
theorem Awj {size:Int}{l:List Ext}(hs:srt l){p:Int}(h:p<size):Ml (BM size l) p=Ml l p:=by
 induction l with
 | nil=>rfl
 | cons y l ih=>
  have b:=An2.1 hs;unfold BM;split
  ·rw[dG,dG,ih b.2]
  ·rename_i c;show(0:UInt8)=_;rw[Fq];rintro⟨x,a,e⟩;rcases Al3.1 a with rfl | a
   ·omega
   ·have:=b.1 x a;omega
theorem uH {size:Int}{l L:List Ext}{no:Int}(h:CZ size l)(k:0<=no)(b:no*8<size)(hs:srt L)(d:∀x∈L,no<=x.no)(g:∀p,p/8=no->p<size->Ml L p=Ml l p):Hw size l (no*8) 8=(Kp no L).1.take (min 8 (size - no*8)).toNat:=by
 obtain⟨j,-,-,-⟩:=Akd hs d;have m:=PS no L;obtain⟨c,f⟩:∃c:Nat,min 8 (size - no*8)=c:=⟨(min 8 (size - no*8)).toNat,by omega⟩;unfold Hw;rw[if_pos ⟨h,by omega,by omega,by omega,b⟩,f,Ap6];unfold Ew;refine Am4 λi=>?_;rw[Al2];by_cases a:i<c
 ·have e:=j (no*8+i) (by omega);rw[g _ (by omega) (by omega),show((no*8+(i:Int)) % 8).toNat=i by omega,Al0,Dq (show i<(Kp no L).1.length by omega)]at e;rw[Aq9 a,Ao2 a,As6,Dq (show i<(Kp no L).1.length by omega),<- e];rfl
 ·rw[Ao3 (by rw[List.length_range];omega),Ao3 (by rw[Aj4];omega)];rfl
theorem Awk {size:Int}{l L:List Ext}{no to:Int}(s:StS)(e:CZ size l)(a:0<=no)(b:no*8<size)(hs:srt L)(c:∀x∈L,no<=x.no)(d:∀p,p/8=no->p<size->Ml L p=Ml l p):Aa1 to size s no (Kp no L).1=((BD s to (no*8) (Hw size l (no*8) 8)).1.2,(BD s to (no*8) (Hw size l (no*8) 8)).2):=by
 rw[uH e a b hs c d];rfl
end Go.Proofs.YtbppnhenlboefaaGreat.Av
end
section
set_option maxHeartbeats 1000000
namespace Go.Proofs.YtbppnhenlboefaaGreat.Av
open Go Go.RowKit Go.Proofs.Tryz
def leadN:List UInt8->Nat
 | []=>0
 | c::l=>if c=0 then leadN l+1 else 0
theorem Awl (c:UInt8)(l:List UInt8):leadN (c::l)=if c=0 then leadN l+1 else 0:=rfl
theorem Ake:∀l:List UInt8,leadN l<=l.length
 | []=>Aj7 _
 | c::l=>by unfold leadN;have:=Ake l;split<;>simp only[Al4]<;>omega
theorem bK:∀l:List UInt8,leadN l=l.length↔OE l
 | []=>by simp[leadN,OE]
 | c::l=>by
  have b:=bK l;have d:=Ake l;unfold leadN;by_cases h:c=0
  ·rw[if_pos h];simp only[Al4];constructor
   ·intro e x a;rcases Al3.1 a with rfl | a
    ·exact h
    ·exact b.1 (by omega) x a
   ·intro z;have:=b.2 λx a=>z x (by simp[a]);omega
  ·rw[if_neg h];simp only[Al4];constructor
   ·intro e;omega
   ·intro z;exact absurd (z c (by simp)) h
theorem Awm {b:List UInt8}{v:AV}(f:SV Ft 1 b v)(hl:b.length<=1000000):Ba2 147 [v] (I (leadN b)):=BPure.val (by simp[AF,f.1]) rfl (cA (by
 unfold Ww;refine US (λn i j H'=>∃k:Nat,k+n=b.length/\i=v/\j=I k/\k+leadN (b.drop k)=leadN b) ?_ b.length ⟨0,by omega,rfl,rfl,by simp⟩;rintro n i j H' R l ⟨k,p,rfl,rfl,a⟩;unfold Ov;simp only[f.len,Ad5,AM];rcases Aj5 k b.length with h | h
 ·have g:=Dq h;generalize b[k]=y at g;have m:∀t,Aq false 1 H' (.ip (Ft y++t))=some (.lit (.int .u8 y.toNat)):=λ_=>rfl;rw[Cs g,Awl]at a;simp only[show(k:Int)<(b.length:Int) by omega,Ag6,f.idx (λ_=>rfl) g rfl,m,Bu];by_cases c:y=0
  ·have d:((y.toNat:Int)=0):=by rw[c];rfl
   rw[if_pos c]at a;have o:Ar .add (I (k:Int)) (I 1)=some (I ((k+1:Nat):Int)):=by rw[Au (by omega) (by omega)];congr 3
   simp only[d,Aj0,o];exact l (n - 1) _ _ _ (by omega) ⟨k+1,by omega,rfl,rfl,by omega⟩
  ·have d:¬((y.toNat:Int)=0):=λe=>c (UInt8.toNat_inj.1 (by rw[show(0:UInt8).toNat=0 from rfl];omega));rw[if_neg c]at a;simp only[d,Aa8];rw[show k=leadN b by omega]
 ·simp only[show ¬(k:Int)<(b.length:Int) by omega,Ag7,show((false==true)=false)from rfl];rw[Ak6 h]at a;have:leadN ([]:List UInt8)=0:=rfl;rw[show k=leadN b by omega]))
theorem Awn {b:List UInt8}{v:AV}(a:SV Ft 1 b v)(hl:b.length<=1000000):Ba2 74 [v] (B (decide (OE b))):=BPure.val (by simp[AF,a.1]) rfl (cB (by
 unfold Wx;refine Az (Awm a hl) ?_;simp only[a.len,Aa,Bu];have:((leadN b:Int)=(b.length:Int))=(OE b):=propext ⟨λh=>(bK b).1 (by omega),λh=>by have:=(bK b).2 h;omega⟩;simp only[this]))
def rM (size:Int)(l:List Ext):Nat:=(l.filter λx=>decide (x.no*8<size)).length
theorem Awo (size:Int)(l:List Ext)(x:Ext):rM size (l++[x])=rM size l+if x.no*8<size then 1 else 0:=by
 unfold rM;rw[Ar5,Ak1];by_cases h:x.no*8<size<;>simp[h]
theorem oE {size:Int}:∀{l:List Ext},srt l->rM size l=(BM size l).length
 | [],_=>rfl
 | x::l,hs=>by
  have a:=An2.1 hs;have b:=oE (size:=size) a.2;unfold rM at b|-;unfold BM;by_cases h:x.no*8<size
  ·simp[h,b]
  ·have:l.filter (λx=>decide (x.no*8<size))=[]:=by rw[List.filter_eq_nil_iff];intro y c;have:=a.1 y c;simp only[decide_eq_true_eq];omega
   simp[h,this]
theorem Awp (size:Int)(l:List Ext):rM size l<=l.length:=Ap1 _ _
theorem Awq {size:Int}{l:List Ext}(g:CZ size l){x:Ext}(i:x∈l)(h:x.no*8<size):OE (x.b.take (min 8 (size - x.no*8)).toNat)↔OE x.b:=by
 obtain⟨r,s,m,t,n⟩:=T9.1 g;constructor
 ·intro z c a;obtain⟨j,d⟩:=Ak0.1 a;have q:=(BG.1 d).1;have o:=x.hb;by_cases p:x.no*8+j<size
  ·refine z c (Ak0.2 ⟨j,?_⟩);rw[Ak2,if_pos (by omega)];exact d
  ·have e:=n (x.no*8+j) (by omega);have:Ml l (x.no*8+j)=x.b.getD j 0:=by obtain⟨k,f⟩:=Ak0.1 i;rw[Xo m f (by omega)];congr 1;omega
   rw[this]at e;simpa[d]using e
 ·intro z c a;exact z c (An8 a)
theorem VRs.setK {G' G'':Cfg}(c:Tr G' G''){a:AV}:∀{cs:List AV} {vs:List Value} (k:Nat),VRs G' cs vs->(∀b v,cs[k]?=some b->VR G' b v->VR G'' a v)->VRs G'' (cs.set k a) vs
 | [],vs,k,h,hk=>by simpa only[List.set_nil]using h.tr c
 | b::cs,vs,0,h,hk=>by simp only[VRs,Au6]at h|-;obtain⟨v,r,e,d,f⟩:=h;exact⟨v,r,e,hk b v rfl d,f.tr c⟩
 | b::cs,vs,k+1,h,hk=>by simp only[VRs,Au7]at h|-;obtain⟨v,r,e,d,f⟩:=h;exact⟨v,r,e,d.tr c,VRs.setK c k f λb v g=>hk b v (by simpa using g)⟩
variable {P : Program}
theorem BCall.fzCell {f:FuncId}{args:List AV}{H X:AH}{r:AV}(h:BCall P f args H r X){o q k off len sz:Nat}{J:Room}{cs t:List AV}(aj:o≠q)(A:X[o]?=some (some (.cells cs)))(O:X[q]?=some (some (.cells t)))
  (C:t[k]?=some (.sl o off len sz J)) (E:AF ((cs.drop off).take (len*sz))=true):
  BCall P f args H r ((X.set o none).set q (some (.cells (t.set k (.imm ((cs.drop off).take (len*sz)) len sz))))):=by
 intro G U hH F;refine(h G U hH F).mono ?_;rintro e w' ⟨r',j,d,v,rfl,rfl,l,hx,p,rfl,rfl⟩;let m:Nat->Prop:=λb=>d.L b/\b≠(d.μ o).1;have ah:(j.set o none).length=j.length:=by simp
 have B:∀(i:Nat) (x:AObj),(j.set o none)[i]?=some (some x)->i≠o/\j[i]?=some (some x):=by
  intro i x a;by_cases c:o=i
  ·subst c;rw[HU (BG.1 A).1]at a;cases a
  ·rw[Cc c]at a;exact⟨λe=>c e.symm,a⟩
 have hF:HR d (j.set o none):=p.fewer ah λi x a=>(B i x a).2;have ai:∀(i:Nat) (x:AObj),(j.set o none)[i]?=some (some x)->m (d.μ i).1:=λi x a=>
  ⟨p.live i x (B i x a).2,λe=>(B i x a).1 (p.inj i o x _ (B i x a).2 A e)⟩
 have u:HR (d.less m) (j.set o none):=hF.less m (λb w=>w.1) ai;have R:Tr d (d.less m):=⟨Aj7 _,λ_ _=>rfl,λad U g=>g.imp id λh=>⟨λg=>h.1 (g.imp (λz=>z.1) id),h.2⟩⟩;have aa:Evo G (d.less m):=⟨l.os,l.tape,l.output,l.size,λk C N=>⟨(l.keep k C N).1,λg=>(l.keep k C N).2 g.1⟩,l.n,l.μ,l.K⟩
 let s:AH:=(List.replicate j.length none).set o (some (.cells cs));have T:=(BG.1 A).1;have M:∀(i:Nat) (x:AObj),s[i]?=some (some x)->i=o/\x=.cells cs:=by
  intro i x a;by_cases c:o=i
  ·subst c;rw[HU (by simpa using T)]at a;injection a with a;injection a with a;exact⟨rfl,a.symm⟩
  ·rw[Cc c,As4]at a;split at a<;>cases a
 have ab:HR d s:=p.fewer (by simp[s]) λi x a=>by obtain⟨rfl,rfl⟩:=M i x a;exact A
 have al:s[o]?=some (some (.cells cs)):=HU (by simpa using T);obtain⟨n0,hf⟩:=FA s _ E;have af:Se s (n0+1) (.sl o off len sz J)=some (.imm ((cs.drop off).take (len*sz)) len sz):=by simp only[Se,al,hf n0 (Aj7 _),As6]
 have ae:∀b v,t[k]?=some b->VR d b v->VR (d.less m) (.imm ((cs.drop off).take (len*sz)) len sz) v:=by
  intro b v w F;rw[C]at w;injection w with w;subst w;refine pG (G':=d) (G'':=d.less m) rfl (λb E g=>E (g.imp (λz=>z.1) id)) ab ?_ (n0+1) _ v _ F af;intro i x a g;obtain⟨rfl,rfl⟩:=M i x a;rcases g with g | g
  ·exact g.2 rfl
  ·exact p.dis _ (p.live i _ A) g
 have Q:(j.set o none)[q]?=some (some (.cells t)):=by rw[Cc aj];exact O
 have ql:=(BG.1 Q).1;refine⟨r',_,d.less m,v,rfl,rfl,aa,hx.tr R,?_,rfl,rfl⟩;have D:∀(i:Nat) (x:AObj),((j.set o none).set q (some (.cells (t.set k (.imm ((cs.drop off).take (len*sz)) len sz)))))[i]?=some (some x)->∃y,(j.set o none)[i]?=some (some y):=by
  intro i x a;by_cases c:q=i
  ·subst c;exact⟨_,Q⟩
  ·rw[Cc c]at a;exact⟨_,a⟩
 refine⟨by rw[Ak4];exact u.n,?_,?_,?_,u.lt,u.dis⟩
 ·intro i x a;by_cases c:q=i
  ·subst c;rw[HU ql]at a;injection a with a;injection a with a;subst a;obtain⟨c,e,us,V,W,Y,Z,h5⟩:=p.obj q _ O;exact⟨c,e,us,V,W,by rw[Ak4];exact Y,VRs.setK R k Z ae,h5⟩
  ·rw[Cc c]at a;exact u.obj i x a
 ·intro i S x x' a ag he;obtain⟨y,I⟩:=D i x a;obtain⟨y',ak⟩:=D S x' ag;exact u.inj i S y y' I ak he
 ·intro i x a;obtain⟨y,I⟩:=D i x a;exact u.live i y I
end Go.Proofs.YtbppnhenlboefaaGreat.Av
end
section
namespace Go.Proofs.YtbppnhenlboefaaGreat.Av
open Go Go.Proofs.Tryz
def aB:FuncId->Bool:=hU [43,82,20,13,52,40,102,24,23,98,50,170,172,188,179,181,22,99,169,111,143,142,148,180,182,145,73,141,171,173,144,75,176,135,70,134,139,149,174,112,27]
def Oj:T12:=λa0 H K=>bO (amm jF [a0,(I 0)]) λb=>bO (amm gZ [b,(I 4096)]) λc=>bO (Dy [Ad,Ad,Ad,Ad,Ad,(I 0),(I 0),(I 0),(B false)] [(5,1,c),(7,1,(I (-1)))]) λd=>bH (AE H d) λe a=>K e a
theorem UL {a0 H K}(h:Oj a0 H K):BQ 29 [a0] H K:=fok A8 aB B7 func29 h
def LL:T12:=λa0 H K=>bO (Aj a0) λa=>bO (Ab 5 a) λb=>bO (Aq false 1 H b) λc=>bO (Aj a0) λd=>bO (Ab 0 d) λe=>bO (Aq true 2 H e) λf=>bP (Ba2 149 [f]) λg=>bO (Ar .sub c g) λh=>bO (amm jF [h,(I 0)]) λi=>K i H
theorem Sk {a0 H K}(h:LL a0 H K):BQ 77 [a0] H K:=fok A8 aB B7 func77 h
def MC:T10:=λa0 a1 H K=>bO (amm jF [a1,(I (-1))]) λb=>bO (Aj a0) λc=>bO (Ab 7 c) λd=>bS (AU 1 H d b) λa=>K (.tup []) a
theorem TF {a0 a1 H K}(h:MC a0 a1 H K):BQ 32 [a0,a1] H K:=fok A8 aB B7 func32 h
def He:Nat->Option (List Bool):=BI [(5,mk 56 0 [0,1,4]),(2,mk 56 0 [0,1,4])]
def D6 (p:List Bool)(n:Nat):List AV->AH->Kf->Prop:=AR prog A8 aB Aw Aw He (sub p (AK f124)) n
def Ez:T18:=λa b c d H K=>jn (mk 56 0 [0,1,4]) (D6 (pbZ 114) 7) [b,c,d] H (M1 (mk 56 0 [0,1,4]) a (AP 0 (AO (D6 (pbZ 3) 7) (AN prog f124.results.toList K))))
def Hd:T11:=λa b c H K=>lp (mk 56 0 [0,1,4]) (D6 (pbZ 18) 3) [a,b,c] H (AP 0 (AO (D6 (pbZ 3) 7) (AN prog f124.results.toList K)))
def DU:T18:=λa c d e H K=>bO (Ar .add e (I 1)) λb=>a [c,d,b] H
theorem FF (a:RT)(b c d:AV)(H:AH)(K:KT):Ez a b c d H K=DU a b c d H K:=(Bi _ _ _ _ _).trans (by kernel_rfl)
def Gf:T18:=λe a d b H K=>bO (Aj a) λn=>bO (Ab 4 n) λo=>bO (Aq false 1 H o) λw=>bO (AW w) λJ=>bO (Ar .lss b J) λc=>bG c true λw5=>gO w5 (some b) λX=>bG c true λw7=>gO w7 (some d) λY=>bG c true λw9=>gO w9 (AW Y) λp=>bG c true λZ=>gO Z (Ar .lss X p) λq=>bO (A0 c q (B false)) λr=>bB r λl=>bI l (bO (AY 1 d b) λs=>bO (Aq false 1 H s) λt=>bB t λm=>bI m (bO (Aj a) λu=>bO (Ab 2 u) λv=>bO (Aq true 2 H v) λx=>bO (Aj a) λy=>bO (Ab 4 y) λz=>bO (Aq false 1 H z) λA=>bO (AY 8 A b) λC=>bO (Aq true 8 H C) λD=>bP (Ba2 176 [x,D]) λE=>bO (Aj a) λF=>bO (Ab 2 F) λG=>bS (AU 2 H G E) λf=>Ez e a d b f K) (Ez e a d b H K)) (bO (Aj a) λL=>bO (Ab 2 L) λM=>bO (Aq true 2 H M) λN=>bC (Ba0 177 [N] H) λO g=>bO (Aj a) λP=>bO (Ab 0 P) λQ=>bS (AU 2 g Q O) λh=>bO (Aj a) λR=>bO (Ab 4 R) λS=>bS (AU 1 h S Ad) λi=>bO (Aj a) λT=>bO (Ab 7 T) λU=>bS (AU 1 i U (I (-1))) λj=>bO (Aj a) λV=>bO (Ab 8 V) λW=>bS (AU 1 j W (B false)) λk=>K (.tup []) k)
theorem Lo {K:KT}:rC (λR a b c H=>Gf R a b c H K) (λa b c H=>Hd a b c H K):=T6 (A3 _ _) (λ_ _ _ _ _=>by kernel_rfl)
def IY:T10:=λa0 a1 H K=>Hd a0 a1 (I 0) H K
theorem OT {a0 a1 H K}(h:IY a0 a1 H K):BQ 124 [a0,a1] H K:=fok A8 aB He func124 h
def Jd:Nat->Option (List Bool):=BI [(3,mk 35 0 [0]),(4,mk 35 0 [0,22]),(1,mk 35 0 [0])]
def DX (p:List Bool)(n:Nat):List AV->AH->Kf->Prop:=AR prog A8 aB Aw Aw Jd (sub p (AK f175)) n
def DN:T12:=λa H K=>jn (mk 35 0 [0]) (DX (pbZ 15) 5) [a] H (AN prog f175.results.toList K)
def Jc:T10:=λa b H K=>jn (mk 35 0 [0,22]) (DX (pbZ 27) 5) [a,b] H (AO (De (mk 35 0 [0]) (DX (pbZ 15) 5)) (AN prog f175.results.toList K))
def DM:T12:=λa H K=>jn (mk 35 0 [0]) (DX (pbZ 7) 3) [a] H (AN prog f175.results.toList K)
def HL:T12:=λe H K=>bO (Aj e) λa=>bO (Ab 8 a) λb=>bO (Aq false 1 H b) λc=>bO (D5 .not c) λd=>K d H
theorem OV (a:AV)(H:AH)(K:KT):DN a H K=HL a H K:=(Bi _ _ _ _ _).trans (by kernel_rfl)
def EB:T10:=λa j H K=>bB j λc=>bI c (bO (Aj a) λd=>bO (Ab 7 d) λe=>bO (Aq false 1 H e) λf=>bO (Ar .sub f (I 1)) λg=>bO (Aj a) λh=>bO (Ab 7 h) λi=>bS (AU 1 H i g) λb=>DN a b K) (DN a H K)
theorem Hg (a b:AV)(H:AH)(K:KT):Jc a b H K=EB a b H K:=(Bi _ _ _ _ _).trans (by kernel_rfl)
def HK:T12:=λb H K=>bO (Aj b) λc=>bO (Ab 8 c) λd=>bO (Aq false 1 H d) λh=>bO (D5 .not h) λa=>bG a true λn=>gO n (some b) λi=>bG a true λo=>gO o (Aj i) λj=>bG a true λp=>gO p (Ab 7 j) λk=>bG a true λl=>gO l (Aq false 1 H k) λe=>bG a true λm=>gO m (Ar .gtr e (I 0)) λf=>bO (A0 a f (B false)) λg=>Jc b g H K
theorem OU (a:AV)(H:AH)(K:KT):DM a H K=HK a H K:=(Bi _ _ _ _ _).trans (by kernel_rfl)
def LS:T12:=λa0 H K=>bO (Aj a0) λc=>bO (Ab 7 c) λd=>bO (Aq false 1 H d) λe=>bO (Ar .eql e (I 0)) λf=>bB f λb=>bI b (bO (Aj a0) λg=>bO (Ab 8 g) λh=>bS (AU 1 H h (B true)) λa=>DM a0 a K) (DM a0 H K)
theorem Ss {a0 H K}(h:LS a0 H K):BQ 175 [a0] H K:=fok A8 aB Jd func175 h
def Iy:T10:=λa0 a1 H K=>bH (AE H a1) λb e=>bC (Ba0 175 [a0] e) λq a=>bO (D5 .not q) λz=>bB z λi=>bI i (K (I 8) a) (bO (Aj a0) λA=>bO (Ab 0 A) λC=>bO (Aq true 2 a C) λD=>bO (Aq true 8 a b) λE=>bP (Ba2 176 [D,E]) λj=>bO (Aj a0) λk=>bO (Ab 0 k) λl=>bS (AU 2 a l j) λd=>bO (Ab 7 b) λm=>bO (Aq false 1 d m) λn=>bH (Gt 1 1 d Ad n) λo f=>bO (Ab 7 b) λp=>bS (AU 1 f p o) λc=>bO (Aj a0) λr=>bO (Ab 4 r) λs=>bO (Aq false 1 c s) λt=>bO (Aq true 8 c b) λu=>bO (W6 8 1 (Bx [(I 0),(I 0),(I 0),(I 0),(B false),(.lit (.string ⟨#[]⟩)),(.lit (.string ⟨#[]⟩)),Ad] 1) [(0,8,u)]) λv=>bH (Gt 8 96 c t v) λw g=>bO (Aj a0) λx=>bO (Ab 4 x) λy=>bS (AU 1 g y w) λh=>K (I 0) h)
theorem KG {a0 a1 H K}(h:Iy a0 a1 H K):BQ 136 [a0,a1] H K:=fok A8 aB B7 func136 h
def LN:T11:=λa0 a1 a2 H K=>bO (Aj a0) λk=>bO (Ab 8 k) λl=>bO (Aq false 1 H l) λt=>bB t λh=>bI h (K (.tup [(I 0),(I 8)]) H) (bP (Ba1 134 [a1] H) λN=>bO (D5 .not N) λQ=>bB Q λj=>bI j (K (.tup [(I 0),(I 5)]) H) (bO (Aj a0) λR=>bO (Ab 0 R) λS=>bO (Aq true 2 H S) λT=>bP (Ba1 135 [T,a1] H) λc=>bO (Ak c 0) λm=>bO (Ak c 1) λn=>bB n λe=>bI e (K (.tup [m,(I 0)]) H) (bO (D5 .not a2) λo=>bB o λf=>bI f (K (.tup [(I 0),(I 3)]) H) (bO (Aj a0) λp=>bO (Ab 0 p) λq=>bO (Ab 0 q) λr=>bO (Aq false 1 H r) λs=>bO (AW s) λu=>bO (Ar .geq u (I 16)) λv=>bB v λg=>bI g (K (.tup [(I 0),(I 4)]) H) (bO (Aj a0) λw=>bO (Ab 6 w) λx=>bO (Aq false 1 H x) λy=>bO (Ar .add y (I 1)) λz=>bO (Dy [(I 0),(I 0),(I 0),(I 0),(B false),(.lit (.string ⟨#[]⟩)),(.lit (.string ⟨#[]⟩)),Ad] [(0,1,(I 1)),(5,1,a1),(1,1,z)]) λA=>bC (Ba0 136 [a0,A] H) λd a=>bO (Ar .neq d (I 0)) λC=>bB C λi=>bI i (K (.tup [(I 0),d]) a) (bO (Aj a0) λD=>bO (Ab 6 D) λE=>bO (Aq false 1 a E) λF=>bO (Ar .add F (I 1)) λG=>bO (Aj a0) λJ=>bO (Ab 6 J) λL=>bS (AU 1 a L G) λb=>bO (Aj a0) λM=>bO (Ab 6 M) λO=>bO (Aq false 1 b O) λP=>K (.tup [P,(I 0)]) b))))))
theorem So {a0 a1 a2 H K}(h:LN a0 a1 a2 H K):BQ 68 [a0,a1,a2] H K:=fok A8 aB B7 func68 h
def EC:T10:=λa0 a1 H K=>bH (AE H (.agg [(I 0),Ad])) λa b=>bO (Aj a0) λq=>bO (Ab 8 q) λv=>bO (Aq false 1 b v) λw=>bB w λk=>bI k (bO (Dy [(I 0),Ad] []) λx=>bS (AU 2 b a x) λf=>bO (Aq true 2 f a) λy=>K (.tup [y,(I 8)]) f) (bO (Aj a0) λz=>bO (Ab 0 z) λl=>bO (Aq true 2 b l) λm=>bP (Ba1 70 [m,a1] b) λg=>bO (Ak g 0) λn=>bO (Ak g 1) λo=>bH (AE b (.agg [(I 0),Ad])) λh i=>bS (AU 2 i h n) λc=>bO (D5 .not o) λp=>bB p λj=>bI j (bO (Dy [(I 0),Ad] []) λr=>bS (AU 2 c a r) λd=>bO (Aq true 2 d a) λs=>K (.tup [s,(I 3)]) d) (bO (Aq true 2 c h) λt=>bS (AU 2 c a t) λe=>bO (Aq true 2 e a) λu=>K (.tup [u,(I 0)]) e))
theorem Fl {a0 a1 H K}(h:EC a0 a1 H K):BQ 137 [a0,a1] H K:=fok A8 aB B7 func137 h
def LP:T10:=λa0 a1 H K=>bC (Ba0 137 [a0,a1] H) λb d=>bO (Ak b 0) λf=>bO (Ak b 1) λg=>bH (AE d (.agg [(I 0),Ad])) λc e=>bS (AU 2 e c f) λa=>bO (Ab 0 c) λh=>bO (Aq false 1 a h) λi=>K (.tup [i,g]) a
theorem Sq {a0 a1 H K}(h:LP a0 a1 H K):BQ 69 [a0,a1] H K:=fok A8 aB B7 func69 h
def EA:T13:=λa0 a1 a2 b H K=>bC (Ba0 137 [a0,a1] H) λe h=>bO (Ak e 0) λq=>bO (Ak e 1) λf=>bH (AE h (.agg [(I 0),Ad])) λg i=>bS (AU 2 i g q) λa=>bO (Ar .neq f (I 0)) λt=>bB t λk=>bI k (K (.tup [Ad,f]) a) (bO (Ar .lss a2 (I 0)) λd=>bG d false λu=>gO u (some b) λl=>bG d false λv=>gO v (Ar .lss l (I 0)) λm=>bO (A0 d (B true) m) λc=>bG c false λw=>gO w (some b) λn=>bG c false λx=>gO x (Ar .gtr n (I 4096)) λo=>bO (A0 c (B true) o) λp=>bB p λj=>bI j (K (.tup [Ad,(I 5)]) a) (bO (Aq true 2 a g) λr=>bP (Ba1 73 [r,a2,b] a) λs=>K (.tup [s,(I 0)]) a))
theorem Fj {a0 a1 a2 a H K}(h:EA a0 a1 a2 a H K):BQ 113 [a0,a1,a2,a] H K:=fok A8 aB B7 func113 h
def LJ:T11:=λa0 a1 a2 H K=>bC (Ba0 137 [a0,a1] H) λb f=>bO (Ak b 0) λm=>bO (Ak b 1) λd=>bH (AE f (.agg [(I 0),Ad])) λe g=>bS (AU 2 g e m) λa=>bO (Ar .neq d (I 0)) λn=>bB n λi=>bI i (K (.tup [(I 0),d]) a) (bO (Aq true 2 a e) λo=>bP (Ba1 180 [o,a2] a) λc=>bO (Ak c 0) λj=>bO (Ak c 1) λk=>bO (D5 .not k) λl=>bB l λh=>bI h (K (.tup [(I 0),(I 5)]) a) (K (.tup [j,(I 0)]) a))
theorem Sj {a0 a1 a2 H K}(h:LJ a0 a1 a2 H K):BQ 126 [a0,a1,a2] H K:=fok A8 aB B7 func126 h
def LM:T11:=λa0 a1 a2 H K=>bC (Ba0 137 [a0,a1] H) λb f=>bO (Ak b 0) λm=>bO (Ak b 1) λd=>bH (AE f (.agg [(I 0),Ad])) λe g=>bS (AU 2 g e m) λa=>bO (Ar .neq d (I 0)) λn=>bB n λi=>bI i (K (.tup [(I 0),d]) a) (bO (Aq true 2 a e) λo=>bP (Ba1 182 [o,a2] a) λc=>bO (Ak c 0) λj=>bO (Ak c 1) λk=>bO (D5 .not k) λl=>bB l λh=>bI h (K (.tup [(I 0),(I 5)]) a) (K (.tup [j,(I 0)]) a))
theorem Sn {a0 a1 a2 H K}(h:LM a0 a1 a2 H K):BQ 128 [a0,a1,a2] H K:=fok A8 aB B7 func128 h
def Ix:Nat->Option (List Bool):=BI [(13,mk 104 0 [0,1,3,14,15,16])]
def Jb (p:List Bool)(n:Nat):List AV->AH->Kf->Prop:=AR prog A8 aB Aw Aw Ix (sub p (AK f72)) n
def HJ:T20:=λa b f c d e H K=>lp (mk 104 0 [0,1,3,14,15,16]) (Jb (pbZ 1215) 14) [a,b,f,c,d,e] H (AP 0 (AO (Jb (pbZ 255) 25) (AN prog f72.results.toList K)))
def GA:T19:=λo g i m a b c H K=>bO (AW a) λs=>bO (Ar .lss c s) λt=>bB t λp=>bI p (bO (Aj g) λJ=>bO (Ab 0 J) λT=>bO (Aq true 2 H T) λZ=>bP (Ba1 70 [Z,i] H) λk=>bO (Ak k 0) λv7=>bO (Ak k 1) λv8=>bH (AE H (.agg [(I 0),Ad])) λl n=>bS (AU 2 n l v7) λd=>bO (Aq true 2 d l) λu=>bO (AY 2 a c) λv=>bO (Ab 0 v) λw=>bO (Aq false 1 d w) λx=>bO (Ar .quo x (I 8)) λy=>bP (Ba2 144 [u,y]) λz=>bO (Ar .lss z (I 0)) λf=>bG f true λaa=>gO aa (some g) λA=>bG f true λab=>gC ab (Ba0 77 [A] d) d λC e=>bG f true λad=>gO ad (Ar .eql C (I 0)) λD=>bO (A0 f D (B false)) λE=>bB E λq=>bI q (K (.tup [b,(I 4)]) e) (bO (AY 2 a c) λF=>bO (Ab 0 F) λG=>bO (Aq false 1 e G) λL=>bO (AY 2 a c) λM=>bO (Ab 1 M) λN=>bO (Aq false 1 e N) λO=>bO (Ar .add b O) λP=>bO (Bq 1 m (some b) (some P) none) λQ=>bO (Dy [(I 0),(I 0),(I 0),(I 0),(B false),(.lit (.string ⟨#[]⟩)),(.lit (.string ⟨#[]⟩)),Ad] [(0,1,(I 2)),(1,1,i),(2,1,L),(7,1,Q)]) λR=>bC (Ba0 136 [g,R] e) λj h=>bO (Ar .neq j (I 0)) λS=>bB S λr=>bI r (K (.tup [b,j]) h) (bO (AY 2 a c) λU=>bO (Ab 1 U) λV=>bO (Aq false 1 h V) λW=>bO (Ar .add b W) λX=>bO (Ar .add c (I 1)) λY=>o [g,i,m,a,X,Y] h))) (K (.tup [b,(I 0)]) H)
theorem LR {K:KT}:Aai (λR a b f c d e H=>GA R a b f c d e H K) (λa b f c d e H=>HJ a b f c d e H K):=sE (A3 _ _) (λ_ _ _ _ _ _ _ _=>by kernel_rfl)
def KF:T13:=λa0 a1 a2 c H K=>bC (Ba0 137 [a0,a1] H) λd h=>bO (Ak d 0) λs=>bO (Ak d 1) λf=>bH (AE h (.agg [(I 0),Ad])) λg j=>bS (AU 2 j g s) λa=>bO (Ar .neq f (I 0)) λu=>bB u λl=>bI l (K (.tup [(I 0),f]) a) (bO (Aq true 2 a g) λv=>bP (Ba1 142 [v,a2,c] a) λe=>bO (Ak e 0) λm=>bO (Ak e 1) λn=>bH (AE a (.agg [(I 0),Ad])) λo i=>bS (AU 2 i o m) λb=>bO (D5 .not n) λp=>bB p λk=>bI k (K (.tup [(I 0),(I 5)]) b) (bO (AW c) λq=>bO (Dy [(I 0),(I 0)] [(0,1,a2),(1,1,q)]) λr=>bP (Ba1 143 [r,(I 8)] b) λt=>HJ a0 a1 c t (I 0) (I 0) b K))
theorem Ro {a0 a1 a2 a H K}(h:KF a0 a1 a2 a H K):BQ 72 [a0,a1,a2,a] H K:=fok A8 aB Ix func72 h
def Iw:T11:=λa0 a1 a2 H K=>bC (Ba0 137 [a0,a1] H) λc g=>bO (Ak c 0) λs=>bO (Ak c 1) λe=>bH (AE g (.agg [(I 0),Ad])) λf j=>bS (AU 2 j f s) λa=>bO (Ar .neq e (I 0)) λt=>bB t λl=>bI l (K e a) (bO (Aq true 2 a f) λu=>bP (Ba1 141 [u,a2] a) λd=>bO (Ak d 0) λm=>bO (Ak d 1) λn=>bH (AE a (.agg [(I 0),Ad])) λo h=>bS (AU 2 h o m) λb=>bO (D5 .not n) λp=>bB p λk=>bI k (K (I 5) b) (bO (Dy [(I 0),(I 0),(I 0),(I 0),(B false),(.lit (.string ⟨#[]⟩)),(.lit (.string ⟨#[]⟩)),Ad] [(0,1,(I 3)),(1,1,a1),(3,1,a2)]) λq=>bC (Ba0 136 [a0,q] b) λr i=>K r i))
theorem Oo {a0 a1 a2 H K}(h:Iw a0 a1 a2 H K):BQ 71 [a0,a1,a2] H K:=fok A8 aB B7 func71 h
def Om:Dd:=NB [(7,[(1,some 8),(2,some 8),(4,some 8),(5,some 8)])]
def Iu:T14:=λa0 a1 a2 g h H K=>bC (Ba0 137 [a0,a1] H) λi q=>bO (Ak i 0) λA=>bO (Ak i 1) λp=>bH (AE q (.agg [(I 0),Ad])) λf t=>bS (AU 2 t f A) λc=>bO (Ar .neq p (I 0)) λJ=>bB J λw=>bI w (K p c) (bO (Aq true 2 c f) λL=>bP (Ba1 171 [L,a2,g,h] c) λj=>bO (Ak j 0) λx=>bO (Ak j 1) λy=>bH (AE c (.agg [(I 0),Ad])) λk r=>bS (AU 2 r k x) λa=>bO (D5 .not y) λz=>bB z λu=>bI u (K (I 5) a) (bO (Ab 1 k) λl=>bO (Aq false 1 a l) λd=>bO (AW d) λm=>bO (Ab 1 f) λn=>bO (Aq false 1 a n) λe=>bO (AW e) λo=>bO (Ar .sub m o) λC=>bC (Ba0 77 [a0] a) λD b=>bO (Ar .gtr C D) λE=>(Aq false 1 b l=some d)/\ (AW d=some m)/\ (Aq false 1 b n=some e)/\ (AW e=some o)/\ bB E λv=>bI v (K (I 4) b) (bO (Dy [(I 0),(I 0),(I 0),(I 0),(B false),(.lit (.string ⟨#[]⟩)),(.lit (.string ⟨#[]⟩)),Ad] [(0,1,(I 4)),(1,1,a1),(2,1,a2),(3,1,g),(4,1,h)]) λF=>bC (Ba0 136 [a0,F] b) λG s=>K G s)))
theorem On {a0 a1 a2 a b H K}(h:Iu a0 a1 a2 a b H K):BQ 115 [a0,a1,a2,a,b] H K:=fok Om aB B7 func115 h
def KE:T13:=λa0 a1 a2 c H K=>bC (Ba0 137 [a0,a1] H) λd h=>bO (Ak d 0) λt=>bO (Ak d 1) λf=>bH (AE h (.agg [(I 0),Ad])) λg k=>bS (AU 2 k g t) λa=>bO (Ar .neq f (I 0)) λu=>bB u λm=>bI m (K f a) (bO (Aq true 2 a g) λv=>bP (Ba1 173 [v,a2,c] a) λe=>bO (Ak e 0) λn=>bO (Ak e 1) λo=>bH (AE a (.agg [(I 0),Ad])) λp i=>bS (AU 2 i p n) λb=>bO (D5 .not o) λq=>bB q λl=>bI l (K (I 5) b) (bO (Dy [(I 0),(I 0),(I 0),(I 0),(B false),(.lit (.string ⟨#[]⟩)),(.lit (.string ⟨#[]⟩)),Ad] [(0,1,(I 5)),(1,1,a1),(2,1,a2),(3,1,c)]) λr=>bC (Ba0 136 [a0,r] b) λs j=>K s j))
theorem Rm {a0 a1 a2 a H K}(h:KE a0 a1 a2 a H K):BQ 117 [a0,a1,a2,a] H K:=fok A8 aB B7 func117 h
def J6:T11:=λa0 a1 a2 H K=>bO (Aj a0) λg=>bO (Ab 8 g) λh=>bO (Aq false 1 H h) λp=>bB p λf=>bI f (K (I 8) H) (bP (Ba1 134 [a1] H) λt=>bO (D5 .not t) λa=>bG a false λx=>gO x (some a2) λu=>bG a false λy=>gP y (Ba1 134 [u] H) λv=>bG a false λw=>gO w (D5 .not v) λi=>bO (A0 a (B true) i) λj=>bB j λc=>bI c (K (I 5) H) (bO (Aj a0) λk=>bO (Ab 0 k) λl=>bO (Aq true 2 H l) λm=>bP (Ba1 174 [m,a1] H) λn=>bO (Ar .lss n (I 0)) λo=>bB o λd=>bI d (K (I 3) H) (bO (OX .eql a1 a2) λq=>bB q λe=>bI e (K (I 0) H) (bO (Dy [(I 0),(I 0),(I 0),(I 0),(B false),(.lit (.string ⟨#[]⟩)),(.lit (.string ⟨#[]⟩)),Ad] [(0,1,(I 6)),(5,1,a1),(6,1,a2)]) λr=>bC (Ba0 136 [a0,r] H) λs b=>K s b))))
theorem PK {a0 a1 a2 H K}(h:J6 a0 a1 a2 H K):BQ 119 [a0,a1,a2] H K:=fok A8 aB B7 func119 h
def J5:T10:=λa0 a1 H K=>bO (Aj a0) λe=>bO (Ab 8 e) λf=>bO (Aq false 1 H f) λk=>bB k λc=>bI c (K (I 8) H) (bP (Ba1 134 [a1] H) λl=>bO (D5 .not l) λm=>bB m λd=>bI d (K (I 5) H) (bO (Aj a0) λn=>bO (Ab 0 n) λo=>bO (Aq true 2 H o) λp=>bP (Ba1 174 [p,a1] H) λg=>bO (Ar .lss g (I 0)) λh=>bB h λb=>bI b (K (I 3) H) (bO (Dy [(I 0),(I 0),(I 0),(I 0),(B false),(.lit (.string ⟨#[]⟩)),(.lit (.string ⟨#[]⟩)),Ad] [(0,1,(I 7)),(5,1,a1)]) λi=>bC (Ba0 136 [a0,i] H) λj a=>K j a)))
theorem PJ {a0 a1 H K}(h:J5 a0 a1 H K):BQ 121 [a0,a1] H K:=fok A8 aB B7 func121 h
def Ja:Nat->Option (List Bool):=BI [(10,mk 82 0 [0,1,5,6]),(15,mk 82 0 [0,1,5,6,7,8,9]),(7,mk 82 0 [0,1,5,6])]
def BK (p:List Bool)(n:Nat):List AV->AH->Kf->Prop:=AR prog A8 aB Aw Aw Ja (sub p (AK f122)) n
def ER:T15:=λa b c d e H K=>jn (mk 82 0 [0,1,5,6]) (BK (pbZ 919) 20) [b,c,d,e] H (M1 (mk 82 0 [0,1,5,6]) a (AP 0 (AO (BK (pbZ 31) 20) (AN prog f122.results.toList K))))
def ES:T24:=λa b c d e f g h H K=>lp (mk 82 0 [0,1,5,6,7,8,9]) (BK (pbZ 76951) 16) [b,c,d,e,f,g,h] H (AP 2 (AO (BK (pbZ 15511) 19) (AP 1 (AO (De (mk 82 0 [0,1,5,6]) (BK (pbZ 919) 20)) (M1 (mk 82 0 [0,1,5,6]) a (AP 0 (AO (BK (pbZ 31) 20) (AN prog f122.results.toList K))))))))
def IZ:T13:=λa b c d H K=>lp (mk 82 0 [0,1,5,6]) (BK (pbZ 151) 8) [a,b,c,d] H (AP 0 (AO (BK (pbZ 31) 20) (AN prog f122.results.toList K)))
def E0:T15:=λa c d e f H K=>bO (Ar .add f (I 1)) λb=>a [c,d,e,b] H
theorem G9 (a:RT)(b c d e:AV)(H:AH)(K:KT):ER a b c d e H K=E0 a b c d e H K:=(Bi _ _ _ _ _).trans (by kernel_rfl)
def Hf:T25:=λh l b c e f d a g H K=>bO (AW c) λo=>bO (Ar .lss g o) λp=>bB p λn=>bI n (bG a false λQ=>gO Q (Ab 1 d) λJ=>bG a false λR=>gO R (Aq false 1 H J) λL=>bG a false λS=>gO S (some c) λM=>bG a false λT=>gO T (some g) λq=>bG a false λN=>gO N (AY 1 M q) λr=>bG a false λO=>gO O (Aq false 1 H r) λs=>bG a false λP=>gO P (Ar .eql L s) λt=>bO (A0 a (B true) t) λu=>bO (Ar .add g (I 1)) λv=>l [b,c,e,f,d,u,v] H) (bB a λm=>bI m (bO (Aj b) λw=>bO (Ab 2 w) λx=>bO (Aq true 2 H x) λy=>bO (Aq true 8 H d) λz=>bP (Ba2 176 [y,z]) λA=>bO (Aj b) λC=>bO (Ab 2 C) λD=>bS (AU 2 H D A) λi=>ER h b c e f i K) (bO (Aq true 8 H d) λE=>bH (Co H 8 1 (Bx [(I 0),(I 0),(I 0),(I 0),(B false),(.lit (.string ⟨#[]⟩)),(.lit (.string ⟨#[]⟩)),Ad] 1) [(0,8,E)]) λF j=>bH (Gt 8 96 j e F) λG k=>ER h b c G f k K))
theorem Mw (h:RT){K:KT}:Aaq (λR a b c d e f g H=>Hf h R a b c d e f g H K) (λa b c d e f g H=>ES h a b c d e f g H K):=Acq (A3 _ _) (λ_ _ _ _ _ _ _ _ _=>by kernel_rfl)
def HG:T15:=λj e Q g f H K=>bO (Aj e) λl=>bO (Ab 4 l) λm=>bO (Aq false 1 H m) λr=>bO (AW r) λx=>bO (Ar .lss f x) λC=>bB C λk=>bI k (bO (Aj e) λD=>bO (Ab 4 D) λE=>bO (Aq false 1 H E) λF=>bO (AY 8 F f) λG=>bO (Aq true 8 H G) λn=>bH (AE H (.agg [(I 0),(I 0),(I 0),(I 0),(B false),(.lit (.string ⟨#[]⟩)),(.lit (.string ⟨#[]⟩)),Ad])) λa h=>bS (AU 8 h a n) λb=>bO (Ab 0 a) λo=>bO (Aq false 1 b o) λp=>bO (Ar .eql p (I 1)) λc=>bG c false λJ=>gO J (Ab 0 a) λq=>bG c false λL=>gO L (Aq false 1 b q) λs=>bG c false λM=>gO M (Ar .eql s (I 6)) λt=>bO (A0 c (B true) t) λd=>bG d false λN=>gO N (Ab 0 a) λu=>bG d false λO=>gO O (Aq false 1 b u) λv=>bG d false λP=>gO P (Ar .eql v (I 7)) λw=>bO (A0 d (B true) w) λy=>ES j e Q g f a y (I 0) b K) (bO (Aj e) λz=>bO (Ab 4 z) λA=>bS (AU 1 H A g) λi=>K (I 0) i)
theorem Ns {K:KT}:rD (λR a b c d H=>HG R a b c d H K) (λa b c d H=>IZ a b c d H K):=T7 (A3 _ _) (λ_ _ _ _ _ _=>by kernel_rfl)
def LQ:T10:=λa0 a1 H K=>bO (Aj a0) λd=>bO (Ab 8 d) λe=>bO (Aq false 1 H e) λa=>bG a false λj=>gO j (some a0) λg=>bG a false λk=>gC k (Ba0 175 [g] H) H λh b=>bG a false λl=>gO l (D5 .not h) λi=>bO (A0 a (B true) i) λf=>bB f λc=>bI c (K (I 8) b) (IZ a0 a1 Ad (I 0) b K)
theorem Sr {a0 a1 H K}(h:LQ a0 a1 H K):BQ 122 [a0,a1] H K:=fok A8 aB Ja func122 h
def HF:Nat->Option (List Bool):=BI [(3,mk 42 0 [0,1,2,3,10])]
def Iv (p:List Bool)(n:Nat):List AV->AH->Kf->Prop:=AR prog A8 aB Aw Aw HF (sub p (AK f129)) n
def HE:T14:=λa b d e c H K=>lp (mk 42 0 [0,1,2,3,10]) (Iv (pbZ 35) 4) [a,b,d,e,c] H (AP 0 (AO (Iv (pbZ 15) 10) (AN prog f129.results.toList K)))
def Ee:T17:=λj g h i b a H K=>bO (AW b) λm=>bO (Ar .lss a m) λn=>bB n λl=>bI l (bO (Ar .add i a) λq=>bO (Ar .add a (I 4096)) λr=>bO (AW b) λs=>bO (amm gZ [r,s]) λt=>bO (Bq 1 b (some a) (some t) none) λu=>bC (Ba0 72 [g,h,q,u] H) λf c=>bO (Ak f 0) λo=>bO (Ak f 1) λd=>bO (Ar .add a o) λe=>bO (Ar .neq d (I 0)) λp=>bB p λk=>bI k (K (.tup [e,d]) c) (j [g,h,i,b,e] c)) (K (.tup [a,(I 0)]) H)
theorem LO {K:KT}:xP (λR a b d e c H=>Ee R a b d e c H K) (λa b d e c H=>HE a b d e c H K):=bM (A3 _ _) (λ_ _ _ _ _ _ _=>by kernel_rfl)
def J4:T13:=λa0 a1 a2 a H K=>HE a0 a1 a2 a (I 0) H K
theorem PI {a0 a1 a2 a H K}(h:J4 a0 a1 a2 a H K):BQ 129 [a0,a1,a2,a] H K:=fok A8 aB HF func129 h
def Hb:Nat->Option (List Bool):=BI [(7,mk 54 0 [0,2,7,8,9,10]),(6,mk 54 0 [0,2,7,8,9,10]),(4,mk 54 0 [0,2,7,8,9]),(2,mk 54 0 [0,2,7,8])]
def BX (p:List Bool)(n:Nat):List AV->AH->Kf->Prop:=AR prog A8 aB Aw Aw Hb (sub p (AK f63)) n
def Ha:T20:=λa c d e f b H K=>lp (mk 54 0 [0,2,7,8,9,10]) (BX (pbZ 303) 8) [a,c,d,e,f,b] H (AP 0 (AO (BX (pbZ 63) 13) (AN prog f63.results.toList K)))
def GZ:T20:=λa c d e f b H K=>jn (mk 54 0 [0,2,7,8,9,10]) (BX (pbZ 111) 7) [a,c,d,e,f,b] H (AO (BX (pbZ 63) 13) (AN prog f63.results.toList K))
def GY:T14:=λa b c d e H K=>jn (mk 54 0 [0,2,7,8,9]) (BX (pbZ 31) 5) [a,b,c,d,e] H (AN prog f63.results.toList K)
def Dv:T13:=λa b c d H K=>jn (mk 54 0 [0,2,7,8]) (BX (pbZ 15) 4) [a,b,c,d] H (AN prog f63.results.toList K)
def Ge:T19:=λl b d e f h c H K=>bO (AW d) λo=>bO (Ar .lss c o) λa=>bG a true λC=>gO C (some f) λw=>bG a true λD=>gO D (Ar .eql w (I 0)) λx=>bO (A0 a x (B false)) λy=>bB y λn=>bI n (bO (AY 1 d c) λz=>bO (Aq false 1 H z) λA=>bC (Ba0 129 [b,e,h,A] H) λg i=>bO (Ak g 0) λp=>bO (Ak g 1) λq=>bO (Ar .add h p) λr=>bO (Ar .add c (I 1)) λs=>l [b,d,e,q,r,s] i) (bO (Ar .neq f (I 0)) λt=>bB t λm=>bI m (K f H) (bH (Co H 1 1 (Bx [(I 0)] 1) [(0,1,e)]) λu j=>bC (Ba0 122 [b,u] j) λv k=>K v k))
theorem Ln {K:KT}:Aai (λR a c d e f b H=>Ge R a c d e f b H K) (λa c d e f b H=>Ha a c d e f b H K):=sE (A3 _ _) (λ_ _ _ _ _ _ _ _=>by kernel_rfl)
def Gd:T20:=λa c d e f b H K=>Ha a c d e f b H K
theorem Mv (a c d e f b:AV)(H:AH)(K:KT):GZ a c d e f b H K=Gd a c d e f b H K:=(Bi _ _ _ _ _).trans (by kernel_rfl)
def Gc:T14:=λa b c d e H K=>GZ a b c d e (I 0) H K
theorem Mu (a b c d e:AV)(H:AH)(K:KT):GY a b c d e H K=Gc a b c d e H K:=(Bi _ _ _ _ _).trans (by kernel_rfl)
def Gb:T13:=λa b c d H K=>GY a b c d (I 0) H K
theorem Mt (a b c d:AV)(H:AH)(K:KT):Dv a b c d H K=Gb a b c d H K:=(Bi _ _ _ _ _).trans (by kernel_rfl)
def IX:T11:=λa0 a1 a2 H K=>bC (Ba0 68 [a0,a1,(B true)] H) λc b=>bO (Ak c 0) λa=>bO (Ak c 1) λd=>bO (Ar .eql d (I 0)) λg=>bB g λf=>bI f (bC (Ba0 71 [a0,a,(I 0)] b) λh e=>Dv a0 a2 a h e K) (Dv a0 a2 a d b K)
theorem OS {a0 a1 a2 H K}(h:IX a0 a1 a2 H K):BQ 63 [a0,a1,a2] H K:=fok A8 aB Hb func63 h
def QT:Nat->Option (List Bool):=BI [(6,mk 53 0 [0,5])]
def Tb (p:List Bool)(n:Nat):List AV->AH->Kf->Prop:=AR prog A8 aB Aw Aw QT (sub p (AK f27)) n
def QS:T10:=λa b H K=>lp (mk 53 0 [0,5]) (Tb (pbZ 75) 7) [a,b] H (AP 0 (AO (Tb (pbZ 15) 13) (AN prog f27.results.toList K)))
def NY:T22:=λk h i H K=>bO (AW h) λn=>bO (Ar .lss i n) λo=>bB o λl=>bI l (bO (AY 10 h i) λx=>bO (Aq true 10 H x) λE=>bH (AE H (.agg [u0Z,u0Z,u0Z,(I 0),(I 0),(I 0),Ad,(B false),Ad,Ad])) λb j=>bS (AU 10 j b E) λa=>bO (Ab 6 b) λR=>bO (Aq false 1 a R) λS=>bO (AW S) λp=>bO (Ar .gtr p (I 60)) λd=>bG d true λT=>gO T (Ab 6 b) λq=>bG d true λU=>gO U (Aq false 1 a q) λr=>bG d true λV=>gO V (AW r) λs=>bG d true λW=>gO W (Ar .neq s (I 4097)) λt=>bO (A0 d t (B false)) λc=>bG c false λX=>gO X (Ab 5 b) λu=>bG c false λY=>gO Y (Aq false 1 a u) λv=>bG c false λZ=>gO Z (Ar .gtr v (I 200)) λw=>bG c false λaa=>gO aa (some w) λg=>bG g true λab=>gO ab (Ab 5 b) λy=>bG g true λad=>gO ad (Aq false 1 a y) λz=>bG g true λae=>gO ae (Ar .leq z (I 32768)) λA=>bG c false λaf=>gO af (A0 g A (B false)) λC=>bO (A0 c (B true) C) λe=>bG e false λag=>gO ag (Ab 8 b) λD=>bG e false λah=>gO ah (Aq false 1 a D) λF=>bG e false λai=>gO ai (AW F) λG=>bG e false λaj=>gO aj (Ar .gtr G (I 200)) λJ=>bO (A0 e (B true) J) λf=>bG f false λak=>gO ak (Ab 9 b) λL=>bG f false λal=>gO al (Aq false 1 a L) λM=>bG f false λam=>gO am (AW M) λN=>bG f false λan=>gO an (Ar .gtr N (I 30)) λO=>bO (A0 f (B true) O) λP=>bB P λm=>bI m (K (B false) a) (bO (Ar .add i (I 1)) λQ=>k [h,Q] a)) (K (B true) H)
theorem UG {K:KT}:Aaa (λR a b H=>NY R a b H K) (λa b H=>QS a b H K):=jN (A3 _ _) (λ_ _ _ _=>by kernel_rfl)
def Wu:T10:=λa0 a1 H K=>bO (AW a0) λb=>bO (Ar .gtr b a1) λc=>bB c λa=>bI a (K (B false) H) (QS a0 (I 0) H K)
theorem bY {a0 a1 H K}(h:Wu a0 a1 H K):BQ 27 [a0,a1] H K:=fok A8 aB QT func27 h
def SZ:Dd:=NB [(25,[(8,none),(10,none)]),(27,[(12,none),(14,none),(16,none),(18,none)]),(29,[(10,none),(12,none),(14,none)]),(35,[(6,none)]),(39,[(7,none)])]
def Ta:Nat->Option (List Bool):=BI [(43,mk 346 0 [21,22,23,24,25,26,27,28,29,30,31,32]),(42,mk 346 0 [1,5,21,22,23,24,25,26,27,28,29,30]),(41,mk 346 0 [0,1,5,21,22,23,24,25,26,27,28]),(40,mk 346 0 [0,1,5,21,22,23,24,25,26]),(39,mk 346 0 [0,1,5,21,22,23,24]),(38,mk 346 0 [0,1,5,21,22]),(37,mk 346 0 [1,5]),(36,mk 346 0 [0,1,5,336]),(2,mk 346 0 []),(35,mk 346 0 [1,5]),(34,mk 346 0 [0,1,5,41,326]),(32,mk 346 0 [0,1,5,41,313]),(30,mk 346 0 [0,1,5,41,306]),(28,mk 346 0 [0,1,5,41,295]),(26,mk 346 0 [0,1,5,7,41,286]),(24,mk 346 0 [0,1,5,7,8,41,275]),(22,mk 346 0 [0,1,5,7,8,41,256]),(20,mk 346 0 [0,1,5,7,8,41,233]),(18,mk 346 0 [0,1,5,7,8,41,218]),(16,mk 346 0 [17,18,19,20]),(15,mk 346 0 [1,5,17,18]),(14,mk 346 0 [0,1,5,7,8,41,184]),(12,mk 346 0 [13,14,15,16]),(11,mk 346 0 [1,5,13,14]),(9,mk 346 0 [0,1,5,7,8,41,151]),(10,mk 346 0 [0,1,5,7,8,41,151]),(7,mk 346 0 [9,10,11,12]),(6,mk 346 0 [1,5,7,9,10]),(4,mk 346 0 [0,1,5,7,8,41,120])]
def As (p:List Bool)(n:Nat):List AV->AH->Kf->Prop:=AR prog SZ aB Aw Aw Ta (sub p (AK f62)) n
def SY:T13:=λd a b c H K=>jn (mk 346 0 [9,10,11,12]) (As (pbZ 939) 8) [d,a,b,c] H (AP 0 (AO (De (mk 346 0 []) (As (pbZ 15) 45)) (AN prog f62.results.toList K)))
def SX:T14:=λa c d e b H K=>jn (mk 346 0 [1,5,7,9,10]) (As (pbZ 427) 7) [a,c,d,e,b] H (AP 0 (AO (De (mk 346 0 []) (As (pbZ 15) 45)) (AN prog f62.results.toList K)))
def Q6:T13:=λa b c d H K=>jn (mk 346 0 [13,14,15,16]) (As (pbZ 3819) 13) [a,b,c,d] H (AP 0 (AO (De (mk 346 0 []) (As (pbZ 15) 45)) (AN prog f62.results.toList K)))
def Q5:T13:=λa d b c H K=>jn (mk 346 0 [1,5,13,14]) (As (pbZ 1771) 12) [a,d,b,c] H (AP 0 (AO (De (mk 346 0 []) (As (pbZ 15) 45)) (AN prog f62.results.toList K)))
def Q9:T13:=λa b c d H K=>jn (mk 346 0 [17,18,19,20]) (As (pbZ 15339) 17) [a,b,c,d] H (AP 0 (AO (De (mk 346 0 []) (As (pbZ 15) 45)) (AN prog f62.results.toList K)))
def Q8:T13:=λa d b c H K=>jn (mk 346 0 [1,5,17,18]) (As (pbZ 7147) 16) [a,d,b,c] H (AP 0 (AO (De (mk 346 0 []) (As (pbZ 15) 45)) (AN prog f62.results.toList K)))
def L7:T26:=λH K=>jn (mk 346 0 []) (As (pbZ 15) 45) [] H (AN prog f62.results.toList K)
def QJ:T10:=λa b H K=>jn (mk 346 0 [1,5]) (As (pbZ 1879048171) 36) [a,b] H (AP 0 (AO (De (mk 346 0 []) (As (pbZ 15) 45)) (AN prog f62.results.toList K)))
def QL:T10:=λa b H K=>jn (mk 346 0 [1,5]) (As (pbZ 7516192747) 38) [a,b] H (AP 0 (AO (De (mk 346 0 []) (As (pbZ 15) 45)) (AN prog f62.results.toList K)))
def QR:T27:=λa b c d e f g h i j k l H K=>jn (mk 346 0 [21,22,23,24,25,26,27,28,29,30,31,32]) (As (pbZ 274877906923) 44) [a,b,c,d,e,f,g,h,i,j,k,l] H (AP 0 (AO (De (mk 346 0 []) (As (pbZ 15) 45)) (AN prog f62.results.toList K)))
def QQ:T27:=λa l b c d e f g h i j k H K=>jn (mk 346 0 [1,5,21,22,23,24,25,26,27,28,29,30]) (As (pbZ 137438953451) 43) [a,l,b,c,d,e,f,g,h,i,j,k] H (AP 0 (AO (De (mk 346 0 []) (As (pbZ 15) 45)) (AN prog f62.results.toList K)))
def QP:T32:=λa b k c d e f g h i j H K=>jn (mk 346 0 [0,1,5,21,22,23,24,25,26,27,28]) (As (pbZ 68719476715) 42) [a,b,k,c,d,e,f,g,h,i,j] H (AP 0 (AO (De (mk 346 0 []) (As (pbZ 15) 45)) (AN prog f62.results.toList K)))
def QO:T33:=λa b i c d e f g h H K=>jn (mk 346 0 [0,1,5,21,22,23,24,25,26]) (As (pbZ 34359738347) 41) [a,b,i,c,d,e,f,g,h] H (AP 0 (AO (De (mk 346 0 []) (As (pbZ 15) 45)) (AN prog f62.results.toList K)))
def QN:T16:=λa b g c d e f H K=>jn (mk 346 0 [0,1,5,21,22,23,24]) (As (pbZ 17179869163) 40) [a,b,g,c,d,e,f] H (AP 0 (AO (De (mk 346 0 []) (As (pbZ 15) 45)) (AN prog f62.results.toList K)))
def QM:T14:=λa b e c d H K=>jn (mk 346 0 [0,1,5,21,22]) (As (pbZ 8589934571) 39) [a,b,e,c,d] H (AP 0 (AO (De (mk 346 0 []) (As (pbZ 15) 45)) (AN prog f62.results.toList K)))
def QK:T13:=λa b d c H K=>jn (mk 346 0 [0,1,5,336]) (As (pbZ 2147483627) 37) [a,b,d,c] H (AP 0 (AO (De (mk 346 0 []) (As (pbZ 15) 45)) (AN prog f62.results.toList K)))
def QI:T14:=λa b e d c H K=>jn (mk 346 0 [0,1,5,41,326]) (As (pbZ 536870891) 35) [a,b,e,d,c] H (AP 0 (AO (De (mk 346 0 []) (As (pbZ 15) 45)) (AN prog f62.results.toList K)))
def QH:T14:=λa b e d c H K=>jn (mk 346 0 [0,1,5,41,313]) (As (pbZ 134217707) 33) [a,b,e,d,c] H (AP 0 (AO (De (mk 346 0 []) (As (pbZ 15) 45)) (AN prog f62.results.toList K)))
def QG:T14:=λa b e d c H K=>jn (mk 346 0 [0,1,5,41,306]) (As (pbZ 33554411) 31) [a,b,e,d,c] H (AP 0 (AO (De (mk 346 0 []) (As (pbZ 15) 45)) (AN prog f62.results.toList K)))
def QF:T14:=λa b e d c H K=>jn (mk 346 0 [0,1,5,41,295]) (As (pbZ 8388587) 29) [a,b,e,d,c] H (AP 0 (AO (De (mk 346 0 []) (As (pbZ 15) 45)) (AN prog f62.results.toList K)))
def QE:T20:=λa b e f d c H K=>jn (mk 346 0 [0,1,5,7,41,286]) (As (pbZ 2097131) 27) [a,b,e,f,d,c] H (AP 0 (AO (De (mk 346 0 []) (As (pbZ 15) 45)) (AN prog f62.results.toList K)))
def QD:T16:=λa b e f g d c H K=>jn (mk 346 0 [0,1,5,7,8,41,275]) (As (pbZ 524267) 25) [a,b,e,f,g,d,c] H (AP 0 (AO (De (mk 346 0 []) (As (pbZ 15) 45)) (AN prog f62.results.toList K)))
def QC:T16:=λa b e f g d c H K=>jn (mk 346 0 [0,1,5,7,8,41,256]) (As (pbZ 131051) 23) [a,b,e,f,g,d,c] H (AP 0 (AO (De (mk 346 0 []) (As (pbZ 15) 45)) (AN prog f62.results.toList K)))
def QB:T16:=λa b e f g d c H K=>jn (mk 346 0 [0,1,5,7,8,41,233]) (As (pbZ 32747) 21) [a,b,e,f,g,d,c] H (AP 0 (AO (De (mk 346 0 []) (As (pbZ 15) 45)) (AN prog f62.results.toList K)))
def QA:T16:=λa b e f g d c H K=>jn (mk 346 0 [0,1,5,7,8,41,218]) (As (pbZ 8171) 19) [a,b,e,f,g,d,c] H (AP 0 (AO (De (mk 346 0 []) (As (pbZ 15) 45)) (AN prog f62.results.toList K)))
def Q7:T16:=λa b e f g d c H K=>jn (mk 346 0 [0,1,5,7,8,41,184]) (As (pbZ 2027) 15) [a,b,e,f,g,d,c] H (AP 0 (AO (De (mk 346 0 []) (As (pbZ 15) 45)) (AN prog f62.results.toList K)))
def L9:T16:=λa b e f g d c H K=>jn (mk 346 0 [0,1,5,7,8,41,151]) (As (pbZ 491) 11) [a,b,e,f,g,d,c] H (AP 0 (AO (De (mk 346 0 []) (As (pbZ 15) 45)) (AN prog f62.results.toList K)))
def Q4:T16:=λa b e f g d c H K=>jn (mk 346 0 [0,1,5,7,8,41,151]) (As (pbZ 875) 11) [a,b,e,f,g,d,c] H (AO (De (mk 346 0 [0,1,5,7,8,41,151]) (As (pbZ 491) 11)) (AP 0 (AO (De (mk 346 0 []) (As (pbZ 15) 45)) (AN prog f62.results.toList K))))
def L8:T16:=λa b e f g d c H K=>jn (mk 346 0 [0,1,5,7,8,41,120]) (As (pbZ 107) 6) [a,b,e,f,g,d,c] H (AP 0 (AO (De (mk 346 0 []) (As (pbZ 15) 45)) (AN prog f62.results.toList K)))
def Jj:T13:=λl i j k H K=>bO (Ar .eql l j) λa=>bG a true λf=>gO f (some i) λb=>bG a true λg=>gO g (some k) λc=>bG a true λh=>gO h (Ar .eql b c) λd=>bO (A0 a d (B false)) λe=>K e H
theorem NX (d a b c:AV)(H:AH)(K:KT):SY d a b c H K=Jj d a b c H K:=(Bi _ _ _ _ _).trans (by kernel_rfl)
def Ji:T14:=λi k l m j H K=>bO (Ab 0 k) λc=>bO (Aq false 1 H c) λd=>bO (Ar .rem d (.lit (.int .u8 16))) λe=>bO (Ar .eql e u0Z) λf=>bC (Ba0 68 [i,l,f] H) λa b=>bO (Ak a 0) λg=>bO (Ak a 1) λh=>SY m j g h b K
theorem NW (a c d e b:AV)(H:AH)(K:KT):SX a c d e b H K=Ji a c d e b H K:=(Bi _ _ _ _ _).trans (by kernel_rfl)
def Ii:T13:=λi j k l H K=>bO (Ar .eql i k) λa=>bG a true λf=>gO f (some j) λb=>bG a true λg=>gO g (some l) λc=>bG a true λh=>gO h (Ar .eql b c) λd=>bO (A0 a d (B false)) λe=>K e H
theorem M6 (a b c d:AV)(H:AH)(K:KT):Q6 a b c d H K=Ii a b c d H K:=(Bi _ _ _ _ _).trans (by kernel_rfl)
def Ih:T13:=λl a m n H K=>bO (Ab 3 a) λd=>bO (Aq false 1 H d) λe=>bO (Ab 4 a) λf=>bO (Aq false 1 H f) λg=>bO (Ab 6 a) λh=>bO (Aq false 1 H h) λi=>bC (Ba0 72 [l,e,g,i] H) λb c=>bO (Ak b 0) λj=>bO (Ak b 1) λk=>Q6 m n j k c K
theorem M5 (a d b c:AV)(H:AH)(K:KT):Q5 a d b c H K=Ih a d b c H K:=(Bi _ _ _ _ _).trans (by kernel_rfl)
def NL:T13:=λk l m n H K=>bO (Aap H k) λb=>bO (Aap H m) λc=>bO (OX .eql b c) λa=>bG a true λh=>gO h (some l) λd=>bG a true λi=>gO i (some n) λe=>bG a true λj=>gO j (Ar .eql d e) λf=>bO (A0 a f (B false)) λg=>K g H
theorem WH (a b c d:AV)(H:AH)(K:KT):Q9 a b c d H K=NL a b c d H K:=(Bi _ _ _ _ _).trans (by kernel_rfl)
def NK:T13:=λl a m n H K=>bO (Ab 3 a) λd=>bO (Aq false 1 H d) λe=>bO (Ab 4 a) λf=>bO (Aq false 1 H f) λg=>bO (Ab 5 a) λh=>bO (Aq false 1 H h) λi=>bC (Ba0 113 [l,e,g,i] H) λb c=>bO (Ak b 0) λj=>bO (Ak b 1) λk=>Q9 m n j k c K
theorem WG (a d b c:AV)(H:AH)(K:KT):Q8 a d b c H K=NK a d b c H K:=(Bi _ _ _ _ _).trans (by kernel_rfl)
def Jh:T26:=λH K=>K (B true) H
theorem NM (H:AH)(K:KT):L7 H K=Jh H K:=(Bi _ _ _ _ _).trans (by kernel_rfl)
def NO:T10:=λd e H K=>bO (Ab 5 e) λb=>bO (Aq false 1 H b) λc=>bC (Ba0 32 [d,c] H) λf a=>L7 a K
theorem WI (a b:AV)(H:AH)(K:KT):QJ a b H K=NO a b H K:=(Bi _ _ _ _ _).trans (by kernel_rfl)
def NP:T10:=λd e H K=>bO (Ab 8 e) λb=>bO (Aq false 1 H b) λc=>bC (Ba0 124 [d,c] H) λf a=>L7 a K
theorem WJ (a b:AV)(H:AH)(K:KT):QL a b H K=NP a b H K:=(Bi _ _ _ _ _).trans (by kernel_rfl)
def NV:T27:=λN O P Q R S T U V W X Y H K=>bO (Ar .eql N P) λa=>bG a true λv=>gO v (some O) λj=>bG a true λG=>gO G (some Q) λs=>bG a true λL=>gO L (Ar .eql j s) λt=>bO (A0 a t (B false)) λe=>bG e true λM=>gO M (some R) λu=>bG e true λw=>gO w (some T) λf=>bG e true λx=>gO x (Ar .eql u f) λg=>bO (A0 e g (B false)) λb=>bG b true λy=>gO y (some S) λh=>bG b true λz=>gO z (some U) λi=>bG b true λA=>gO A (Ar .eql h i) λk=>bO (A0 b k (B false)) λc=>bG c true λC=>gO C (some V) λl=>bG c true λD=>gO D (some X) λm=>bG c true λE=>gO E (Ar .eql l m) λn=>bO (A0 c n (B false)) λd=>bG d true λF=>gO F (some W) λo=>bG d true λI=>gO I (some Y) λp=>bG d true λJ=>gO J (Ar .eql o p) λq=>bO (A0 d q (B false)) λr=>K r H
theorem WP (a b c d e f g h i j k l:AV)(H:AH)(K:KT):QR a b c d e f g h i j k l H K=NV a b c d e f g h i j k l H K:=(Bi _ _ _ _ _).trans (by kernel_rfl)
def NU:T27:=λj b k l m n o p q r s t H K=>bO (Ab 3 b) λd=>bO (Aq false 1 H d) λe=>bO (Ab 4 b) λf=>bO (Aq false 1 H f) λg=>bC (Ba0 128 [j,e,g] H) λa c=>bO (Ak a 0) λh=>bO (Ak a 1) λi=>QR k l m n o p q r s t h i c K
theorem WO (a l b c d e f g h i j k:AV)(H:AH)(K:KT):QQ a l b c d e f g h i j k H K=NU a l b c d e f g h i j k H K:=(Bi _ _ _ _ _).trans (by kernel_rfl)
def NT:T32:=λj k a l m n o p q r s H K=>bO (Ab 3 a) λd=>bO (Aq false 1 H d) λe=>bO (Ab 4 a) λf=>bO (Aq false 1 H f) λg=>bC (Ba0 127 [j,e,g] H) λb c=>bO (Ak b 0) λh=>bO (Ak b 1) λi=>QQ k a l m n o p q r s h i c K
theorem WN (a b k c d e f g h i j:AV)(H:AH)(K:KT):QP a b k c d e f g h i j H K=NT a b k c d e f g h i j H K:=(Bi _ _ _ _ _).trans (by kernel_rfl)
def NS:T33:=λk c a l m n o p q H K=>bO (Ab 3 a) λe=>bO (Aq false 1 H e) λf=>bO (Ab 4 a) λg=>bO (Aq false 1 H g) λh=>bC (Ba0 126 [c,f,h] H) λb d=>bO (Ak b 0) λi=>bO (Ak b 1) λj=>QP k c a l m n o p q i j d K
theorem WM (a b i c d e f g h:AV)(H:AH)(K:KT):QO a b i c d e f g h H K=NS a b i c d e f g h H K:=(Bi _ _ _ _ _).trans (by kernel_rfl)
def NR:T16:=λc k a l m n o H K=>bO (Ab 3 a) λe=>bO (Aq false 1 H e) λf=>bO (Ab 4 a) λg=>bO (Aq false 1 H g) λh=>bC (Ba0 125 [c,f,h] H) λb d=>bO (Ak b 0) λi=>bO (Ak b 1) λj=>QO c k a l m n o i j d K
theorem WL (a b g c d e f:AV)(H:AH)(K:KT):QN a b g c d e f H K=NR a b g c d e f H K:=(Bi _ _ _ _ _).trans (by kernel_rfl)
def NQ:T14:=λi b c j k H K=>bO (Ab 3 c) λe=>bO (Aq false 1 H e) λf=>bC (Ba0 69 [b,f] H) λa d=>bO (Ak a 0) λg=>bO (Ak a 1) λh=>QN i b c j k g h d K
theorem WK (a b e c d:AV)(H:AH)(K:KT):QM a b e c d H K=NQ a b e c d H K:=(Bi _ _ _ _ _).trans (by kernel_rfl)
def Ij:T13:=λb d a n H K=>bB n λg=>bI g (bO (Ab 8 a) λh=>bO (Aq false 1 H h) λj=>bC (Ba0 123 [b,j] H) λo e=>QL d a e K) (bO (Ab 3 a) λk=>bO (Aq false 1 H k) λl=>bC (Ba0 60 [b,l] H) λc f=>bO (Ak c 0) λm=>bO (Ak c 1) λi=>QM b d a m i f K)
theorem M7 (a b d c:AV)(H:AH)(K:KT):QK a b d c H K=Ij a b d c H K:=(Bi _ _ _ _ _).trans (by kernel_rfl)
def Fx:T14:=λb c a j i H K=>bB i λe=>bI e (bO (Ab 5 a) λf=>bO (Aq false 1 H f) λg=>bC (Ba0 31 [b,g] H) λk d=>QJ c a d K) (bO (Ar .eql j (.lit (.int .u8 14))) λh=>QK b c a h H K)
theorem Hn (a b e d c:AV)(H:AH)(K:KT):QI a b e d c H K=Fx a b e d c H K:=(Bi _ _ _ _ _).trans (by kernel_rfl)
def Ec:T14:=λe f a g r H K=>bB r λi=>bI i (bO (Ab 3 a) λj=>bO (Aq false 1 H j) λm=>bO (W6 1 1 (Bx [(I 0)] 1) [(0,1,m)]) λn=>bC (Ba0 37 [e,n] H) λo b=>bO (Ab 3 a) λc=>bO (Aq false 1 b c) λd=>bO (W6 1 1 (Bx [(I 0)] 1) [(0,1,d)]) λp=>bC (Ba0 122 [f,p] b) λq h=>bO (Ar .eql o q) λk=>(Aq false 1 H c=some d)/\ K k h) (bO (Ar .eql g (.lit (.int .u8 13))) λl=>QI e f a g l H K)
theorem EW (a b e d c:AV)(H:AH)(K:KT):QH a b e d c H K=Ec a b e d c H K:=(Bi _ _ _ _ _).trans (by kernel_rfl)
def D1:T14:=λa b l c k H K=>bB k λf=>bI f (bC (Ba0 37 [a,Ad] H) λg d=>bC (Ba0 122 [b,Ad] d) λh e=>bO (Ar .eql g h) λi=>K i e) (bO (Ar .eql c (.lit (.int .u8 12))) λj=>QH a b l c j H K)
theorem DP (a b e d c:AV)(H:AH)(K:KT):QG a b e d c H K=D1 a b e d c H K:=(Bi _ _ _ _ _).trans (by kernel_rfl)
def CL:T14:=λe f a g p H K=>bB p λi=>bI i (bO (Ab 9 a) λj=>bO (Aq false 1 H j) λl=>bC (Ba0 37 [e,l] H) λm b=>bO (Ab 9 a) λc=>bO (Aq false 1 b c) λd=>bC (Ba0 122 [f,d] b) λn h=>bO (Ar .eql m n) λo=>(Aq false 1 H c=some d)/\ K o h) (bO (Ar .eql g (.lit (.int .u8 11))) λk=>QG e f a g k H K)
theorem Dj (a b e d c:AV)(H:AH)(K:KT):QF a b e d c H K=CL a b e d c H K:=(Bi _ _ _ _ _).trans (by kernel_rfl)
def Cr:T20:=λa b m d c l H K=>bB l λg=>bI g (bC (Ba0 120 [a,d] H) λh e=>bC (Ba0 121 [b,d] e) λi f=>bO (Ar .eql h i) λj=>K j f) (bO (Ar .eql c (.lit (.int .u8 10))) λk=>QF a b m c k H K)
theorem C5 (a b e f d c:AV)(H:AH)(K:KT):QE a b e f d c H K=Cr a b e f d c H K:=(Bi _ _ _ _ _).trans (by kernel_rfl)
def BV:T16:=λb c n a e d m H K=>bB m λh=>bI h (bC (Ba0 118 [b,a,e] H) λi f=>bC (Ba0 119 [c,a,e] f) λj g=>bO (Ar .eql i j) λk=>K k g) (bO (Ar .eql d (.lit (.int .u8 9))) λl=>QE b c n a d l H K)
theorem Cb (a b e f g d c:AV)(H:AH)(K:KT):QD a b e f g d c H K=BV a b e f g d c H K:=(Bi _ _ _ _ _).trans (by kernel_rfl)
def BJ:T16:=λi j a y z k x H K=>bB x λm=>bI m (bO (Ab 3 a) λn=>bO (Aq false 1 H n) λr=>bO (Ab 4 a) λs=>bO (Aq false 1 H s) λt=>bO (Ab 5 a) λu=>bO (Aq false 1 H u) λv=>bC (Ba0 116 [i,r,t,v] H) λw b=>bO (Ab 3 a) λh=>bO (Aq false 1 b h) λc=>bO (Ab 4 a) λd=>bO (Aq false 1 b d) λe=>bO (Ab 5 a) λf=>bO (Aq false 1 b f) λg=>bC (Ba0 117 [j,c,e,g] b) λo l=>bO (Ar .eql w o) λp=>(Aq false 1 H h=some c)/\ (Aq false 1 H d=some e)/\ (Aq false 1 H f=some g)/\ K p l) (bO (Ar .eql k (.lit (.int .u8 8))) λq=>QD i j a y z k q H K)
theorem BR (a b e f g d c:AV)(H:AH)(K:KT):QC a b e f g d c H K=BJ a b e f g d c H K:=(Bi _ _ _ _ _).trans (by kernel_rfl)
def BA:T16:=λk l a C D m B H K=>bB B λo=>bI o (bO (Ab 3 a) λp=>bO (Aq false 1 H p) λr=>bO (Ab 4 a) λu=>bO (Aq false 1 H u) λv=>bO (Ab 5 a) λw=>bO (Aq false 1 H w) λx=>bO (Ab 7 a) λy=>bO (Aq false 1 H y) λz=>bC (Ba0 114 [k,r,v,x,z] H) λA b=>bO (Ab 3 a) λc=>bO (Aq false 1 b c) λd=>bO (Ab 4 a) λe=>bO (Aq false 1 b e) λf=>bO (Ab 5 a) λg=>bO (Aq false 1 b g) λh=>bO (Ab 7 a) λi=>bO (Aq false 1 b i) λj=>bC (Ba0 115 [l,d,f,h,j] b) λq n=>bO (Ar .eql A q) λs=>(Aq false 1 H c=some d)/\ (Aq false 1 H e=some f)/\ (Aq false 1 H g=some h)/\ (Aq false 1 H i=some j)/\ K s n) (bO (Ar .eql m (.lit (.int .u8 7))) λt=>QC k l a C D m t H K)
theorem BF (a b e f g d c:AV)(H:AH)(K:KT):QB a b e f g d c H K=BA a b e f g d c H K:=(Bi _ _ _ _ _).trans (by kernel_rfl)
def B2:T16:=λg h a u v i t H K=>bB t λk=>bI k (bO (Ab 3 a) λl=>bO (Aq false 1 H l) λp=>bO (Ab 5 a) λq=>bO (Aq false 1 H q) λr=>bC (Ba0 19 [g,p,r] H) λs b=>bO (Ab 3 a) λd=>bO (Aq false 1 b d) λe=>bO (Ab 5 a) λf=>bO (Aq false 1 b f) λc=>bC (Ba0 71 [h,e,c] b) λm j=>bO (Ar .eql s m) λn=>(Aq false 1 H d=some e)/\ (Aq false 1 H f=some c)/\ K n j) (bO (Ar .eql i (.lit (.int .u8 6))) λo=>QB g h a u v i o H K)
theorem B5 (a b e f g d c:AV)(H:AH)(K:KT):QA a b e f g d c H K=B2 a b e f g d c H K:=(Bi _ _ _ _ _).trans (by kernel_rfl)
def Bw:T16:=λc d a r s e q H K=>bB q λg=>bI g (bO (Ab 3 a) λh=>bO (Aq false 1 H h) λk=>bO (Ab 4 a) λl=>bO (Aq false 1 H l) λm=>bO (Ab 5 a) λn=>bO (Aq false 1 H n) λo=>bC (Ba0 61 [c,k,m,o] H) λb f=>bO (Ak b 0) λp=>bO (Ak b 1) λi=>Q8 d a p i f K) (bO (Ar .eql e (.lit (.int .u8 5))) λj=>QA c d a r s e j H K)
theorem By (a b e f g d c:AV)(H:AH)(K:KT):Q7 a b e f g d c H K=Bw a b e f g d c H K:=(Bi _ _ _ _ _).trans (by kernel_rfl)
def Br:T16:=λc d a r s e q H K=>bB q λg=>bI g (bO (Ab 3 a) λh=>bO (Aq false 1 H h) λk=>bO (Ab 4 a) λl=>bO (Aq false 1 H l) λm=>bO (Ab 6 a) λn=>bO (Aq false 1 H n) λo=>bC (Ba0 44 [c,k,m,o] H) λb f=>bO (Ak b 0) λp=>bO (Ak b 1) λi=>Q5 d a p i f K) (bO (Ar .eql e (.lit (.int .u8 4))) λj=>Q7 c d a r s e j H K)
theorem Bs (a b e f g d c:AV)(H:AH)(K:KT):L9 a b e f g d c H K=Br a b e f g d c H K:=(Bi _ _ _ _ _).trans (by kernel_rfl)
def Bj:T16:=λb c e f g a d H K=>bB d λh=>bI h (L9 b c e f g a d H K) (bO (Ar .eql a (.lit (.int .u8 3))) λi=>L9 b c e f g a i H K)
theorem Bl (a b e f g d c:AV)(H:AH)(K:KT):Q4 a b e f g d c H K=Bj a b e f g d c H K:=(Bi _ _ _ _ _).trans (by kernel_rfl)
def Bg:T16:=λd e a b q f p H K=>bB p λh=>bI h (bO (Ab 0 a) λi=>bO (Aq false 1 H i) λj=>bO (Ar .rem j (.lit (.int .u8 16))) λk=>bO (Ar .eql k u0Z) λl=>bC (Ba0 18 [d,b,l] H) λc g=>bO (Ak c 0) λm=>bO (Ak c 1) λn=>SX e a b m n g K) (bO (Ar .eql f (.lit (.int .u8 2))) λo=>Q4 d e a b q f o H K)
theorem Bh (a b e f g d c:AV)(H:AH)(K:KT):L8 a b e f g d c H K=Bg a b e f g d c H K:=(Bi _ _ _ _ _).trans (by kernel_rfl)
def Yt:T11:=λa0 a1 a2 H K=>bH (AE H a2) λb a=>bO (Ab 1 b) λi=>bO (Aq false 1 a i) λj=>bP (Ba2 112 [j]) λe=>bO (Ab 2 b) λk=>bO (Aq false 1 a k) λl=>bP (Ba2 112 [l]) λf=>bO (Ab 0 b) λm=>bO (Aq false 1 a m) λn=>bO (Ar .rem n (.lit (.int .u8 16))) λc=>bO (Ar .eql c u0Z) λd=>bB d λg=>bI g (L8 a0 a1 b e f c d a K) (bO (Ar .eql c (.lit (.int .u8 1))) λh=>L8 a0 a1 b e f c h a K)
theorem gG {a0 a1 a2 H K}(h:Yt a0 a1 a2 H K):BQ 62 [a0,a1,a2] H K:=fok SZ aB Ta func62 h
def Yr:Dd:=NB [(1,[(5,none),(13,some 1),(22,some 9),(23,some 9),(39,some 30)])]
def SU:T10:=λa0 a1 H K=>bC (Ba0 14 [a0] H) λt e=>bO (Aj a1) λx=>bO (Ab 0 x) λn=>bO (Aq true 2 e n) λq=>bP (Ba2 75 [t,q]) λb=>bG b true λw6=>gO w6 (some a0) λS=>bG b true λw8=>gC w8 (Ba0 76 [S] e) e λT f=>bG b true λU=>gO U (some a1) λu=>bG b true λV=>gO V (Aj u) λv=>bG b true λW=>gO W (Ab 2 v) λl=>bG b true λX=>gO X (Aq true 2 f l) λm=>bG b true λY=>gP Y (Ba2 75 [T,m]) λy=>bO (A0 b y (B false)) λa=>bG a true λZ=>gO Z (some a0) λz=>bG a true λaa=>gC aa (Ba0 25 [z] f) f λA g=>bG a true λab=>gO ab (some a1) λC=>bG a true λad=>gO ad (Aj C) λD=>bG a true λae=>gO ae (Ab 4 D) λo=>bG a true λaf=>gO af (Aq false 1 g o) λi=>bG a true λag=>gO ag (AW i) λp=>bG a true λah=>gO ah (Ar .eql A p) λE=>bO (A0 a E (B false)) λd=>bG d true λai=>gO ai (some a0) λF=>bG d true λaj=>gC aj (Ba0 21 [F] g) g λG j=>bG d true λak=>gO ak (some a1) λI=>bG d true λal=>gC al (Ba0 77 [I] j) j λJ h=>bG d true λam=>gO am (Ar .eql G J) λL=>bO (A0 d L (B false)) λc=>bG c true λan=>gO an (some a0) λM=>bG c true λao=>gC ao (Ba0 78 [M] h) h λN k=>bG c true λap=>gO ap (some a1) λO=>bG c true λaq=>gO aq (Aj O) λP=>bG c true λar=>gO ar (Ab 8 P) λr=>bG c true λau=>gO au (Aq false 1 k r) λs=>bG c true λav=>gO av (Abo .eql N s) λQ=>bO (A0 c Q (B false)) λR=>(Aq true 2 H n=some q)/\ (bG b true λw=>bI w (Aq true 2 e l=some m) True)/\ (bG a true λw=>bI w (Aq false 1 f o=some i) True)/\ (bG a true λw=>bI w (AW i=some p) True)/\ (bG c true λw=>bI w (Aq false 1 h r=some s) True)/\ K R k
theorem Ys {a0 a1 H K}(h:SU a0 a1 H K):BQ 35 [a0,a1] H K:=fok Yr aB B7 func35 h
end Go.Proofs.YtbppnhenlboefaaGreat.Av
end
section
namespace Go.Proofs.YtbppnhenlboefaaGreat.Av
open Go Go.RowKit Go.Proofs.Tryz
structure DsC (s:StS)(os:Nat)(a b c d p:AV)(pv:List OpV)(H:AH):Prop where
 obj:H[os]?=some (some (.cells [a,b,c,d,p,I s.cap,I s.made,I s.armed,B s.off]))
 now:ImV s.now.1 s.now.2 (.agg [a,b])
 kept:ImV s.kept.1 s.kept.2 (.agg [c,d])
 pm:pv.map OpV.o=s.pend
 ps:Ac H 8 p=some (pv.flatMap Jp,pv.length)
 po:Bm p=true
 pi:os∉Ba p
def DsAt (s:StS)(e:Nat)(p:AV)(H:AH):Prop:=∃a b c d f,DsC s e a b c d p f H
theorem DsC.lt {s:StS}{e:Nat}{a b c d p:AV}{f:List OpV}{H:AH}(h:DsC s e a b c d p f H):e<H.length:=(BG.1 h.obj).1
theorem DsC.grew {s:StS}{e:Nat}{a b c d p:AV}{f:List OpV}{H H':AH}(h:DsC s e a b c d p f H)(g:Grew H H'):DsC s e a b c d p f H':=
 ⟨g.cells h.obj,h.now,h.kept,h.pm,g.slice h.ps,h.po,h.pi⟩
theorem DsAt.grew {s:StS}{e:Nat}{p:AV}{H H':AH}(h:DsAt s e p H)(g:Grew H H'):DsAt s e p H':=by
 obtain⟨a,b,c,d,f,h⟩:=h;exact⟨a,b,c,d,f,h.grew g⟩
theorem DsAt.os_lt {s:StS}{e:Nat}{p:AV}{H:AH}(h:DsAt s e p H):e<H.length:=by
 obtain⟨a,b,c,d,f,h⟩:=h;exact h.lt
theorem DsAt.p_lt {s:StS}{e:Nat}{p:AV}{H:AH}(h:DsAt s e p H):∀j∈Ba p,j<H.length:=by
 obtain⟨a,b,c,d,f,h⟩:=h;exact λj q=>A5 h.ps j q
theorem DsAt.keep {s:StS}{e:Nat}{p:AV}{H H':AH}(h:DsAt s e p H)(f:H'[e]?=H[e]?)(g:∀i∈Ba p,H'[i]?=H[i]?):DsAt s e p H':=by
 obtain⟨a,b,c,d,j,h⟩:=h;exact⟨a,b,c,d,j,f.trans h.obj,h.now,h.kept,h.pm,Ai h.ps g,h.po,h.pi⟩
theorem DsC.set {s s':StS}{f:Nat}{a b c d a' g k l p:AV}{m:List OpV}{H:AH}(h:DsC s f a b c d p m H)(o:ImV s'.now.1 s'.now.2 (.agg [a',g]))(n:ImV s'.kept.1 s'.kept.2 (.agg [k,l]))(t:s'.pend=s.pend):
  DsC s' f a' g k l p m (H.set f (some (.cells [a',g,k,l,p,I s'.cap,I s'.made,I s'.armed,B s'.off])))/\StF f p p H (H.set f (some (.cells [a',g,k,l,p,I s'.cap,I s'.made,I s'.armed,B s'.off]))):=by
 refine⟨⟨HU h.lt,o,n,by rw[t];exact h.pm,Ai h.ps λi q=>Cc (λe=>h.pi (by rw[e];exact q)),h.po,h.pi⟩,by simp,λj _ r _=>Cc (Al6 r),λ_ q=>.inl q⟩
theorem Aac (a b c d e f g h i:AV):A1 true 2 [a,b,c,d,e,f,g,h,i] 0=some (.agg [a,b])/\A1 true 2 [a,b,c,d,e,f,g,h,i] 2=some (.agg [c,d]):=⟨rfl,rfl⟩
theorem Adi {H:AH}{c:Nat}{l m o p d e f g i a b:AV}(h:H[c]?=some (some (.cells [l,m,o,p,d,e,f,g,i])))(j:oneA a=true)(k:oneA b=true):
  AU 2 H (.ptr c 0) (.agg [a,b])=some (H.set c (some (.cells [a,b,o,p,d,e,f,g,i])))/\AU 2 H (.ptr c 2) (.agg [a,b])=some (H.set c (some (.cells [l,m,a,b,d,e,f,g,i]))):=by
 constructor
 ·rw[AG (n:=2) (off:=0) (xs:=[a,b]) (by simp[j,k]) h rfl (by simp)];rfl
 ·rw[AG (n:=2) (off:=2) (xs:=[a,b]) (by simp[j,k]) h rfl (by simp)];rfl
theorem Awr (room:Int)(H:AH)(hr:room<=9223372036854775807):∃r H',(r=.ptr H.length 0/\H'.length=H.length+1/\DsAt (Zh room) H.length Ad H'/\Grew H H')/\Ba0 29 [I room] H r H':=UL (by
 unfold Oj;have b:amm jF [I room,(I 0)]=some (I (max room 0)):=by rw[JT,jG,Av6]
 have c:amm gZ [I (max room 0),(I 4096)]=some (I (min (max room 0) 4096)):=by rw[JT,pS,Int.min_comm]
 have d:Dy [Ad,Ad,Ad,Ad,Ad,(I 0),(I 0),(I 0),(B false)] [(5,1,I (min (max room 0) 4096)),(7,1,(I (-1)))]=some (.agg [Ad,Ad,Ad,Ad,Ad,I (min (max room 0) 4096),I 0,I (-1),B false]):=rfl;have e:AE H (.agg [Ad,Ad,Ad,Ad,Ad,I (min (max room 0) 4096),I 0,I (-1),B false])=some (.ptr H.length 0,H++[some (.cells [Ad,Ad,Ad,Ad,Ad,I (min (max room 0) 4096),I 0,I (-1),B false])]):=by simp
 rw[b,Aa,c,Aa,d,Aa,e,A6];have a:ImV [] [] (.agg [Ad,Ad]):=⟨Ad,Ad,[],rfl,SV.nil,SV.nil,rfl⟩;exact⟨rfl,by simp,⟨Ad,Ad,Ad,Ad,[],⟨BE,a,a,rfl,rfl,rfl,by simp[Ba]⟩⟩,Grew.app _ _⟩)
theorem Akf {s:StS}{e:Nat}{p:AV}{H:AH}(h:DsAt s e p H)(n:Int):∃r H',(r=.tup []/\DsAt (yN s n) e p H'/\StF e p p H H')/\Ba0 32 [.ptr e 0,I n] H r H':=TF (by
 obtain⟨a,b,c,d,k,h⟩:=h;unfold MC;have f:amm jF [I n,(I (-1))]=some (I (max n (-1))):=by rw[JT,jG,Av6]
 obtain⟨i,j⟩:=h.set (s':=yN s n) h.now h.kept rfl;have g:AU 1 H (.ptr e 7) (I (max n (-1)))=some (H.set e (some (.cells [a,b,c,d,p,I s.cap,I s.made,I (max n (-1)),B s.off]))):=rE h.obj (by simp) rfl;simp only[f,Ag0,g,A9];exact⟨by trivial,⟨a,b,c,d,k,i⟩,j⟩)
theorem Akg {s:StS}{g:Nat}{p:AV}{H:AH}(h:DsAt s g p H)(F: -1<=s.armed/\s.armed<=9223372036854775807):∃r H',(r=B (AL s).1/\DsAt (AL s).2 g p H'/\StF g p p H H')/\Ba0 175 [.ptr g 0] H r H':=Ss (by
 obtain⟨a,b,c,d,u,h⟩:=h;unfold LS;simp only[Ag8,Ah h.obj,Bu];have t:∀(s':StS) (y:Bool) (H':AH),DsC s' g a b c d p u H'->StF g p p H H'->AL s=(!s'.off,s')->DN (.ptr g 0) H' (λr H'=>r=B (AL s).1/\DsAt (AL s).2 g p H'/\StF g p p H H'):=by intro s' y H' i f e;rw[OV];unfold HL;simp only[Ac9,Ah i.obj,AJ,e];exact⟨by trivial,⟨a,b,c,d,u,i⟩,f⟩
 have w:∀(s':StS) (H':AH),DsC s' g a b c d p u H'->StF g p p H H'->(s'.off=true->AL s=(false,s'))->(s'.off=false->s'=s/\s.armed≠0)->s'.armed=s.armed->DM (.ptr g 0) H' (λr H'=>r=B (AL s).1/\DsAt (AL s).2 g p H'/\StF g p p H H'):=by
  intro s' H' i f z m D;rw[OU];unfold HK;simp only[Ac9,Ah i.obj,AJ,A7];cases k:s'.off with
  | true=>
   simp only[Ad7,show((false==true)=false)from rfl,AT,Aa,Ao];rw[Hg];unfold EB;simp only[Af,Ag];exact t s' true H' i f (by rw[k];exact z k)
  | false=>
   obtain⟨rfl,j⟩:=m k;have v:¬(s'.off=true\/s'.armed=0):=by rintro(q | q);rw[k]at q;cases q;exact j q
   simp only[Ac7,Do,Ac9,Ah i.obj,C8,Ao];rw[Hg];unfold EB;by_cases o:0<s'.armed
   ·have e:AL s'=(true,{s' with armed:=s'.armed - 1}):=by unfold AL;rw[if_neg v,if_pos o]
    obtain⟨l,n⟩:=i.set (s':={s' with armed:=s'.armed - 1}) i.now i.kept rfl;have A:Ar .sub (I s'.armed) (I 1)=some (I (s'.armed - 1)):=B4 (by omega) (by omega);have C:AU 1 H' (.ptr g 7) (I (s'.armed - 1))=some (H'.set g (some (.cells [a,b,c,d,p,I s'.cap,I s'.made,I (s'.armed - 1),B s'.off]))):=rE i.obj (by simp) rfl;simp only[o,Ab7,Ag8,Ah i.obj,A,C,A9];exact t _ true _ l (f.trans n) (by simp only[k,As2]at e|-;exact e)
   ·have e:AL s'=(true,s'):=by unfold AL;rw[if_neg v,if_neg o]
    simp only[o,Aa8,Af];exact t s' true H' i f (by rw[k];exact e)
 by_cases j:s.armed=0
 ·obtain⟨l,n⟩:=h.set (s':={s with off:=true}) h.now h.kept rfl;have m:AU 1 H (.ptr g 8) (B true)=some (H.set g (some (.cells [a,b,c,d,p,I s.cap,I s.made,I s.armed,B true]))):=rE h.obj (by simp) rfl;simp only[j,Ab7];rw[j]at m;simp only[m,A9];have E:=l;simp only[j]at l n;exact w _ _ l n (λ_=>by unfold AL;rw[if_pos (.inr j)];simp[j]) (λq=>by cases q) j.symm
 ·simp only[j,Aa8];exact w s H h (.refl _ _ _) (λq=>by unfold AL;rw[if_pos (.inl q)];congr 1;cases s;simp only at q;subst q;rfl) (λ_=>⟨rfl,j⟩) rfl)
theorem nK {N:Nat}{s:StS}{f:Nat}{p bv:AV}{H:AH}{o:OpM}(h:DsAt s f p H)(hw:SW N s)(hN:N<=900000)(hb:SV Ft 1 o.b bv)(ho:xO o):
  ∃r H',(r=I (Km s o).1/\∃p',DsAt (Km s o).2 f p' H'/\StF f p p' H H')/\Ba0 136 [.ptr f 0,.agg (BO o bv)] H r H':=by
 have h0:=h;obtain⟨a0,b0,c0,d0,bg,ag⟩:=h;have a7:=SV.oneA hb;have e1:AE H (.agg (BO o bv))=some (.ptr H.length 0,H++[some (.cells (BO o bv))]):=by simp[BO,a7]
 have g:=Grew.app H [some (.cells (BO o bv))];obtain⟨r,O,⟨rfl,A,f3⟩,hc⟩:=Akg (h0.grew g) hw.armed;have sm:=hw.now.sm (by omega);obtain⟨q1,q2,q3,q4,q5⟩:=HZ s;cases hd:(AL s).1 with
 | false=>
  have e:Km s o=(8,(AL s).2):=by unfold Km;rw[if_neg (by rw[hd];simp)]
  rw[e];refine KG ?_;unfold Iy;rw[e1,A6];refine bC_of hc ?_;simp only[hd,Ag1,Aa4];exact⟨by trivial,p,A,(StF.of_grew g).trans f3⟩
 | true=>
  have e:Km s o=(0,{(AL s).2 with now:=B6 s.now.1 s.now.2 o,pend:=s.pend++[o]}):=by unfold Km;rw[if_pos hd]
  rw[e];have bc:f<H.length:=ag.lt;have aa:∀j∈Ba p,j<H.length:=λj q=>A5 ag.ps j q;obtain⟨a,b,c,d,t,A⟩:=A;have ba:H.length+1<=O.length:=by have:=f3.len;simpa using this
  have c3:O[H.length]?=some (some (.cells (BO o bv))):=by rw[f3.same H.length (by simp) (by omega) (λq=>by have:=aa _ q;omega)];exact BE
  obtain⟨R,T,hp⟩:=Ym (o:=o) (bv:=bv) A.now (by rw[q1];exact sm) hb (by have:=ho.1;omega) (by have:=ho.2.1;omega) (by have:=ho.2.2;omega);rw[q1]at T;obtain⟨u,v,rfl,oa,ob⟩:=T.agg2;have al:∀w:AV,A1 true 8 (BO o w) 0=some (.agg (BO o w)):=λ_=>rfl;obtain⟨E,f4⟩:=A.set (s':={(AL s).2 with now:=B6 s.now.1 s.now.2 o}) T A.kept rfl;have c4:(O.set f (some (AObj.cells [u,v,c,d,p,I (AL s).2.cap,I (AL s).2.made,I (AL s).2.armed,B (AL s).2.off])))[H.length]?=some (some (.cells (BO o bv))):=by rw[Cc (by omega)];exact c3
  simp only at E f4;have bb:(O.set f (some (AObj.cells [u,v,c,d,p,I (AL s).2.cap,I (AL s).2.made,I (AL s).2.armed,B (AL s).2.off]))).length=O.length:=by simp
  have q0:=(Adi A.obj oa ob).1;generalize a8:O.set f (some (AObj.cells [u,v,c,d,p,I (AL s).2.cap,I (AL s).2.made,I (AL s).2.armed,B (AL s).2.off]))=H4 at*;have bd:t.length=s.pend.length:=by rw[<- q3,<- A.pm,Ak8]
  have be:=hw.plen;have a9:=ho.1
  have ak:∀(w:AV) (m:AH),oneA w=true->Gt 1 1 H4 Ad bv=some (w,m)->Grew H4 m->
    ∃r k,Gt 8 96 (m.set H.length (some (.cells (BO o w)))) p (.imm (BO o w) 1 8)=some (r,k)/\Bm r=true/\Ac k 8 r=some (t.flatMap Jp++BO o w,t.length+1)/\m.length<=k.length/\
     (∀i,i<m.length->i≠H.length->i∉Ba p->k[i]?=m[i]?)/\(∀i∈Ba r,i∈Ba p\/m.length<=i)/\
     Ba0 136 [.ptr f 0,.agg (BO o bv)] H (I 0) (k.set f (some (.cells [u,v,c,d,r,I (AL s).2.cap,I (AL s).2.made,I (AL s).2.armed,B (AL s).2.off]))):=by
   intro w m ow U D;have ay:H.length<m.length:=by have:=D.1;omega
   have s5:AU 1 m (.ptr H.length 7) w=some (m.set H.length (some (.cells (BO o w)))):=by rw[AG (n:=1) (xs:=[w]) (cs:=BO o bv) (Bn ow) (D.cells c4) rfl (by simp[BO])];simp[BO,Bb]
   have c6:(m.set H.length (some (AObj.cells (BO o w))))[H.length]?=some (some (.cells (BO o w))):=HU ay;have o6:(m.set H.length (some (AObj.cells (BO o w))))[f]?=some (some (.cells [u,v,c,d,p,I (AL s).2.cap,I (AL s).2.made,I (AL s).2.armed,B (AL s).2.off])):=by rw[Cc (by omega)];exact D.cells E.obj
   have p6:Ac (m.set H.length (some (AObj.cells (BO o w)))) 8 p=some (t.flatMap Jp,t.length):=Ai (D.slice E.ps) λi q=>Cc (by have:=aa i q;omega);have e6:W6 8 1 (Bx [(I 0),(I 0),(I 0),(I 0),(B false),(.lit (.string ⟨#[]⟩)),(.lit (.string ⟨#[]⟩)),Ad] 1) [(0,8,.agg (BO o w))]=some (.imm (BO o w) 1 8):=by simp[W6,Bx,BO,Qc,ow,Bb]
   have x1:B1 (m.set H.length (some (AObj.cells (BO o w)))) 8 (.imm (BO o w) 1 8)=some (BO o w,1):=AA (by simp[Ac,BO]);obtain⟨r,k,Q,a2,S,J,F,C⟩:=Cn (bytes:=96) p6 E.po x1 (by omega);rw[Ak4]at J C;have ae:∀i,i<m.length->i≠H.length->i∉Ba p->k[i]?=m[i]?:=λi hi hn hp=>by rw[F i (by rw[Ak4];exact hi) hp,Cc (Al6 hn)]
   have c7:k[f]?=some (some (.cells [u,v,c,d,p,I (AL s).2.cap,I (AL s).2.made,I (AL s).2.armed,B (AL s).2.off])):=by rw[ae f (by omega) (by omega) E.pi];exact D.cells E.obj
   have e7:AU 1 k (.ptr f 4) r=some (k.set f (some (.cells [u,v,c,d,r,I (AL s).2.cap,I (AL s).2.made,I (AL s).2.armed,B (AL s).2.off]))):=rE c7 (by simp) (AI a2);refine⟨r,k,Q,a2,S,J,ae,C,?_⟩;obtain⟨r',H',⟨rfl,rfl⟩,V⟩:=KG (a0:=.ptr f 0) (a1:=.agg (BO o bv)) (H:=H) (K:=λr' H'=>r'=I 0/\H'=k.set f (some (.cells [u,v,c,d,r,I (AL s).2.cap,I (AL s).2.made,I (AL s).2.armed,B (AL s).2.off]))) (by unfold Iy;rw[e1,A6];refine bC_of hc ?_;simp only[hd,AJ,Ag0,Af,Aa3,Ah A.obj,(Aac _ _ _ _ _ _ _ _ _).1,Ah c3,al];refine bP_of hp ?_;have i7:(BO o bv)[7]?=some bv:=rfl;simp only[Ah3,q0,Ad2,Ah c4,i7,U,s5,Ah o6,Aa7,Ah c6,al,e6,Q,e7];exact⟨by trivial,by trivial⟩);exact V
  have am:=hb.bytes H4;have xa:B1 H4 1 bv=some (Bp o.b,o.b.length):=AA am;have fr:∀(m k X:AH) (r:AV),Grew H4 m->m.length<=k.length->(∀i,i<m.length->i≠H.length->i∉Ba p->k[i]?=m[i]?)->(∀i∈Ba r,i∈Ba p\/m.length<=i)->X.length=k.length->(∀j,j<H.length->j≠f->j∉Ba p->X[j]?=k[j]?)->StF f p r H X:=by intro m k X r D J F C bf ax;have:=D.1;refine⟨by omega,λj P M L=>?_,λj P=>(C j P).imp id (λz=>by omega)⟩;rw[ax j P M L,F j (by omega) (by omega) L,D.2 j (by omega),f4.same j (by omega) M L,f3.same j (by simp;omega) M L,g.2 j P]
  rcases An9 o.b.length with hz | hz
  ·have au:o.b=[]:=List.length_eq_zero_iff.1 hz;have U:Gt 1 1 H4 Ad bv=some (Ad,H4):=by unfold Gt;rw[xa];simp only[Sy,hz,if_true]
   obtain⟨r,k,Q,a2,S,J,F,C,V⟩:=ak Ad H4 rfl U (Grew.refl _);have ad:SV Ft 1 o.b Ad:=by rw[au];exact SV.nil
   have W:f∉Ba r:=λq=>(C f q).elim E.pi (λq=>by omega);have ab:f<k.length:=by omega
   refine⟨_,_,⟨rfl,r,⟨u,v,c,d,t++[⟨o,Ad,ad⟩],HU ab,T,A.kept,?_,?_,a2,W⟩,?_⟩,V⟩
   ·rw[An0,A.pm,q3];rfl
   ·have:=Ai S (H':=k.set f (some (.cells [u,v,c,d,r,I (AL s).2.cap,I (AL s).2.made,I (AL s).2.armed,B (AL s).2.off]))) λi q=>Cc (λe=>W (by rw[e];exact q));rw[this];simp[Jp]
   ·exact fr H4 k _ r (Grew.refl _) J F C (by rw[Ak4]) λj P M L=>Cc (Al6 M)
  ·have U:Gt 1 1 H4 Ad bv=some (.sl H4.length 0 o.b.length 1 (.ge o.b.length),H4++[some (.cells (Bp o.b))]):=by
    unfold Gt;rw[xa];have:¬o.b.length=0:=by omega
    simp only[Sy,this,if_false];rw[if_pos (by omega)]
   have D:=Grew.app H4 [some (AObj.cells (Bp o.b))];have l5:(H4++[some (AObj.cells (Bp o.b))]).length=H4.length+1:=by simp
   have b5:(H4++[some (AObj.cells (Bp o.b))])[H4.length]?=some (some (AObj.cells (Bp o.b))):=BE;generalize (H4++[some (AObj.cells (Bp o.b))])=m at*;obtain⟨r,k,Q,a2,S,J,F,C,V⟩:=ak (.sl H4.length 0 o.b.length 1 (.ge o.b.length)) m rfl U D;have W:f∉Ba r:=λq=>(C f q).elim E.pi (λq=>by omega);have ab:f<k.length:=by omega
   obtain⟨q,G,Z,c1,rfl,hq,aq,Y⟩:=Ju S a2 (Nat.succ_pos _);have Y:=Y.symm;have ai:(t.flatMap Jp).length=t.length*8:=by have:=BW E.ps;exact this
   have av:H4.length≠q:=λz=>by
    rcases C q (by simp[Ba])with y | y
    ·have:=aa q y;omega
    ·omega
   have aj:q≠f:=λz=>W (by simp[Ba,z]);have hk:c1[G+(t.length*8+7)]?=some (.sl H4.length 0 o.b.length 1 (.ge o.b.length)):=by
    have h1:((c1.drop G).take ((t.length+1)*8))[t.length*8+7]?=some (.sl H4.length 0 o.b.length 1 (.ge o.b.length)):=by rw[Y,Aj8 (by omega),ai,show t.length*8+7 - t.length*8=7 by omega];rfl
    rw[Ao2 (by omega),Ak3]at h1;exact h1
   have ao:(k.set f (some (AObj.cells [u,v,c,d,.sl q G (t.length+1) 8 Z,I (AL s).2.cap,I (AL s).2.made,I (AL s).2.armed,B (AL s).2.off])))[q]?=some (some (.cells c1)):=by rw[Cc (Al6 aj)];exact hq
   have an:k[H4.length]?=some (some (.cells (Bp o.b))):=by rw[F H4.length (by omega) (by omega) (λz=>by have:=aa _ z;omega)];exact b5
   have af:f≠H4.length:=by omega
   have ap:(k.set f (some (AObj.cells [u,v,c,d,.sl q G (t.length+1) 8 Z,I (AL s).2.cap,I (AL s).2.made,I (AL s).2.armed,B (AL s).2.off])))[H4.length]?=some (some (.cells (Bp o.b))):=by rw[Cc af];exact an
   have ah:=BCall.fzCell V av ap ao hk (by rw[Al8,Ao5,Aj3 (by rw[BY];exact Aj7 _)];exact NI o.b);rw[Al8,Ao5,Aj3 (by rw[BY];exact Aj7 _)]at ah;have ad:SV Ft 1 o.b (.imm (Bp o.b) o.b.length 1):=by
    have:=SV.imm (enc:=Ft) (sz:=1) (l:=o.b) (λ_=>rfl) (λx hx=>rfl)
    rwa[Kn]at this
   have aw:q<((k.set f (some (AObj.cells [u,v,c,d,.sl q G (t.length+1) 8 Z,I (AL s).2.cap,I (AL s).2.made,I (AL s).2.armed,B (AL s).2.off]))).set H4.length none).length:=by rw[Ak4,Ak4];exact(BG.1 hq).1
   refine⟨_,_,⟨rfl,.sl q G (t.length+1) 8 Z,⟨u,v,c,d,t++[⟨o,.imm (Bp o.b) o.b.length 1,ad⟩],?_,T,A.kept,?_,?_,rfl,W⟩,?_⟩,ah⟩
   ·rw[Cc aj,Cc (Al6 af)];exact HU ab
   ·rw[An0,A.pm,q3];rfl
   ·rw[AS (HU aw) (by rw[Ak4];exact aq),List.drop_set,if_neg (by omega),show G+(t.length*8+7) - G=t.length*8+7 by omega,List.take_set,Y,Av4 _ _ (by omega),ai,show t.length*8+7 - t.length*8=7 by omega,Am6,Ak1];rfl
   ·refine fr m k _ _ D J F C (by simp) λj P M L=>?_;have ar:q≠j:=λz=>by
     rcases C q (by simp[Ba])with y | y
     ·exact L (z▸y)
     ·omega
    rw[Cc ar,Cc (by omega),Cc (Al6 M)]
theorem cP {N:Nat}{s:StS}{g:Nat}{p:AV}{H:AH}(h:DsAt s g p H)(v:SW N s)(hN:N<900000){name:List UInt8}(Z:name.length<=9223372036854775807)(f:Bool):
  ∃r H',(r=.tup [I (Bf s name f).1.1,I (Bf s name f).1.2]/\∃p',DsAt (Bf s name f).2 g p' H'/\StF g p p' H H')/\Ba0 68 [.ptr g 0,S (Ax name),B f] H r H':=So (by
 unfold LN;have n:=h;obtain⟨a,b,c,d,pv,D⟩:=h;have ad:=v.made;have G:∀x y:Int,Cx s name=(x,y)->y≠3->(∃p',DsAt (Bf s name f).2 g p' H/\StF g p p' H H)/\Bf s name f=((x,y),s):=by
  intro x y e w;have:Bf s name f=(Cx s name,s):=by unfold Bf;rw[if_pos (.inl (by rw[e];exact w))]
  rw[this,e];exact⟨⟨p,n,.refl _ _ _⟩,rfl⟩
 simp only[Ag8,Ah D.obj];cases u:s.off with
 | true=>
  have e:Cx s name=(0,8):=by unfold Cx;rw[if_pos u]
  obtain⟨k,l⟩:=G 0 8 e (by omega);simp only[Am];exact⟨by rw[l],k⟩
 | false=>
  simp only[Ag];refine Az (FD Z) ?_;by_cases i:Ek name
  ·have T:=Aqw D.now (v.now.sm (by omega)) name;obtain⟨w1,w2⟩:=Aiy v.now.1 name;rw[w1,show decide (Zf s.now.1 s.now.2 name)=decide (Bo Nm.name s.now.1 name)from decide_eq_decide.2 w2]at T;simp only[i,Ah8,Ag1,(Aac _ _ _ _ _ _ _ _ _).1];refine Az T ?_;by_cases t:Bo Nm.name s.now.1 name
   ·have e:Cx s name=(Dx s.now.1 name,0):=by unfold Cx;rw[if_neg (by rw[u];simp),if_neg (λq=>q i),if_pos t]
    obtain⟨k,l⟩:=G _ _ e (by omega);simp only[Ab4,t,Ab7];exact⟨by rw[l],k⟩
   ·have m:Cx s name=(0,3):=by unfold Cx;rw[if_neg (by rw[u];simp),if_neg (λq=>q i),if_neg t]
    simp only[Ab4,t,Aa8];cases f with
    | false=>
     have e:Bf s name false=((0,3),s):=by unfold Bf;rw[if_pos (.inr rfl),m]
     rw[e];simp only[Aa4];exact⟨by trivial,p,n,.refl _ _ _⟩
    | true=>
     have E:¬((Cx s name).2≠3\/true=false):=by rintro(q | q);exact q (by rw[m]);cases q
     obtain⟨a',b',dv,z,sa,sb,-⟩:=D.now;injection z with z;injection z with V eb;subst V;simp only[Aa3,Aa5,sa.len,JP];by_cases A:16<=s.now.1.length
     ·have C:(16:Int)<=(s.now.1.length:Int):=by omega
      have e:Bf s name true=((0,4),s):=by unfold Bf;rw[if_neg E,if_pos A]
      rw[e];simp only[C,Ab7];exact⟨by trivial,p,n,.refl _ _ _⟩
     ·have C:¬(16:Int)<=(s.now.1.length:Int):=by omega
      have ho:xO (En name (s.made+1)):=⟨by simp[En],i.2.1,by simp[En]⟩;have O:Ar .add (I s.made) (I 1)=some (I (s.made+1)):=Au (by omega) (by omega);have w:Dy [(I 0),(I 0),(I 0),(I 0),(B false),(.lit (.string ⟨#[]⟩)),(.lit (.string ⟨#[]⟩)),Ad] [(0,1,(I 1)),(5,1,S (Ax name)),(1,1,I (s.made+1))]=some (.agg (BO (En name (s.made+1)) Ad)):=rfl;simp only[C,Ac4,O,w];obtain⟨r,J,⟨rfl,F,Q,P⟩,Y⟩:=nK (bv:=Ad) n v (by omega) SV.nil ho;refine bC_of Y ?_;simp only[Bz,Aa5];by_cases o:(Km s (En name (s.made+1))).1=0
      ·have e:Bf s name true=((s.made+1,0),{(Km s (En name (s.made+1))).2 with made:=s.made+1}):=by unfold Bf;rw[if_neg E,if_neg A,if_neg (by rw[o];simp)]
       rw[e];have W:(Km s (En name (s.made+1))).2.made=s.made:=by obtain⟨-,-,-,q4,-⟩:=HZ s;unfold Km;split<;>exact q4
       obtain⟨a2,K,L,M,ab,j⟩:=Q;obtain⟨R,X⟩:=j.set (s':={(Km s (En name (s.made+1))).2 with made:=s.made+1}) j.now j.kept rfl;have m:AU 1 J (.ptr g 6) (I (s.made+1))=some (J.set g (some (.cells [a2,K,L,M,F,I (Km s (En name (s.made+1))).2.cap,I (s.made+1),I (Km s (En name (s.made+1))).2.armed,B (Km s (En name (s.made+1))).2.off]))):=rE j.obj (by simp) rfl;have U:=j.obj;rw[W]at U;simp only[o,Pr,Ac4,Ah U,Ae,Aa7,O,m,A9,Ah R.obj];exact⟨by trivial,F,⟨a2,K,L,M,ab,R⟩,P.trans X⟩
      ·have e:Bf s name true=((0,(Km s (En name (s.made+1))).1),(Km s (En name (s.made+1))).2):=by unfold Bf;rw[if_neg E,if_neg A,if_pos o]
       rw[e];simp only[o,Af7];exact⟨by trivial,F,Q,P⟩
  ·have e:Cx s name=(0,5):=by unfold Cx;rw[if_neg (by rw[u];simp),if_pos i]
   obtain⟨k,l⟩:=G 0 5 e (by omega);simp only[i,Ag4,Ag1];exact⟨by rw[l],k⟩)
theorem Sx {N:Nat}{s:StS}{v:Nat}{p:AV}{H:AH}(h:DsAt s v p H)(w:SW N s)(y:N<=900000)(ino:Int):
  ∃R,SV AB 9 (Ay s ino).1.2 R/\∃r H',(r=.tup [.agg [I (Ay s ino).1.1,R],I (Ay s ino).2]/\Grew H H')/\Ba0 137 [.ptr v 0,I ino] H r H':=by
 obtain⟨a,b,c,d,z,h⟩:=h;have o:Dy [(I 0),Ad] []=some (.agg [I 0,Ad]):=rfl;have g:=Grew.app H [some (.cells [I 0,Ad])];cases f:s.off with
 | true=>
  have e:Ay s ino=((0,[]),8):=by unfold Ay;rw[if_pos f]
  rw[e];refine⟨Ad,SV.nil,Fl ?_⟩;unfold EC;simp only[jP,Ad2,Ag8,Ah (g.cells h.obj),f,Am,o,ID H 0 (R:=Ad) rfl,Ah BE,qJ];exact⟨by trivial,Grew.app _ _⟩
 | false=>
  have sm:=w.now.sm (by omega);obtain⟨R,t,u⟩:=jV h.now sm ino;have m:=SV.oneA t;by_cases j:iZ s.now.1 s.now.2 ino
  ·have e:Ay s ino=(((FB s.now.1 s.now.2 ino).size,(FB s.now.1 s.now.2 ino).l),0):=by unfold Ay;rw[if_neg (by rw[f];simp),if_pos j]
   rw[e];refine⟨R,t,Fl ?_⟩;unfold EC;simp only[jP,A6,Ag8,Ah (g.cells h.obj),f,Ag,(Aac _ _ _ _ _ _ _ _ _).1];refine Az u ?_;have i:=Grew.app (H++[some (AObj.cells [I 0,Ad])]) [some (AObj.cells [I (FB s.now.1 s.now.2 ino).size,R])];have k:AU 2 (H++[some (AObj.cells [I 0,Ad])]++[some (AObj.cells [I (FB s.now.1 s.now.2 ino).size,R])]) (.ptr H.length 0) (.agg [I (FB s.now.1 s.now.2 ino).size,R])=some (H++[some (AObj.cells [I (FB s.now.1 s.now.2 ino).size,R])]++[some (AObj.cells [I (FB s.now.1 s.now.2 ino).size,R])]):=by rw[AG (n:=2) (xs:=[I (FB s.now.1 s.now.2 ino).size,R]) (cs:=[I 0,Ad]) (by simp[m]) (i.cells BE) rfl (by simp)];simp[Bb]
   have q:=Grew.app (H++[some (AObj.cells [I (FB s.now.1 s.now.2 ino).size,R])]) [some (AObj.cells [I (FB s.now.1 s.now.2 ino).size,R])];simp only[Ae4,ID _ _ m,A9,j,Ah8,Ah BE,qJ,k,Ah (q.cells BE)];exact⟨by trivial,(Grew.app H _).trans q⟩
  ·have e:Ay s ino=((0,[]),3):=by unfold Ay;rw[if_neg (by rw[f];simp),if_neg j]
   rw[e];refine⟨Ad,SV.nil,Fl ?_⟩;unfold EC;simp only[jP,A6,Ag8,Ah (g.cells h.obj),f,Ag,(Aac _ _ _ _ _ _ _ _ _).1];refine Az u ?_;have i:=Grew.app (H++[some (AObj.cells [I 0,Ad])]) [some (AObj.cells [I (FB s.now.1 s.now.2 ino).size,R])];have k:AU 2 (H++[some (AObj.cells [I 0,Ad])]++[some (AObj.cells [I (FB s.now.1 s.now.2 ino).size,R])]) (.ptr H.length 0) (.agg [I 0,Ad])=some (H++[some (AObj.cells [I 0,Ad])]++[some (AObj.cells [I (FB s.now.1 s.now.2 ino).size,R])]):=by rw[AG (n:=2) (xs:=[I 0,Ad]) (cs:=[I 0,Ad]) rfl (i.cells BE) rfl (by simp)];simp[Bb]
   simp only[Ae4,ID _ _ m,A9,j,Ag4,o,k,Ah (i.cells BE),qJ];exact⟨by trivial,g.trans i⟩
theorem StAt.keepH {s:StS}{e:Nat}{p:AV}{H H':AH}(h:StAt s e p H)(f:H'[e]?=H[e]?)(g:∀i∈Ba p,H'[i]?=H[i]?):StAt s e p H':=by
 obtain⟨a,b,c,d,j,h⟩:=h;exact⟨a,b,c,d,j,f.trans h.obj,h.now,h.kept,h.pm,Ai h.ps g,h.po,h.pi,h.pc⟩
structure Duo (s t:StS)(os od:Nat)(p q:AV)(H:AH):Prop where
 P:StAt s os p H
 D:DsAt t od q H
 ne:os≠od
 pd:od∉Ba p
 dp:os∉Ba q
 pq:∀i∈Ba p,i∉Ba q
 lo:∀i∈Ba p,os<i
theorem Duo.stepP {s s' t:StS}{c b:Nat}{p d q:AV}{H H':AH}(h:Duo s t c b p q H)(k:StAt s' c d H')(f:StF c p d H H'):Duo s' t c b d q H':=by
 have j:=h.D.os_lt;have g:=h.D.p_lt;exact⟨k,h.D.keep (f.same b j (Al6 h.ne) h.pd) λi a=>f.same i (g i a) (λe=>h.dp (e▸a)) (λz=>h.pq i z a),h.ne,λz=>(f.ids b z).elim h.pd (λz=>by omega),h.dp,λi a z=>(f.ids i a).elim (λy=>h.pq i y z) (λy=>by have:=g i z;omega),λi a=>(f.ids i a).elim (h.lo i) (λy=>by have:=h.P.os_lt;omega)⟩
theorem Duo.stepD {s t r:StS}{l j:Nat}{p q m:AV}{H H':AH}(h:Duo s t l j p q H)(k:DsAt r j m H')(f:StF j q m H H'):Duo s r l j p m H':=by
 obtain⟨a,b,c,d,v,n⟩:=h.P;have u:=n.lt;have o:=aX n;exact⟨h.P.keepH (f.same l u h.ne h.dp) λi g=>f.same i (o i g) (λe=>h.pd (e▸g)) (λz=>h.pq i g z),k,h.ne,h.pd,λz=>(f.ids l z).elim h.dp (λz=>by omega),λi g z=>(f.ids i z).elim (λy=>h.pq i g y) (λy=>by have:=o i g;omega),h.lo⟩
theorem Duo.grew {s t:StS}{b a:Nat}{p q:AV}{H H':AH}(h:Duo s t b a p q H)(g:Grew H H'):Duo s t b a p q H':=⟨h.P.grew g,h.D.grew g,h.ne,h.pd,h.dp,h.pq,h.lo⟩
theorem Aws (ns:List Nm)(ds:List Nd):decide (gM ns ds ns ds)=true:=decide_eq_true ⟨rfl,rfl⟩
theorem Awt {room:Int}{H a b:AH}{p:AV}(d:StAt (Zh room) H.length p a)(f:a.length=H.length+1)(c:Ba p=[])(e:DsAt (Zh room) a.length Ad b)(g:Grew a b):Duo (Zh room) (Zh room) H.length a.length p Ad b:=
 ⟨d.grew g,e,by omega,by rw[c];simp,by simp[Ba],by rw[c];simp,by rw[c];simp⟩
def qG (ino pos n:Int)(keep:Bool):OpM:=⟨4,ino,pos,n,keep,[],[],[]⟩
def wR (ino pos n:Int):OpM:=⟨5,ino,pos,n,false,[],[],[]⟩
theorem wP (ino pos n:Int)(keep:Bool):xO (qG ino pos n keep):=⟨by simp[qG],by simp[qG],by simp[qG]⟩
theorem Afd (ino pos n:Int):xO (wR ino pos n):=⟨by simp[wR],by simp[wR],by simp[wR]⟩
def VE (s:StS)(ino pos n:Int):Int×StS:=
 if(Ay s ino).2≠0 then((Ay s ino).2,s)else if Df (Ay s ino).1 pos n=none then(5,s)else Km s (wR ino pos n)
def PX (s:StS)(ino pos n:Int)(keep:Bool):Int×StS:=
 if(Ay s ino).2≠0 then((Ay s ino).2,s)else if Ck (Ay s ino).1 pos n keep=none then(5,s)
 else if SH s<(cL (Ck (Ay s ino).1 pos n keep)).length - (Ay s ino).1.2.length then(4,s)else Km s (qG ino pos n keep)
theorem Akh {N:Nat}{s:StS}(h:SW N s)(ino pos n:Int):SW (N+1) (VE s ino pos n).2:=by
 unfold VE;split
 ·exact h.mono (by omega)
 ·split
  ·exact h.mono (by omega)
  ·exact ZH h (Afd ino pos n)
theorem Awu {N:Nat}{s:StS}(h:SW N s)(ino pos n:Int)(keep:Bool)(a:n<=200\/32768<n):SW (N+30) (PX s ino pos n keep).2:=by
 unfold PX;split
 ·exact h.mono (by omega)
 ·split
  ·exact h.mono (by omega)
  ·rename_i b;split
   ·exact h.mono (by omega)
   ·refine(ZH h (wP ino pos n keep)).mono ?_;show N+(1+0+if(4:Int)=4 then Abe n else 0)<=N+30;rw[if_pos rfl];rcases a with a | a
    ·unfold Abe;omega
    ·refine absurd ?_ b;unfold Ck;rw[if_neg (by omega)]
theorem Awv {N:Nat}{s:StS}(h:SW N s)(ino pos n:Int)(keep:Bool):SW (N+4099) (PX s ino pos n keep).2:=by
 unfold PX;split
 ·exact h.mono (by omega)
 ·split
  ·exact h.mono (by omega)
  ·split
   ·exact h.mono (by omega)
   ·refine(ZH h (wP ino pos n keep)).mono ?_;show N+(1+0+if(4:Int)=4 then Abe n else 0)<=N+4099;rw[if_pos rfl];unfold Abe;omega
noncomputable def kP (s:StS)(ino pos:Int):Int×Int:=
 if(Ay s ino).2≠0 then(0,(Ay s ino).2)else match Un (Ay s ino).1.1 (Ay s ino).1.2 pos with | none=>(0,5) | some n=>(n,0)
noncomputable def lC (s:StS)(ino pos:Int):Int×Int:=
 if(Ay s ino).2≠0 then(0,(Ay s ino).2)else match eE (Ay s ino).1.1 (Ay s ino).1.2 pos with | none=>(0,5) | some n=>(n,0)
theorem sP {c:I5}{pos n:Int}{keep:Bool}:(cL (Ck c pos n keep)).length<=c.2.length+4098:=by
 have h:=Aiw (o:=qG 0 pos n keep) (d:=⟨0,c.1,c.2⟩);simpa[I9,qG]using h
theorem uX {N:Nat}{s:StS}{f:Nat}{p:AV}{H:AH}(h:DsAt s f p H)(e:SW N s)(m:N<=900000):Ba0 77 [.ptr f 0] H (I (SH s)) H:=by
 obtain⟨r,H',⟨rfl,rfl⟩,k⟩:=Sk (a0:=.ptr f 0) (H:=H) (K:=λr H'=>r=I (SH s)/\H'=H) (by
  obtain⟨a,b,c,d,o,h⟩:=h;unfold LL;have g:=Aqy h.now (e.now.sm (by omega));rw[Aiz e.now.1]at g;have hs:=Ajg e.now;have n:=e.cap;have i:Ar .sub (I s.cap) (I (OW s.now.2:Int))=some (I (s.cap - OW s.now.2)):=B4 (by omega) (by omega);have j:amm jF [I (s.cap - OW s.now.2),(I 0)]=some (I (SH s)):=by rw[JT,jG];rfl
  simp only[Ac9,Ah h.obj,(Aac _ _ _ _ _ _ _ _ _).1];refine bP_of g ?_;simp only[i,Aa,j];exact⟨by trivial,by trivial⟩)
 exact k
theorem cQ {N:Nat}{s:StS}{a:Nat}{p:AV}{H:AH}(h:DsAt s a p H)(i:SW N s)(J:N<900000)(ino size:Int):
  ∃r H',(r=I (DL s ino size).1/\∃p',DsAt (DL s ino size).2 a p' H'/\StF a p p' H H')/\Ba0 71 [.ptr a 0,I ino,I size] H r H':=Oo (by
 unfold Iw;obtain⟨R,m,r,e,⟨rfl,f⟩,x⟩:=Sx h i (by omega) ino;have K:=CI i ino;refine bC_of x ?_;unfold DL;generalize Ay s ino=ct at*;have C:=SV.oneA m;have u:=h.grew f;have g:=Grew.app e [some (.cells [I ct.1.1,R])];have l:=u.grew g;simp only[Ag9,ID _ _ C];by_cases n:ct.2=0
 ·simp only[n,Ah1,Ah BE,qJ];obtain⟨j,w,z⟩:=M4 (size0:=ct.1.1) m (by omega) size;refine Az z ?_;have D:=SV.oneA w;have k:=Grew.app (e++[some (AObj.cells [I ct.1.1,R])]) [some (.cells [I (cS (CR (ct.1.1,ct.1.2) size)),j])];have c:=l.grew k;have b:StF a p p H (e++[some (AObj.cells [I ct.1.1,R])]++[some (.cells [I (cS (CR (ct.1.1,ct.1.2) size)),j])]):=.of_grew ((f.trans g).trans k);simp only[Ae4,ID _ _ D,A9];cases d:CR (ct.1.1,ct.1.2) size with
  | none=>
   have A:CR ct.1 size=none:=d;rw[d]at c b;simp only[Ac6,Aa4];exact⟨by trivial,p,c,b⟩
  | some c2=>
   have A:¬CR ct.1 size=none:=by rw[show CR ct.1 size=some c2 from d];simp
   rw[d]at c b;have q:Dy [(I 0),(I 0),(I 0),(I 0),(B false),(.lit (.string ⟨#[]⟩)),(.lit (.string ⟨#[]⟩)),Ad] [(0,1,(I 3)),(1,1,I ino),(3,1,I size)]=some (.agg (BO (wT ino size) Ad)):=rfl;simp only[Ac8,q,Aa];obtain⟨r,F,⟨rfl,E,v,t⟩,y⟩:=nK (bv:=Ad) (o:=wT ino size) c i (by omega) SV.nil (Aex ino size);exact bC_of y ⟨rfl,E,v,b.trans t⟩
 ·simp only[n,Ad9];exact⟨by trivial,p,l,.of_grew (f.trans g)⟩)
theorem Aww {N:Nat}{s:StS}{a:Nat}{p:AV}{H:AH}(h:StAt s a p H)(i:SW N s)(K:N<900000)(ino pos n:Int):
  ∃r H',(r=I (VE s ino pos n).1/\∃p',StAt (VE s ino pos n).2 a p' H'/\StF a p p' H H')/\Ba0 116 [.ptr a 0,I ino,I pos,I n] H r H':=Y4 (by
 unfold Ts;obtain⟨R,m,r,e,⟨rfl,f⟩,y⟩:=Kl h i (by omega) ino;have L:=CI i ino;refine bC_of y ?_;unfold VE;generalize Ay s ino=ct at*;have D:=SV.oneA m;have v:=h.grew f;have g:=Grew.app e [some (.cells [I ct.1.1,R])];have l:=v.grew g;simp only[Ag9,ID _ _ D];by_cases q:ct.2=0
 ·simp only[q,Ah1,Ah BE,qJ];obtain⟨j,x,A⟩:=XD (size:=ct.1.1) m (by omega) pos n;refine Az A ?_;have E:=SV.oneA x;have k:=Grew.app (e++[some (AObj.cells [I ct.1.1,R])]) [some (.cells [I (cS (Df (ct.1.1,ct.1.2) pos n)),j])];have c:=l.grew k;have b:StF a p p H (e++[some (AObj.cells [I ct.1.1,R])]++[some (.cells [I (cS (Df (ct.1.1,ct.1.2) pos n)),j])]):=.of_grew ((f.trans g).trans k);simp only[Ae4,ID _ _ E,A9];cases d:Df (ct.1.1,ct.1.2) pos n with
  | none=>
   have C:Df ct.1 pos n=none:=d;rw[d]at c b;simp only[Ac6,Aa4];exact⟨by trivial,p,c,b⟩
  | some c2=>
   have C:¬Df ct.1 pos n=none:=by rw[show Df ct.1 pos n=some c2 from d];simp
   rw[d]at c b;have t:Dy [(I 0),(I 0),(I 0),(I 0),(B false),(.lit (.string ⟨#[]⟩)),(.lit (.string ⟨#[]⟩)),Ad] [(0,1,(I 5)),(1,1,I ino),(2,1,I pos),(3,1,I n)]=some (.agg (BO (wR ino pos n) Ad)):=rfl;simp only[Ac8,t,Aa];obtain⟨r,G,⟨rfl,F,w,u⟩,z⟩:=Abf (bv:=Ad) (o:=wR ino pos n) c i (by omega) SV.nil (Afd ino pos n);exact bC_of z ⟨rfl,F,w,b.trans u⟩
 ·simp only[q,Ad9];exact⟨by trivial,p,l,.of_grew (f.trans g)⟩)
theorem Awx {N:Nat}{s:StS}{a:Nat}{p:AV}{H:AH}(h:DsAt s a p H)(i:SW N s)(K:N<900000)(ino pos n:Int):
  ∃r H',(r=I (VE s ino pos n).1/\∃p',DsAt (VE s ino pos n).2 a p' H'/\StF a p p' H H')/\Ba0 117 [.ptr a 0,I ino,I pos,I n] H r H':=Rm (by
 unfold KE;obtain⟨R,m,r,e,⟨rfl,f⟩,y⟩:=Sx h i (by omega) ino;have L:=CI i ino;refine bC_of y ?_;unfold VE;generalize Ay s ino=ct at*;have D:=SV.oneA m;have v:=h.grew f;have g:=Grew.app e [some (.cells [I ct.1.1,R])];have l:=v.grew g;simp only[Ag9,ID _ _ D];by_cases q:ct.2=0
 ·simp only[q,Ah1,Ah BE,qJ];obtain⟨j,x,A⟩:=Qy (size:=ct.1.1) m (by omega) pos n;refine Az A ?_;have E:=SV.oneA x;have k:=Grew.app (e++[some (AObj.cells [I ct.1.1,R])]) [some (.cells [I (cS (Df (ct.1.1,ct.1.2) pos n)),j])];have c:=l.grew k;have b:StF a p p H (e++[some (AObj.cells [I ct.1.1,R])]++[some (.cells [I (cS (Df (ct.1.1,ct.1.2) pos n)),j])]):=.of_grew ((f.trans g).trans k);simp only[Ae4,ID _ _ E,A9];cases d:Df (ct.1.1,ct.1.2) pos n with
  | none=>
   have C:Df ct.1 pos n=none:=d;rw[d]at c b;simp only[Ac6,Aa4];exact⟨by trivial,p,c,b⟩
  | some c2=>
   have C:¬Df ct.1 pos n=none:=by rw[show Df ct.1 pos n=some c2 from d];simp
   rw[d]at c b;have t:Dy [(I 0),(I 0),(I 0),(I 0),(B false),(.lit (.string ⟨#[]⟩)),(.lit (.string ⟨#[]⟩)),Ad] [(0,1,(I 5)),(1,1,I ino),(2,1,I pos),(3,1,I n)]=some (.agg (BO (wR ino pos n) Ad)):=rfl;simp only[Ac8,t,Aa];obtain⟨r,G,⟨rfl,F,w,u⟩,z⟩:=nK (bv:=Ad) (o:=wR ino pos n) c i (by omega) SV.nil (Afd ino pos n);exact bC_of z ⟨rfl,F,w,b.trans u⟩
 ·simp only[q,Ad9];exact⟨by trivial,p,l,.of_grew (f.trans g)⟩)
theorem Awy {N:Nat}{s:StS}{d:Nat}{p:AV}{H:AH}(h:StAt s d p H)(i:SW N s)(T:N<900000)(ino pos n:Int)(keep:Bool):
  ∃r H',(r=I (PX s ino pos n keep).1/\∃p',StAt (PX s ino pos n keep).2 d p' H'/\StF d p p' H H')/\Ba0 114 [.ptr d 0,I ino,I pos,I n,B keep] H r H':=Vf (by
 unfold O9;obtain⟨R,l,r,e,⟨rfl,j⟩,F⟩:=Kl h i (by omega) ino;have U:=CI i ino;refine bC_of F ?_;unfold PX;generalize Ay s ino=ct at*;have M:=SV.oneA l;have D:=h.grew j;have k:=Grew.app e [some (.cells [I ct.1.1,R])];have u:=D.grew k;simp only[Ag9,ID _ _ M];by_cases y:ct.2=0
 ·simp only[y,Ah1,Ah BE,qJ];obtain⟨m,v,J⟩:=S9 (size:=ct.1.1) l (by omega) pos n keep;refine Az J ?_;have O:=SV.oneA v;have f:=Grew.app (e++[some (AObj.cells [I ct.1.1,R])]) [some (.cells [I (cS (Ck (ct.1.1,ct.1.2) pos n keep)),m])];have a:=u.grew f;have b:StF d p p H (e++[some (AObj.cells [I ct.1.1,R])]++[some (.cells [I (cS (Ck (ct.1.1,ct.1.2) pos n keep)),m])]):=.of_grew ((j.trans k).trans f);simp only[Ae4,ID _ _ O,A9];cases g:Ck (ct.1.1,ct.1.2) pos n keep with
  | none=>
   have L:Ck ct.1 pos n keep=none:=g;rw[g]at a b;simp only[Ac6,Aa4];exact⟨by trivial,p,a,b⟩
  | some c2=>
   have L:¬Ck ct.1 pos n keep=none:=by rw[show Ck ct.1 pos n keep=some c2 from g];simp
   have z:Dy [(I 0),(I 0),(I 0),(I 0),(B false),(.lit (.string ⟨#[]⟩)),(.lit (.string ⟨#[]⟩)),Ad] [(0,1,(I 4)),(1,1,I ino),(2,1,I pos),(3,1,I n),(4,1,B keep)]=some (.agg (BO (qG ino pos n keep) Ad)):=rfl;have w:=sP (c:=(ct.1.1,ct.1.2)) (pos:=pos) (n:=n) (keep:=keep);have hs:=v.len;have K:=l.len;rw[g]at w hs a b f;simp only at w;have A:Ar .sub (I ((cL (some c2)).length:Int)) (I (ct.1.2.length:Int))=some (I (((cL (some c2)).length:Int) - (ct.1.2.length:Int))):=B4 (by omega) (by omega);have t:=f.cells (o:=e.length) (x:=some (AObj.cells [I ct.1.1,R])) BE;simp only[Ac8,reduceCtorEq,if_false,Ab5,Ah BE,Ah t,hs,K,A];refine bC_of (Aev a i (by omega)) ?_;simp only[C8,Aa5,Ah BE,Ah t,Ae,Aa7,true_and];by_cases q:SH s<((cL (some c2)).length:Int) - (ct.1.2.length:Int)
   ·simp only[q,Ad3];exact⟨by trivial,p,a,b⟩
   ·simp only[q,Ac4,if_false,z];obtain⟨r,Q,⟨rfl,P,E,C⟩,G⟩:=Abf (bv:=Ad) (o:=qG ino pos n keep) a i (by omega) SV.nil (wP ino pos n keep);exact bC_of G ⟨rfl,P,E,b.trans C⟩
 ·simp only[y,Ad9];exact⟨by trivial,p,u,.of_grew (j.trans k)⟩)
theorem Awz {N:Nat}{s:StS}{d:Nat}{p:AV}{H:AH}(h:DsAt s d p H)(i:SW N s)(T:N<900000)(ino pos n:Int)(keep:Bool):
  ∃r H',(r=I (PX s ino pos n keep).1/\∃p',DsAt (PX s ino pos n keep).2 d p' H'/\StF d p p' H H')/\Ba0 115 [.ptr d 0,I ino,I pos,I n,B keep] H r H':=On (by
 unfold Iu;obtain⟨R,l,r,e,⟨rfl,j⟩,F⟩:=Sx h i (by omega) ino;have U:=CI i ino;refine bC_of F ?_;unfold PX;generalize Ay s ino=ct at*;have M:=SV.oneA l;have D:=h.grew j;have k:=Grew.app e [some (.cells [I ct.1.1,R])];have u:=D.grew k;simp only[Ag9,ID _ _ M];by_cases y:ct.2=0
 ·simp only[y,Ah1,Ah BE,qJ];obtain⟨m,v,J⟩:=M3 (size:=ct.1.1) l (by omega) pos n keep;refine Az J ?_;have O:=SV.oneA v;have f:=Grew.app (e++[some (AObj.cells [I ct.1.1,R])]) [some (.cells [I (cS (Ck (ct.1.1,ct.1.2) pos n keep)),m])];have a:=u.grew f;have b:StF d p p H (e++[some (AObj.cells [I ct.1.1,R])]++[some (.cells [I (cS (Ck (ct.1.1,ct.1.2) pos n keep)),m])]):=.of_grew ((j.trans k).trans f);simp only[Ae4,ID _ _ O,A9];cases g:Ck (ct.1.1,ct.1.2) pos n keep with
  | none=>
   have L:Ck ct.1 pos n keep=none:=g;rw[g]at a b;simp only[Ac6,Aa4];exact⟨by trivial,p,a,b⟩
  | some c2=>
   have L:¬Ck ct.1 pos n keep=none:=by rw[show Ck ct.1 pos n keep=some c2 from g];simp
   have z:Dy [(I 0),(I 0),(I 0),(I 0),(B false),(.lit (.string ⟨#[]⟩)),(.lit (.string ⟨#[]⟩)),Ad] [(0,1,(I 4)),(1,1,I ino),(2,1,I pos),(3,1,I n),(4,1,B keep)]=some (.agg (BO (qG ino pos n keep) Ad)):=rfl;have w:=sP (c:=(ct.1.1,ct.1.2)) (pos:=pos) (n:=n) (keep:=keep);have hs:=v.len;have K:=l.len;rw[g]at w hs a b f;simp only at w;have A:Ar .sub (I ((cL (some c2)).length:Int)) (I (ct.1.2.length:Int))=some (I (((cL (some c2)).length:Int) - (ct.1.2.length:Int))):=B4 (by omega) (by omega);have t:=f.cells (o:=e.length) (x:=some (AObj.cells [I ct.1.1,R])) BE;simp only[Ac8,reduceCtorEq,if_false,Ab5,Ah BE,Ah t,hs,K,A];refine bC_of (uX a i (by omega)) ?_;simp only[C8,Aa5,Ah BE,Ah t,Ae,Aa7,true_and];by_cases q:SH s<((cL (some c2)).length:Int) - (ct.1.2.length:Int)
   ·simp only[q,Ad3];exact⟨by trivial,p,a,b⟩
   ·simp only[q,Ac4,if_false,z];obtain⟨r,Q,⟨rfl,P,E,C⟩,G⟩:=nK (bv:=Ad) (o:=qG ino pos n keep) a i (by omega) SV.nil (wP ino pos n keep);exact bC_of G ⟨rfl,P,E,b.trans C⟩
 ·simp only[y,Ad9];exact⟨by trivial,p,u,.of_grew (j.trans k)⟩)
theorem Ax0 {N:Nat}{s:StS}{f:Nat}{p:AV}{H:AH}(h:DsAt s f p H)(e:SW N s)(k:N<=900000)(ino pos:Int):
  ∃r H',(r=.tup [I (kP s ino pos).1,I (kP s ino pos).2]/\Grew H H')/\Ba0 126 [.ptr f 0,I ino,I pos] H r H':=Sj (by
 unfold LJ;obtain⟨R,c,r,g,⟨rfl,a⟩,i⟩:=Sx h e (by omega) ino;have l:=CI e ino;refine bC_of i ?_;unfold kP;generalize Ay s ino=ct at*;have j:=SV.oneA c;have b:=Grew.app g [some (.cells [I ct.1.1,R])];simp only[Ag9,ID _ _ j];by_cases d:ct.2=0
 ·simp only[d,Ah1,Ah BE,qJ];refine Az (fM c (by omega) pos) ?_;cases m:Un ct.1.1 ct.1.2 pos with
  | none=>
   simp only[oI,Ae4,Aa4];exact⟨by trivial,a.trans b⟩
  | some n=>
   simp only[oI,Ae4,Aa3];exact⟨by trivial,a.trans b⟩
 ·simp only[d,Ad9];exact⟨by trivial,a.trans b⟩)
theorem Ax1 {N:Nat}{s:StS}{d:Nat}{p:AV}{H:AH}(h:StAt s d p H)(i:SW N s)(m:N<=900000)(ino pos:Int):
  ∃r H',(r=.tup [I (kP s ino pos).1,I (kP s ino pos).2]/\Grew H H')/\Ba0 125 [.ptr d 0,I ino,I pos] H r H':=Zx (by
 unfold Vg
 have key:∃r H',(r=.tup [I (kP s ino pos).1,I (kP s ino pos).2]/\Grew H H')/\Ba0 178 [.ptr d 0,I ino,I pos,.fn (.func 179) [] []] H r H':=Nb (by
  unfold Kj;obtain⟨R,e,r,j,⟨rfl,a⟩,c⟩:=Kl h i (by omega) ino;have o:=CI i ino;refine bC_of c ?_;unfold kP;generalize Ay s ino=ct at*;have l:=SV.oneA e;have b:=Grew.app j [some (.cells [I ct.1.1,R])];simp only[Ag9,ID _ _ l];by_cases f:ct.2=0
  ·have k:Ch prog 179=true:=by kernel_rfl
   simp only[f,Ab8,B8,Aa3,Ah BE,qJ,Aa,Ah6,k,Aw6,Ah5];refine bC_of (rQ e (by omega) pos _) ?_;cases q:Un ct.1.1 ct.1.2 pos with
   | none=>
    simp only[oI,Ae4,Aa4];exact⟨by trivial,a.trans b⟩
   | some n=>
    simp only[oI,Ae4,Aa3];exact⟨by trivial,a.trans b⟩
  ·simp only[f,Ad9];exact⟨by trivial,a.trans b⟩)
 obtain⟨r,H',⟨rfl,g⟩,c⟩:=key;refine bC_of c ?_;simp only[Ad0];exact⟨by trivial,g⟩)
theorem Ax2 {N:Nat}{s:StS}{f:Nat}{p:AV}{H:AH}(h:DsAt s f p H)(e:SW N s)(k:N<=900000)(ino pos:Int):
  ∃r H',(r=.tup [I (lC s ino pos).1,I (lC s ino pos).2]/\Grew H H')/\Ba0 128 [.ptr f 0,I ino,I pos] H r H':=Sn (by
 unfold LM;obtain⟨R,c,r,g,⟨rfl,a⟩,i⟩:=Sx h e (by omega) ino;have l:=CI e ino;refine bC_of i ?_;unfold lC;generalize Ay s ino=ct at*;have j:=SV.oneA c;have b:=Grew.app g [some (.cells [I ct.1.1,R])];simp only[Ag9,ID _ _ j];by_cases d:ct.2=0
 ·simp only[d,Ah1,Ah BE,qJ];refine Az (fN c (by omega) pos) ?_;cases m:eE ct.1.1 ct.1.2 pos with
  | none=>
   simp only[oI,Ae4,Aa4];exact⟨by trivial,a.trans b⟩
  | some n=>
   simp only[oI,Ae4,Aa3];exact⟨by trivial,a.trans b⟩
 ·simp only[d,Ad9];exact⟨by trivial,a.trans b⟩)
theorem Ax3 {N:Nat}{s:StS}{d:Nat}{p:AV}{H:AH}(h:StAt s d p H)(i:SW N s)(m:N<=900000)(ino pos:Int):
  ∃r H',(r=.tup [I (lC s ino pos).1,I (lC s ino pos).2]/\Grew H H')/\Ba0 127 [.ptr d 0,I ino,I pos] H r H':=Zz (by
 unfold Vi
 have key:∃r H',(r=.tup [I (lC s ino pos).1,I (lC s ino pos).2]/\Grew H H')/\Ba0 178 [.ptr d 0,I ino,I pos,.fn (.func 181) [] []] H r H':=Nb (by
  unfold Kj;obtain⟨R,e,r,j,⟨rfl,a⟩,c⟩:=Kl h i (by omega) ino;have o:=CI i ino;refine bC_of c ?_;unfold lC;generalize Ay s ino=ct at*;have l:=SV.oneA e;have b:=Grew.app j [some (.cells [I ct.1.1,R])];simp only[Ag9,ID _ _ l];by_cases f:ct.2=0
  ·have k:Ch prog 181=true:=by kernel_rfl
   simp only[f,Ab8,B8,Aa3,Ah BE,qJ,Aa,Ah6,k,Aw6,Ah5];refine bC_of (rR e (by omega) pos _) ?_;cases q:eE ct.1.1 ct.1.2 pos with
   | none=>
    simp only[oI,Ae4,Aa4];exact⟨by trivial,a.trans b⟩
   | some n=>
    simp only[oI,Ae4,Aa3];exact⟨by trivial,a.trans b⟩
  ·simp only[f,Ad9];exact⟨by trivial,a.trans b⟩)
 obtain⟨r,H',⟨rfl,g⟩,c⟩:=key;refine bC_of c ?_;simp only[Ad0];exact⟨by trivial,g⟩)
theorem Aki {N:Nat}{s:StS}{a:Nat}{p:AV}{H:AH}(h:DsAt s a p H)(i:SW N s)(e:N<=900000)(ino:Int):∃r H',(r=.tup [I (Ay s ino).1.1,I (Ay s ino).2]/\Grew H H')/\Ba0 69 [.ptr a 0,I ino] H r H':=Sq (by
 unfold LP;obtain⟨R,f,r,b,⟨rfl,c⟩,g⟩:=Sx h i e ino;have j:=SV.oneA f;refine bC_of g ?_;have d:=Grew.app b [some (AObj.cells [I (Ay s ino).1.1,R])];simp only[Aa9,Ab1,jP,Ad2,ID _ _ j,Ah BE];exact⟨by trivial,c.trans d⟩)
theorem Ax4 {N:Nat}{s:StS}{u:Nat}{p:AV}{H:AH}(h:DsAt s u p H)(f:SW N s)(z:N<900000)(ino pos n:Int):
  ∃R,SV Ft 1 (Pg s ino pos n).1 R/\∃r H',(r=.tup [R,I (Pg s ino pos n).2]/\Grew H H')/\Ba0 113 [.ptr u 0,I ino,I pos,I n] H r H':=by
 obtain⟨R,q,r,o,⟨rfl,j⟩,l⟩:=Sx h f (by omega) ino;have C:=CI f ino;have m:=SV.oneA q;have k:=Grew.app o [some (.cells [I (Ay s ino).1.1,R])];by_cases a:(Ay s ino).2=0
 ·obtain⟨d,x,B,A,E⟩:=Fr f a;by_cases t:pos<0\/n<0\/4096<n
  ·have e:Pg s ino pos n=([],5):=by unfold Pg;rw[if_neg (by rw[a];simp),if_pos t]
   rw[e];refine⟨Ad,SV.nil,Fj ?_⟩;unfold EA;refine bC_of l ?_;simp only[Ag9,ID _ _ m,a,Ai3,AM,A7];have i:True/\Grew H (o++[some (AObj.cells [I (Ay s ino).1.1,R])]):=⟨trivial,j.trans k⟩;by_cases b:pos<0
   ·simp only[b,Ad3,show((true==false)=false)from rfl,AT,Ab9,A7];exact i
   ·by_cases c:n<0
    ·simp only[b,B8,Ac3,Af5,AM,c,A7,show((true==false)=false)from rfl,Am];exact i
    ·have g:4096<n:=by omega
     simp only[b,B8,Ai9,Ad1,AM,c,C8,g,Ab7];exact i
  ·have e:Pg s ino pos n=(Hw (Ay s ino).1.1 (Ay s ino).1.2 pos n,0):=by unfold Pg;rw[if_neg (by rw[a];simp),if_neg t]
   rw[e];have D:=f.now.1.mc d x;obtain⟨v,w,y⟩:=ST q (by omega) pos n;refine⟨v,w,Fj ?_⟩;unfold EA;refine bC_of l ?_;have b:¬pos<0:=by omega
   have c:¬n<0:=by omega
   have g:¬4096<n:=by omega
   simp only[Ag9,ID _ _ m,a,Ai3,AM,Ai9,b,c,C8,g,Ah0,Ah BE,qJ];exact Az y ⟨rfl,j.trans k⟩
 ·have e:Pg s ino pos n=([],(Ay s ino).2):=by unfold Pg;rw[if_pos a]
  rw[e];refine⟨Ad,SV.nil,Fj ?_⟩;unfold EA;refine bC_of l ?_;simp only[Ag9,ID _ _ m,a,Af7];exact⟨by trivial,j.trans k⟩
theorem Ax5 {N:Nat}{s:StS}{i:Nat}{p:AV}{H:AH}(h:DsAt s i p H)(w:SW N s)(O:N<900000){name to:List UInt8}(G:name.length<=9223372036854775807)(J:to.length<=9223372036854775807):
  ∃r H',(r=I (Q0 s name to).1/\∃p',DsAt (Q0 s name to).2 i p' H'/\StF i p p' H H')/\Ba0 119 [.ptr i 0,S (Ax name),S (Ax to)] H r H':=PK (by
 unfold J6;have n:=h;obtain⟨a,b,c,d,P,t⟩:=h;have k:∀(x:Int),Q0 s name to=(x,s)->(I x:AV)=I (Q0 s name to).1/\∃p',DsAt (Q0 s name to).2 i p' H/\StF i p p' H H:=by intro x e;rw[e];exact⟨rfl,p,n,.refl _ _ _⟩
 simp only[Ag8,Ah t.obj];cases g:s.off with
 | true=>
  simp only[Am]
  exact k 8 (by
   have e:Cx s name=(0,8):=by unfold Cx;rw[if_pos g]
   unfold Q0;rw[if_neg (by rw[g];simp),if_pos (.inl (by rw[e];simp)),e])
 | false=>
  simp only[Ag];refine Az (FD G) ?_;by_cases j:Ek name
  ·simp only[j,B3,AJ,At6,Ai5,V7];refine Az (FD J) ?_;by_cases f:Ek to
   ·have F:=G4 t.now (w.now.sm (by omega)) name;simp only[f,Ah8,AJ,Ad1,(Aac _ _ _ _ _ _ _ _ _).1];refine Az F ?_;simp only[Ac1,IB];by_cases l:Bo Nm.name s.now.1 name
    ·have e:Cx s name=(Dx s.now.1 name,0):=by unfold Cx;rw[if_neg (by rw[g];simp),if_neg (λq=>q j),if_pos l]
     have z:OX .eql (S (Ax name)) (S (Ax to))=some (B (decide (name=to))):=DC;simp only[l,Ad8,Aa8,z];by_cases m:name=to
     ·subst m;simp only[eq_self,Ab7];exact k 0 (by unfold Q0;rw[if_neg (λq=>q.2 f),if_pos (.inr rfl),e])
     ·have v:¬(s.off=false/\¬Ek to):=λq=>q.2 f;have u:¬((Cx s name).2≠0\/name=to):=by rintro(q | q);exact q (by rw[e]);exact m q
      have A:Q0 s name to=Km s (lM name to):=by unfold Q0;rw[if_neg v,if_neg u]
      have y:Dy [(I 0),(I 0),(I 0),(I 0),(B false),(.lit (.string ⟨#[]⟩)),(.lit (.string ⟨#[]⟩)),Ad] [(0,1,(I 6)),(5,1,S (Ax name)),(6,1,S (Ax to))]=some (.agg (BO (lM name to) Ad)):=rfl;simp only[m,Ac4,y];obtain⟨r,L,⟨rfl,K,D,C⟩,E⟩:=nK (bv:=Ad) (o:=lM name to) n w (by omega) SV.nil (xA v u);rw[A];exact bC_of E ⟨rfl,K,D,C⟩
    ·simp only[l,Ae8]
     exact k 3 (by
      have e:Cx s name=(0,3):=by unfold Cx;rw[if_neg (by rw[g];simp),if_neg (λq=>q j),if_neg l]
      unfold Q0;rw[if_neg (λq=>q.2 f),if_pos (.inl (by rw[e];simp)),e])
   ·simp only[f,Ag4,AJ,Ad1];exact k 5 (by unfold Q0;rw[if_pos ⟨g,f⟩])
  ·simp only[j,Ag4,AJ,Af8,A7,show((true==false)=false)from rfl,AT,ND]
   exact k 5 (by
    have e:Cx s name=(0,5):=by unfold Cx;rw[if_neg (by rw[g];simp),if_pos j]
    unfold Q0;by_cases f:Ek to
    ·rw[if_neg (λq=>q.2 f),if_pos (.inl (by rw[e];simp)),e]
    ·rw[if_pos ⟨g,f⟩]))
theorem Ax6 {N:Nat}{s:StS}{g:Nat}{p:AV}{H:AH}(h:DsAt s g p H)(n:SW N s)(J:N<900000){name:List UInt8}(C:name.length<=9223372036854775807):
  ∃r H',(r=I (fQ s name).1/\∃p',DsAt (fQ s name).2 g p' H'/\StF g p p' H H')/\Ba0 121 [.ptr g 0,S (Ax name)] H r H':=PJ (by
 unfold J5;have l:=h;obtain⟨a,b,c,d,K,m⟩:=h;have k:∀(x y:Int),Cx s name=(x,y)->y≠0->(I y:AV)=I (fQ s name).1/\∃p',DsAt (fQ s name).2 g p' H/\StF g p p' H H:=by
  intro x y e D;have:fQ s name=(y,s):=by unfold fQ;rw[if_pos (by rw[e];exact D),e]
  rw[this];exact⟨rfl,p,l,.refl _ _ _⟩
 simp only[Ag8,Ah m.obj];cases j:s.off with
 | true=>
  simp only[Am];exact k 0 8 (by unfold Cx;rw[if_pos j]) (by omega)
 | false=>
  simp only[Ag];refine Az (FD C) ?_;by_cases f:Ek name
  ·have A:=G4 m.now (n.now.sm (by omega)) name;simp only[f,Ah8,Ag1,(Aac _ _ _ _ _ _ _ _ _).1];refine Az A ?_;simp only[Ac1,IB];by_cases i:Bo Nm.name s.now.1 name
   ·have e:Cx s name=(Dx s.now.1 name,0):=by unfold Cx;rw[if_neg (by rw[j];simp),if_neg (λq=>q f),if_pos i]
    have u:fQ s name=Km s (fH name):=by unfold fQ;rw[if_neg (by rw[e];simp)]
    have t:Dy [(I 0),(I 0),(I 0),(I 0),(B false),(.lit (.string ⟨#[]⟩)),(.lit (.string ⟨#[]⟩)),Ad] [(0,1,(I 7)),(5,1,S (Ax name))]=some (.agg (BO (fH name) Ad)):=rfl;simp only[i,not_true_eq_false,Ac4,t];obtain⟨r,F,⟨rfl,E,w,v⟩,z⟩:=nK (bv:=Ad) (o:=fH name) l n (by omega) SV.nil (wS f);rw[u];exact bC_of z ⟨rfl,E,w,v⟩
   ·simp only[i,Ae8];exact k 0 3 (by unfold Cx;rw[if_neg (by rw[j];simp),if_neg (λq=>q f),if_neg i]) (by omega)
  ·simp only[f,Ag4,Ag1];exact k 0 5 (by unfold Cx;rw[if_neg (by rw[j];simp),if_pos f]) (by omega))
end Go.Proofs.YtbppnhenlboefaaGreat.Av
end
