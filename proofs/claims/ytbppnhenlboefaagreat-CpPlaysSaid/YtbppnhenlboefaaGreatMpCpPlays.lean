/- The law and its row. No condition. -/
import Derived.Test.YtbppnhenlboefaaGreatMpL
import Derived.Below
import Derived.Carry
import Derived.ChangeOld
import Derived.OpenShut
import Derived.ProofKit
import Derived.ShutString
import Derived.SizedLaws
import Derived.Test.YtbppnhenlboefaaGreatRows
import Derived.WalkKit
set_option linter.unusedVariables false
set_option linter.unusedSimpArgs false
set_option maxRecDepth 100000
section
namespace Go.Proofs.YtbppnhenlboefaaGreat.Av
open Go Go.RowKit Go.Proofs.Tryz
noncomputable def cpPlays_r0:Rd prog 3 Int:=(Rd.int .i64 Tryz.underlying3 (by kernel_rfl))
noncomputable def cpPlays_r1:Rd prog 3 Int:=(Rd.int .i64 Tryz.underlying3 (by kernel_rfl))
noncomputable def cpPlays_r2:Rd prog 72 (Sl (UInt8×(UInt8×(UInt8×(Int×(Int×(Int×((Sl UInt8)×(Bool×((Sl Bool)×((Sl Int)×Unit))))))))))):=(Rd.slice (Rd.struct (Rds.cons (Rd.byte Tryz.underlying5 (by kernel_rfl)) (Rds.cons (Rd.byte Tryz.underlying5 (by kernel_rfl)) (Rds.cons (Rd.byte Tryz.underlying5 (by kernel_rfl)) (Rds.cons (Rd.int .i64 Tryz.underlying3 (by kernel_rfl)) (Rds.cons (Rd.int .i64 Tryz.underlying3 (by kernel_rfl)) (Rds.cons (Rd.int .i64 Tryz.underlying3 (by kernel_rfl)) (Rds.cons (Rd.slice (Rd.byte Tryz.underlying5 (by kernel_rfl)) Tryz.underlying26 (by kernel_rfl)) (Rds.cons (Rd.bool Tryz.underlying4 (by kernel_rfl)) (Rds.cons (Rd.slice (Rd.bool Tryz.underlying4 (by kernel_rfl)) Tryz.underlying127 (by kernel_rfl)) (Rds.cons (Rd.slice (Rd.int .i64 Tryz.underlying3 (by kernel_rfl)) Tryz.underlying128 (by kernel_rfl)) (Rds.nil _ _) rfl rfl) rfl rfl) rfl rfl) rfl rfl) rfl rfl) rfl rfl) rfl rfl) rfl rfl) rfl rfl) rfl rfl) Tryz.underlying130 (by kernel_rfl)) Tryz.underlying72 (by kernel_rfl))
noncomputable def cpPlays_r3:Rd prog 26 (Sl UInt8):=(Rd.slice (Rd.byte Tryz.underlying5 (by kernel_rfl)) Tryz.underlying26 (by kernel_rfl))
noncomputable def cpPlays_r4:Rd prog 5 UInt8:=(Rd.byte Tryz.underlying5 (by kernel_rfl))
noncomputable def cpPlays_r5:Rd prog 5 UInt8:=(Rd.byte Tryz.underlying5 (by kernel_rfl))
noncomputable def cpPlays_r6:Rd prog 5 UInt8:=(Rd.byte Tryz.underlying5 (by kernel_rfl))
noncomputable def cpPlays_r7:Rd prog 48 (Sl ByteArray):=(Rd.slice (Rd.string Tryz.underlying9 (by kernel_rfl)) Tryz.underlying48 (by kernel_rfl))
end Go.Proofs.YtbppnhenlboefaaGreat.Av
namespace Go.Proofs.YtbppnhenlboefaaGreat
open Go.ChangeShapes Go.WideShapes Go.ChangeAt Go.RowKit
namespace cpPlays
set_option maxRecDepth 100000 in
theorem lifted (Q:∀(c:Int),Av.cpPlays_r0.ok c->∀(d:Int),Av.cpPlays_r1.ok d->∀(f:(Av.Sl (UInt8×(UInt8×(UInt8×(Int×(Int×(Int×((Av.Sl UInt8)×(Bool×((Av.Sl Bool)×((Av.Sl Int)×Unit)))))))))))),Av.cpPlays_r2.ok f->∀(g:(Av.Sl UInt8)),Av.cpPlays_r3.ok g->∀(i:UInt8),Av.cpPlays_r4.ok i->∀(k:UInt8),Av.cpPlays_r5.ok k->∀(l:UInt8),Av.cpPlays_r6.ok l->∀(n:(Av.Sl ByteArray)),Av.cpPlays_r7.ok n->Av.ACalls Tryz.prog 9 (Av.cpPlays_r0.enc c++Av.cpPlays_r1.enc d++Av.cpPlays_r2.enc f++Av.cpPlays_r3.enc g++Av.cpPlays_r4.enc i++Av.cpPlays_r5.enc k++Av.cpPlays_r6.enc l++Av.cpPlays_r7.enc n) [] λr _=>r=.lit (.bool true))(F:Os)(ao:F.Started)(H:Type)(enc:TypeId×Value->H):
  ReturnsInHanded {} Tryz.checked F 9 .any (Rows.cpPlaysSpec.pre6 enc Tryz.prog Tryz.f9 Rows.cpPlaysRow.domain false) (Rows.cpPlaysSpec.post enc Tryz.prog Tryz.f9 false true false false):=by
 refine returnsInHanded_of_change_sized (C:=Tryz.checked) Av.own ao (by kernel_rfl) Tryz.func9
  (ChangeSpec.witness6 (enc:=enc) (C:=Tryz.checked) false ⟨#[],#[.int .i64 0,.int .i64 0,.slice none 0 0,.slice none 0 0,.int .u8 0,.int .u8 0,.int .u8 0,.slice none 0 0],[]⟩ 8 (by kernel_rfl) (by kernel_rfl) (by kernel_rfl) (by kernel_rfl)) ?_
 intro W P args R gs az V E bc bf _;have b:∀(j:Nat) t v,Tryz.f9.params[j]?=some t->args[j]?=some v->Value.okWide Tryz.prog W .any P t v:=V;have U:=E;obtain⟨p,q,S,T,rfl,bd,be⟩:=E;have D:DataW.TrodAll enc Tryz.prog W 0 (λ_=>true) true Tryz.f9.params.toList args.toList R p:=S;rw[Tryz.params9]at D b;obtain⟨G,bi,d0,a3,p0,q0,bb,rfl,rfl,o,r0⟩:=trodAll_cons D;obtain⟨I,bj,d1,a4,p1,q1,rfl,rfl,rfl,s,r1⟩:=trodAll_cons r0;obtain⟨J,bk,d2,a5,p2,q2,rfl,rfl,rfl,u,r2⟩:=trodAll_cons r1;obtain⟨K,bl,d3,a6,p3,q3,rfl,rfl,rfl,w,r3⟩:=trodAll_cons r2;obtain⟨L,bm,d4,a7,p4,q4,rfl,rfl,rfl,y,r4⟩:=trodAll_cons r3;obtain⟨M,bn,d5,a8,p5,q5,rfl,rfl,rfl,z,r5⟩:=trodAll_cons r4;obtain⟨N,bo,d6,a9,p6,q6,rfl,rfl,rfl,A,r6⟩:=trodAll_cons r5;obtain⟨O,bp,d7,ba,p7,q7,rfl,rfl,rfl,B,r7⟩:=trodAll_cons r6;obtain⟨rfl,rfl,rfl⟩:=trodAll_nil r7;obtain rfl:args= #[G,I,J,K,L,M,N,O]:=by cases args;simp_all
 obtain⟨rfl,rfl⟩:=trodVars_none T;obtain⟨b0,rfl⟩:=okWide_int Tryz.underlying3 (b 0 3 G rfl rfl);have X:∀x∈p0,x.block<W.heap.size:=by obtain⟨m,a⟩:=o;exact DataW.trod_lt m _ _ _ a
 obtain⟨c,ag,ap⟩:=Av.cpPlays_r0.arg1 rfl o;obtain⟨b1,rfl⟩:=okWide_int Tryz.underlying3 (b 1 3 I rfl rfl);have Y:∀x∈p1,x.block<W.heap.size:=by obtain⟨m,a⟩:=s;exact DataW.trod_lt m _ _ _ a
 obtain⟨d,ah,aq⟩:=Av.cpPlays_r1.arg1 rfl s;obtain⟨b2,len2,a0,rfl⟩:=okWide_slice Tryz.underlying72 (b 2 72 J rfl rfl);have Z:∀x∈p2,x.block<W.heap.size:=by obtain⟨m,a⟩:=u;exact DataW.trod_lt m _ _ _ a
 obtain⟨f,ai,ar⟩:=Av.cpPlays_r2.arg1 rfl u;obtain⟨b3,bg,a1,rfl⟩:=okWide_slice Tryz.underlying26 (b 3 26 K rfl rfl);have aa:∀x∈p3,x.block<W.heap.size:=by obtain⟨m,a⟩:=w;exact DataW.trod_lt m _ _ _ a
 obtain⟨g,aj,au⟩:=Av.cpPlays_r3.arg1 rfl w;obtain⟨b4,rfl⟩:=okWide_int Tryz.underlying5 (b 4 5 L rfl rfl);have ab:∀x∈p4,x.block<W.heap.size:=by obtain⟨m,a⟩:=y;exact DataW.trod_lt m _ _ _ a
 obtain⟨i,ak,av⟩:=Av.cpPlays_r4.arg1 rfl y;obtain⟨b5,rfl⟩:=okWide_int Tryz.underlying5 (b 5 5 M rfl rfl);have ad:∀x∈p5,x.block<W.heap.size:=by obtain⟨m,a⟩:=z;exact DataW.trod_lt m _ _ _ a
 obtain⟨k,al,aw⟩:=Av.cpPlays_r5.arg1 rfl z;obtain⟨b6,rfl⟩:=okWide_int Tryz.underlying5 (b 6 5 N rfl rfl);have ae:∀x∈p6,x.block<W.heap.size:=by obtain⟨m,a⟩:=A;exact DataW.trod_lt m _ _ _ a
 obtain⟨l,am,ax⟩:=Av.cpPlays_r6.arg1 rfl A;obtain⟨b7,bh,a2,rfl⟩:=okWide_slice Tryz.underlying48 (b 7 48 O rfl rfl);have af:∀x∈p7,x.block<W.heap.size:=by obtain⟨m,a⟩:=B;exact DataW.trod_lt m _ _ _ a
 obtain⟨n,an,ay⟩:=Av.cpPlays_r7.arg1 rfl B;refine(Av.law_calls (Q c ag d ah f ai g aj i ak k al l am n an) W (((((((ap.append aq).append ar).append au).append av).append aw).append ax).append ay)).mono fun e W' ⟨he,bel⟩=>?_;subst he;exact⟨_,rfl,_,_,_,[],_,[],U,trodAll_mk1 (shut_bool Tryz.underlying4 _),(trodAll_cons_mk (Below.trod Av.laidOut (by kernel_rfl) (of_decide_eq_true (by kernel_rfl)) o bel X) (trodAll_cons_mk (Below.trod Av.laidOut (by kernel_rfl) (of_decide_eq_true (by kernel_rfl)) s bel Y) (trodAll_cons_mk (Below.trod Av.laidOut (by kernel_rfl) (of_decide_eq_true (by kernel_rfl)) u bel Z) (trodAll_cons_mk (Below.trod Av.laidOut (by kernel_rfl) (of_decide_eq_true (by kernel_rfl)) w bel aa) (trodAll_cons_mk (Below.trod Av.laidOut (by kernel_rfl) (of_decide_eq_true (by kernel_rfl)) y bel ab) (trodAll_cons_mk (Below.trod Av.laidOut (by kernel_rfl) (of_decide_eq_true (by kernel_rfl)) z bel ad) (trodAll_cons_mk (Below.trod Av.laidOut (by kernel_rfl) (of_decide_eq_true (by kernel_rfl)) A bel ae) (trodAll_cons_mk (Below.trod Av.laidOut (by kernel_rfl) (of_decide_eq_true (by kernel_rfl)) B bel af) trodAll_mk0)))))))),rfl,bel.frame _,λh=>by cases h⟩
end cpPlays
theorem cpPlays_of (i:∀(a:Int),Av.cpPlays_r0.ok a->∀(b:Int),Av.cpPlays_r1.ok b->∀(c:(Av.Sl (UInt8×(UInt8×(UInt8×(Int×(Int×(Int×((Av.Sl UInt8)×(Bool×((Av.Sl Bool)×((Av.Sl Int)×Unit)))))))))))),Av.cpPlays_r2.ok c->∀(d:(Av.Sl UInt8)),Av.cpPlays_r3.ok d->∀(e:UInt8),Av.cpPlays_r4.ok e->∀(f:UInt8),Av.cpPlays_r5.ok f->∀(g:UInt8),Av.cpPlays_r6.ok g->∀(h:(Av.Sl ByteArray)),Av.cpPlays_r7.ok h->Av.ACalls Tryz.prog 9 (Av.cpPlays_r0.enc a++Av.cpPlays_r1.enc b++Av.cpPlays_r2.enc c++Av.cpPlays_r3.enc d++Av.cpPlays_r4.enc e++Av.cpPlays_r5.enc f++Av.cpPlays_r6.enc g++Av.cpPlays_r7.enc h) [] λr _=>r=.lit (.bool true)):Rows.CpPlaysSaid:=
 OpenClaim.holds_of_wide 9 Tryz.f9 rfl rfl rfl rfl rfl rfl rfl ⟨rfl,rfl,rfl,rfl,rfl⟩ rfl rfl rfl rfl rfl (by kernel_rfl) Tryz.func9 (by kernel_rfl)
  (of_decide_eq_true (by kernel_rfl)) (by unfold Func.isWrapper;first | (rw[if_pos (by decide+kernel)];kernel_rfl) | (rw[if_neg (by decide+kernel)];exact⟨rfl,rfl⟩))
  (λos j H enc _=>cpPlays.lifted i os j H enc)
end Go.Proofs.YtbppnhenlboefaaGreat
end
section
set_option maxHeartbeats 4000000
namespace Go.Proofs.YtbppnhenlboefaaGreat.Av
open Go Go.RowKit Go.Proofs.Tryz
theorem Aye {C:(AV->AH->Prop)->Prop}{H:AH}{K:AV->AH->Prop}:gA true C H K=bA C K:=by unfold gA;exact Eq.refl _
theorem Ayf (a b:Int):P9 prog .neq 30 (fI a) (fI b)=some (B !(a==b&&true)):=by kernel_rfl
theorem Ayg (a:Int):P9 prog .neq 30 (fI a) (fI a)=some (B false):=by rw[Ayf];simp
theorem Ayh (x:Sl ByteArray)(a:x.nil=true->x.l=[]):SV BT 1 (x.l.map λy=>y.data.toList) (if x.nil then .lit (.slice none 0 0)else .imm (x.l.flatMap λy=>[AV.lit (.string y)]) x.l.length 1):=by
 obtain⟨l,nil⟩:=x;cases nil with
 | true=>
  have:=a rfl;simp only at this;subst this;exact SV.nil
 | false=>
  have e:(l.flatMap λy=>[AV.lit (.string y)])=(l.map λy=>y.data.toList).flatMap BT:=by rw[List.flatMap_map];refine congrArg (λf=>l.flatMap f) (funext λy=>?_);show [AV.lit (.string y)]=[S (Ax y.data.toList)];rw[Asm]
  have:=SV.imm (enc:=BT) (sz:=1) (l:=l.map λy=>y.data.toList) (λ_=>rfl) (λx _=>rfl);rw[<- e,Ak8]at this;exact this
def Aag:Nat->Nat
 | 0=>5000
 | 1=>50100
 | _=>501100
theorem Ayi {k:Nat}(h:k<2):4096<=Aag k/\Aag k<=50100/\Aag k+4+9*Aag k<=Aag (k+1):=by
 match k,h with
 | 0,_=>simp[Aag]
 | 1,_=>simp[Aag]
theorem cpPlays_calls (C:Int)(h0:cpPlays_r0.ok C)(E:Int)(h1:cpPlays_r1.ok E)(d:Sl xV)(u:cpPlays_r2.ok d)(e:Sl UInt8)(h3:cpPlays_r3.ok e)(o:UInt8)(h4:cpPlays_r4.ok o)(f:UInt8)(h5:cpPlays_r5.ok f)(j:UInt8)(h6:cpPlays_r6.ok j)(c:Sl ByteArray)(U:cpPlays_r7.ok c):
  Ba3 9 (cpPlays_r0.enc C++cpPlays_r1.enc E++cpPlays_r2.enc d++cpPlays_r3.enc e++cpPlays_r4.enc o++cpPlays_r5.enc f++cpPlays_r6.enc j++cpPlays_r7.enc c) [] λr _=>r=.lit (.bool true):=by
 have al:C<=9223372036854775807:=(Afg h0).2;have a0:E<=9223372036854775807:=(Afg h1).2;have a7:maxLen<=9223372036854775807:=by decide
 have a8:∀y∈d.l,Abt y:=λy W=>by have:=u.2.2 y W;exact⟨this.2.2.2.2.2.2.1.1,this.2.2.2.2.2.2.2.2.1.1,this.2.2.2.2.2.2.2.2.2.1.1,(Afg this.2.2.2.2.2.1).2⟩
 obtain⟨l,vl,bg,a6⟩:=Ay2 d u.1 a8 Aff (λ_ _=>rfl);have M:=Akp e h3.1;have H:=Ayh c U.1;have aj:(c.l.map λy=>y.data.toList).length<=9223372036854775807:=by rw[Ak8];have:=U.2.1;omega
 have ak:∀t∈(c.l.map λy=>y.data.toList),t.length<=9223372036854775807:=by intro t A;obtain⟨y,W,rfl⟩:=Am5.1 A;have:=U.2.2 y W;have h8:y.size<=maxLen:=this;show y.data.toList.length<=_;rw[An3];exact Al1 h8 a7
 show Ba3 9 [I C,I E,if d.nil then .lit (.slice none 0 0)else .imm (d.l.flatMap Aff) d.l.length 10,if e.nil then .lit (.slice none 0 0)else .imm (e.l.flatMap Ft) e.l.length 1,.lit (.int .u8 o.toNat),.lit (.int .u8 f.toNat),.lit (.int .u8 j.toNat),if c.nil then .lit (.slice none 0 0)else .imm (c.l.flatMap λy=>[AV.lit (.string y)]) c.l.length 1] [] _;have bf:=u.2.1;generalize (if d.nil then AV.lit (.slice none 0 0)else .imm (d.l.flatMap Aff) d.l.length 10)=v at vl;generalize (if e.nil then AV.lit (.slice none 0 0)else .imm (e.l.flatMap Ft) e.l.length 1)=bv at M;generalize (if c.nil then AV.lit (.slice none 0 0)else .imm (c.l.flatMap λy=>[AV.lit (.string y)]) c.l.length 1)=mv at H;generalize (c.l.map λy=>y.data.toList)=more at H aj ak;generalize e.l=b at M;have tf:(true==false)=false:=rfl;have ft:(false==true)=false:=rfl;refine VJ ?_;unfold Jk;refine Az (Axv vl (by omega) 15) ?_;by_cases K:Abk l 15;rotate_left
 ·simp only[K,Ag4,AJ,Af8,A7,tf,AT,ND];exact Az Xs rfl
 simp only[K,B3,AJ,Ad7,Ai5,M.len,C8,Ao];by_cases c2:(200:Int)<(b.length:Int)
 ·simp only[c2,Ad3,tf,AT,ND,Af];exact Az Xs rfl
 simp only[c2,B8,Do,Aa,V7];refine Az (Ay7 H aj ak 45) ?_;by_cases L:Abl more 45;rotate_left
 ·simp only[L,Ag4,Ag1,An];exact Az Xs rfl
 simp only[L,Ah8,Ag1,An];have bh:=K.1;have lm:=L.1;have am:=L.2;obtain⟨r,Y,⟨p,rfl,l1,an,g,ai⟩,a⟩:=Ajd C [] al;refine bC_of a ?_;obtain⟨r,H2,⟨rfl,l2,ab,g2⟩,a⟩:=Awr C Y al;refine bC_of a ?_;have e1:vA .eql pZ (.ptr ([]:AH).length 0) (.lit (.pointer none))=some (B false):=rfl;have F:=Awt an l1 ai ab g2;simp only[e1,Ai5,Aye];generalize ([]:AH).length=os at*;generalize Y.length=od at*;clear a g g2 l1 l2 an ab ai;refine⟨_,Ayd F (Aes C) vl (λx hx=>⟨K.2 x hx,a6 x hx⟩) (by omega) M (by omega) (by omega),?_⟩;rintro r H3 ⟨rfl,s,p',q',Q,w3⟩;simp only[AJ,Aa3,Ad1];obtain⟨r,H4,⟨rfl,ao,f4⟩,a⟩:=Aje Q.P E;refine bC_of a ?_;have S:=Q.stepP ao f4;obtain⟨r,H5,⟨rfl,ad,f5⟩,a⟩:=Akf S.D E;refine bC_of a ?_;have ag:=S.stepD ad f5;have w5:=Aet w3 a0;generalize yN s E=s5 at ag w5;clear a f5 f4 ad ao S Q F w3;have aa:(Ig f).length<=40/\(Ig j).length<=40:=by
  have:∀i,i<6->(rightT.getD i []).length<=40:=by decide
  unfold Ig;exact⟨this _ (At4 _ (by omega)),this _ (At4 _ (by omega))⟩
 have aL:=Ay9 o.toNat (Ig f) (Ig j);have aM:=Aya o.toNat (Ig f) (Ig j) (n:=40) (by omega) aa.1 aa.2;refine OO (λm y4 y5 y6 y7 aq ar au H'=>∃(k:Nat) (s:StS) (p q:AV),k+m=2/\y4=.lit (.int .u8 o.toNat)/\y5=.lit (.int .u8 f.toNat)/\y6=.lit (.int .u8 j.toNat)/\mv=y7/\aq=.ptr os 0/\ar=.ptr od 0/\au=I k/\Duo s s os od p q H'/\SW (Aag k) s) ?_ 2 ⟨0,_,_,_,by omega,rfl,rfl,rfl,rfl,rfl,rfl,rfl,ag,w5⟩;rintro m y4 y5 y6 y7 aq ar au Z R hR ⟨k,s,p,q,hk,rfl,rfl,rfl,rfl,rfl,rfl,rfl,F,J⟩;unfold IN;simp only[Ac1];rcases Aj5 k 2 with u | u;rotate_left
 ·simp only[show ¬((k:Int)<2) by omega,Aa8];exact Az Xs rfl
 obtain⟨b1,b2,b3⟩:=Ayi u;have q2:Ar .add (I (k:Int)) (I 1)=some (I ((k+1:Nat):Int)):=by rw[Au (by omega) (by omega)];congr 3
 have bi:=F.P.os_lt;have ba:=F.P.p_lt;simp only[show((k:Int)<2) by omega,Ab7];obtain⟨r,H7,⟨s7,o7,i7,g7⟩,a⟩:=Ayb o f j Z;refine bC_of a ?_;obtain⟨r2,O,a1,a2,a3,a4,a5⟩:=Adm g7 s7 o7 i7 (H.2 H7) (by omega) (by omega);have T:=F.grew a5
 have N:∀(x:AV) (w:List Tx),Ac O 1 x=some (w.flatMap BT,w.length)->(∀i∈Ba x,Z.length<=i)->w.length<=1000->(∀t∈w,t.length<=40)->
   Eo R (.lit (.int .u8 o.toNat)) (.lit (.int .u8 f.toNat)) (.lit (.int .u8 j.toNat)) mv (.ptr os 0) (.ptr od 0) (I k) x O λr _=>r=.lit (.bool true):=by
  intro x w X ix lx mx;rw[QX];unfold II;obtain⟨r,H9,⟨⟨hv,rfl⟩,rfl⟩,a⟩:=Ay8 T.D J (by omega);refine bC_of a ?_;rw[QZ];unfold IL;simp only[Af];cases hv with
  | true=>
   simp only[Am];exact Az Xs rfl
  | false=>
  simp only[Ag];rw[QY];unfold IJ;have V:∀i,(Ay s i).1.2.length<=Aag k:=λi=>CI J i;obtain⟨r,av,⟨rfl,a9,ay,ah⟩,a⟩:=Afb T.P J V b1 (by omega) X (λt A=>by have:=mx t A;omega) (by omega);refine bC_of a ?_;have ae:=T.stepP ay ah;have bc:Ac av 1 x=some (w.flatMap BT,w.length):=Ai X λi G=>ah.same i (A5 X i G) (by have:=ix i G;omega) λz=>by have:=ix i G;have:=ba i z;omega
  obtain⟨r,bd,⟨rfl,bb,az,aw⟩,a⟩:=Axi ae.D J V (by omega) bc (λt A=>by have:=mx t A;omega) (by omega);refine bC_of a ?_;have af:=ae.stepD az aw;have ap:=(Ajx J w V b1).mono (show _<=Aag (k+1) by omega);have b4:Aag (k+1)<=900000:=by
   match k,u with
   | 0,_=>simp[Aag]
   | 1,_=>simp[Aag]
  obtain⟨r,be,⟨rfl,ax⟩,a⟩:=Ay6 af ap b4;simp only[Ayg,Ai5,Hu];refine bC_of a ?_;simp only[AJ,Ad7,Aa,Ao];rw[Rc];unfold IM;simp only[Af,Ag];rw[QW];unfold IH;simp only[q2,Aa];exact hR (m - 1) _ _ _ _ _ _ _ _ (by omega) ⟨k+1,_,a9,bb,by omega,rfl,rfl,rfl,rfl,rfl,rfl,rfl,af.grew ax,ap⟩
 simp only[a1,A6,Bu,Aa5];by_cases ck:(k:Int)=1
 ·simp only[ck,Ab7]at N|-;exact N mv more (H.2 O) (λi G=>by rw[H.noId]at G;simp at G) (by omega) am
 ·simp only[ck,Aa8];refine N r2 _ a2 a4 ?_ ?_
  ·rw[Ak1];omega
  ·intro t A;rcases Am3.1 A with h | h
   ·exact aM t h
   ·exact am t h
end Go.Proofs.YtbppnhenlboefaaGreat.Av
namespace Go.Proofs.YtbppnhenlboefaaGreat
theorem cpPlays_holds:Rows.CpPlaysSaid:=cpPlays_of Av.cpPlays_calls
#print axioms cpPlays_holds
end Go.Proofs.YtbppnhenlboefaaGreat
end
