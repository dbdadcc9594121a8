/- The law and its row. No condition. -/
import Derived.Test.YtbppnhenlboefaaGreatMwJ
import Derived.Below
import Derived.Carry
import Derived.ChangeOld
import Derived.OpenShut
import Derived.ProofKit
import Derived.ShutString
import Derived.SizedLaws
import Derived.Test.YtbppnhenlboefaaGreatRows
import Derived.WalkKit
set_option linter.unusedVariables false
set_option linter.unusedSimpArgs false
set_option maxRecDepth 100000
section
namespace Go.Proofs.YtbppnhenlboefaaGreat.Av
open Go Go.RowKit Go.Proofs.Tryz
noncomputable def cpWrong_r0:Rd prog 5 UInt8:=(Rd.byte Tryz.underlying5 (by kernel_rfl))
noncomputable def cpWrong_r1:Rd prog 26 (Sl UInt8):=(Rd.slice (Rd.byte Tryz.underlying5 (by kernel_rfl)) Tryz.underlying26 (by kernel_rfl))
end Go.Proofs.YtbppnhenlboefaaGreat.Av
namespace Go.Proofs.YtbppnhenlboefaaGreat
open Go.ChangeShapes Go.WideShapes Go.ChangeAt Go.RowKit
namespace cpWrong
set_option maxRecDepth 100000 in
theorem lifted (calls:∀(x0:UInt8),Av.cpWrong_r0.ok x0→∀(x1:(Av.Sl UInt8)),Av.cpWrong_r1.ok x1→Av.ACalls Tryz.prog 7 (Av.cpWrong_r0.enc x0++Av.cpWrong_r1.enc x1) [] λr _=>r=.lit (.bool true))(os:Os)(started:os.Started)(H:Type)(enc:TypeId×Value→H):
  ReturnsInHanded {} Tryz.checked os 7 .any (Rows.cpWrongSpec.pre6 enc Tryz.prog Tryz.f7 Rows.cpWrongRow.domain false) (Rows.cpWrongSpec.post enc Tryz.prog Tryz.f7 false true false false):=by
 refine returnsInHanded_of_change_sized (C:=Tryz.checked) Av.own started (by kernel_rfl) Tryz.func7
  (ChangeSpec.witness6 (enc:=enc) (C:=Tryz.checked) false ⟨#[],#[.int .u8 0,.slice none 0 0],[]⟩ 8 (by kernel_rfl) (by kernel_rfl) (by kernel_rfl) (by kernel_rfl)) ?_
 intro W base args ds gs before hval0 hW hcnd hsz0 _;have hval:∀(j:Nat) t v,Tryz.f7.params[j]?=some t→args[j]?=some v→Value.okWide Tryz.prog W .any base t v:=hval0;have hW':=hW;obtain⟨p,q,hA0,hV,rfl,hfz,hnd⟩:=hW;have hA:DataW.TrodAll enc Tryz.prog W 0 (λ_=>true) true Tryz.f7.params.toList args.toList ds p:=hA0;rw[Tryz.params7]at hA hval;obtain⟨v0,vs0,d0,ds0,p0,q0,hargs,rfl,rfl,h0,r0⟩:=trodAll_cons hA;obtain⟨v1,vs1,d1,ds1,p1,q1,rfl,rfl,rfl,h1,r1⟩:=trodAll_cons r0;obtain⟨rfl,rfl,rfl⟩:=trodAll_nil r1;obtain rfl:args= #[v0,v1]:=by cases args;simp_all
 obtain⟨rfl,rfl⟩:=trodVars_none hV;obtain⟨b0,rfl⟩:=okWide_int Tryz.underlying5 (hval 0 5 v0 rfl rfl);have lt0:∀x∈p0,x.block<W.heap.size:=by obtain⟨m,hm⟩:=h0;exact DataW.trod_lt m _ _ _ hm
 obtain⟨x0,ok0,vr0⟩:=Av.cpWrong_r0.arg1 rfl h0;obtain⟨b1,len1,cap1,rfl⟩:=okWide_slice Tryz.underlying26 (hval 1 26 v1 rfl rfl);have lt1:∀x∈p1,x.block<W.heap.size:=by obtain⟨m,hm⟩:=h1;exact DataW.trod_lt m _ _ _ hm
 obtain⟨x1,ok1,vr1⟩:=Av.cpWrong_r1.arg1 rfl h1;refine(Av.law_calls (calls x0 ok0 x1 ok1) W (vr0.append vr1)).mono fun e W' ⟨he,bel⟩=>?_
 subst he;exact⟨_,rfl,_,_,_,[],_,[],hW',trodAll_mk1 (shut_bool Tryz.underlying4 _),(trodAll_cons_mk (Below.trod Av.laidOut (by kernel_rfl) (of_decide_eq_true (by kernel_rfl)) h0 bel lt0) (trodAll_cons_mk (Below.trod Av.laidOut (by kernel_rfl) (of_decide_eq_true (by kernel_rfl)) h1 bel lt1) trodAll_mk0)),rfl,bel.frame _,λh=>by cases h⟩
end cpWrong
theorem cpWrong_of (calls:∀(x0:UInt8),Av.cpWrong_r0.ok x0→∀(x1:(Av.Sl UInt8)),Av.cpWrong_r1.ok x1→Av.ACalls Tryz.prog 7 (Av.cpWrong_r0.enc x0++Av.cpWrong_r1.enc x1) [] λr _=>r=.lit (.bool true)):Rows.CpWrongSaid:=
 OpenClaim.holds_of_wide 7 Tryz.f7 rfl rfl rfl rfl rfl rfl rfl ⟨rfl,rfl,rfl,rfl,rfl⟩ rfl rfl rfl rfl rfl (by kernel_rfl) Tryz.func7 (by kernel_rfl)
  (of_decide_eq_true (by kernel_rfl)) (by unfold Func.isWrapper;first | (rw[if_pos (by decide+kernel)];kernel_rfl) | (rw[if_neg (by decide+kernel)];exact⟨rfl,rfl⟩))
  (λos started H enc _=>cpWrong.lifted calls os started H enc)
end Go.Proofs.YtbppnhenlboefaaGreat
end
section
set_option maxHeartbeats 2000000
namespace Go.Proofs.YtbppnhenlboefaaGreat.Av
open Go Go.RowKit Go.Proofs.Tryz
def rT:Tx:=[45,45,115,112,97,114,115,101]
def fJ:Tx:=rT++[61,115,111,109,101]
def fI:Tx:=rT++[61,97,117,116,111]
def wrongL:List (List Tx):=[[],[[97]],[[97],[97]],[[97],[98],[99]],[fJ,[97],[98]],[rT,[97],[98]],[[45,112],[97],[98]],[[45,45,102,111,114,99,101],[97],[98]],[fJ,fI,[97],[98]],[fI,[97]],[rT++[61],[97],[98]]]
def T4:List AV:=[.sl 0 0 0 1 (.ex 0),.sl 1 0 1 1 (.ex 1),.sl 2 0 2 1 (.ex 2),.sl 3 0 3 1 (.ex 3),.sl 4 0 3 1 (.ex 3),.sl 5 0 3 1 (.ex 3),.sl 6 0 3 1 (.ex 3),.sl 7 0 3 1 (.ex 3),.sl 8 0 4 1 (.ex 4),.sl 9 0 2 1 (.ex 2),.sl 10 0 3 1 (.ex 3)]
def wrongH:AH:=wrongL.map (λl=>some (.cells (l.flatMap Dj)))++[some (.cells T4)]
theorem fT:∀k:Nat,k<11→∃l:List Tx,wrongH[k]?=some (some (.cells (l.flatMap Dj)))∧T4[k]?=some (.sl k 0 l.length 1 (.ex l.length))∧l∈wrongL
 | 0,_=>⟨_,rfl,rfl,by simp[wrongL]⟩
 | 1,_=>⟨_,rfl,rfl,by simp[wrongL]⟩
 | 2,_=>⟨_,rfl,rfl,by simp[wrongL]⟩
 | 3,_=>⟨_,rfl,rfl,by simp[wrongL]⟩
 | 4,_=>⟨_,rfl,rfl,by simp[wrongL]⟩
 | 5,_=>⟨_,rfl,rfl,by simp[wrongL]⟩
 | 6,_=>⟨_,rfl,rfl,by simp[wrongL]⟩
 | 7,_=>⟨_,rfl,rfl,by simp[wrongL]⟩
 | 8,_=>⟨_,rfl,rfl,by simp[wrongL]⟩
 | 9,_=>⟨_,rfl,rfl,by simp[wrongL]⟩
 | 10,_=>⟨_,rfl,rfl,by simp[wrongL]⟩
 | k+11,h=>absurd h (by omega)
theorem Yp:wrongL.all (λl=>(Jh l).isNone&&decide (l.length≤4)&&l.all λt=>decide (t.length≤100))=true:=by kernel_rfl
theorem fU {l:List Tx}(h:l∈wrongL):Jh l=none∧l.length≤4∧∀t∈l,t.length≤100:=by
 have:=vQ.1 Yp l h
 simpa[Option.isNone_iff_eq_none,and_assoc]using this
theorem jS:(Jh [[99],[98]]).map (·.1)=some [99]:=by kernel_rfl
theorem Wz {s:StS}{l:List Tx}(h:Jh l=none):Wx s l=(2,s):=by unfold Wx;rw[h]
theorem Wy {s:StS}(h:Gq s [99]=(0,3)):Wx s [[99],[98]]=(3,s):=by
 have e:=jS;unfold Wx
 split
 ·rename_i q;rw[q]at e;cases e
 ·rename_i a b w q
  rw[q]at e;injection e with e;obtain rfl:a=[99]:=e;rw[eF,h];rfl
theorem Txr.miss {cap:Nat}{t:List UInt8}{s:StS}(h:Txr [97] cap t s):Gq s [99]=(0,3):=by
 obtain⟨l,h1,-⟩:=h.h;unfold Gq;rw[if_neg (by rw[h1.off];simp),if_neg (λq=>q (by decide)),if_neg (by rw[h1.now];simp[I2,AO])]
theorem X2 {s:StS}{os:Nat}{p:AV}{H:AH}(h:StAt s os p H):BCall prog 25 [.ptr os 0] H (I s.pend.length) H:=by
 obtain⟨r,H',⟨rfl,rfl⟩,hc⟩:=Kv (a0:=.ptr os 0) (H:=H) (K:=λr H'=>r=I s.pend.length∧H'=H) (by
  obtain⟨a,b,c,d,pv,h⟩:=h;have hpn:pv.length=s.pend.length:=by rw[← h.pm,wB]
  have alv:AW p=some (I (s.pend.length:Nat)):=by rw[← hpn];exact B4 h.ps
  unfold Hu;simp only[tY,Aj h.obj,alv];exact⟨by trivial,by trivial⟩)
 exact hc
theorem kU {N:Nat}{s:StS}{os:Nat}{p:AV}{H:AH}(h:StAt s os p H)(hw:SW N s)(hN:N≤900000):∃R,ImV s.now.1 s.now.2 R∧∀H1,Grew H H1→∃r H',(r=R∧Grew H1 H')∧BCall prog 14 [.ptr os 0] H1 r H':=by
 obtain⟨a,b,c,d,pv,h⟩:=h;obtain⟨R,hR,hp⟩:=aO h.now (hw.now.sm (by omega));refine⟨R,hR,λH1 g0=>Iv ?_⟩;unfold Hl;obtain⟨a',b',rfl,oa,ob⟩:=hR.agg2;have e1:A5 H1 (.agg [Ac,Ac])=some (.ptr H1.length 0,H1++[some (.cells [Ac,Ac])]):=by simp
 have g:=Grew.app H1 [some (.cells [Ac,Ac])]
 have e2:AS 2 (H1++[some (.cells [Ac,Ac])]) (.ptr H1.length 0) (.agg [a',b'])=some (H1++[some (.cells [a',b'])]):=by
  rw[A7 (n:=2) (xs:=[a',b']) (cs:=[Ac,Ac]) (by simp[oa,ob]) (by simp) rfl (by simp)];simp[AK]
 simp only[e1,Az,uT,Aj (g.cells (g0.cells h.obj)),(kL _ _ _ _ _ _ _ _ _).1];refine A1 hp ?_;simp only[e2,AB,Aj CT,nJ,Ab];exact⟨by trivial,Grew.app _ _⟩
theorem nC:(AY (OV 30) [97] true).1=(1,0)∧Txr [97] 30 [] (AY (OV 30) [97] true).2∧KP (AY (OV 30) [97] true).2:=by
 refine⟨rfl,⟨[],⟨by decide,by decide,by decide,rfl,rfl,rfl⟩,by simp,by simp[BT]⟩,⟨by decide,by decide⟩⟩
theorem wl0 (H:AH):Cg H 1 0 (AZ [(.lit (.string ⟨#[]⟩))] 0) []=some (.sl H.length 0 0 1 (.ex 0),H++[some (.cells [])]):=rfl
theorem wl1 (H:AH)(a:ByteArray):Cg H 1 1 (AZ [(.lit (.string ⟨#[]⟩))] 1) [(0,1,(.lit (.string a)))]=some (.sl H.length 0 1 1 (.ex 1),H++[some (.cells [.lit (.string a)])]):=rfl
theorem wl2 (H:AH)(a b:ByteArray):Cg H 1 2 (AZ [(.lit (.string ⟨#[]⟩))] 2) [(0,1,(.lit (.string a))),(1,1,(.lit (.string b)))]=some (.sl H.length 0 2 1 (.ex 2),H++[some (.cells [.lit (.string a),.lit (.string b)])]):=rfl
theorem wl3 (H:AH)(a b c:ByteArray):Cg H 1 3 (AZ [(.lit (.string ⟨#[]⟩))] 3) [(0,1,(.lit (.string a))),(1,1,(.lit (.string b))),(2,1,(.lit (.string c)))]=some (.sl H.length 0 3 1 (.ex 3),H++[some (.cells [.lit (.string a),.lit (.string b),.lit (.string c)])]):=rfl
theorem wl4 (H:AH)(a b c d:ByteArray):Cg H 1 4 (AZ [(.lit (.string ⟨#[]⟩))] 4) [(0,1,(.lit (.string a))),(1,1,(.lit (.string b))),(2,1,(.lit (.string c))),(3,1,(.lit (.string d)))]=some (.sl H.length 0 4 1 (.ex 4),H++[some (.cells [.lit (.string a),.lit (.string b),.lit (.string c),.lit (.string d)])]):=rfl
theorem sT (H:AH):Cg H 1 11 (AZ [Ac] 11) [(0,1,.sl 0 0 0 1 (.ex 0)),(1,1,.sl 1 0 1 1 (.ex 1)),(2,1,.sl 2 0 2 1 (.ex 2)),(3,1,.sl 3 0 3 1 (.ex 3)),(4,1,.sl 4 0 3 1 (.ex 3)),(5,1,.sl 5 0 3 1 (.ex 3)),(6,1,.sl 6 0 3 1 (.ex 3)),(7,1,.sl 7 0 3 1 (.ex 3)),(8,1,.sl 8 0 4 1 (.ex 4)),(9,1,.sl 9 0 2 1 (.ex 2)),(10,1,.sl 10 0 3 1 (.ex 3))]=some (.sl H.length 0 11 1 (.ex 11),H++[some (.cells T4)]):=rfl
theorem Rx (H:AH)(e:Int):A5 H (.agg [(I 0),(.lit (.string ⟨#[]⟩)),(I 0),(I 0),(I 0),(I 0),(I 0)])=some (.ptr H.length 0,H++[some (.cells [I 0,S (As []),I 0,I 0,I 0,I 0,I 0])])∧AS 7 (H++[some (AObj.cells [I 0,S (As []),I 0,I 0,I 0,I 0,I 0])]) (.ptr H.length 0) (La e)=some (H++[some (.cells [I e,S (As []),I 0,I 0,I 0,I 0,I 0])]):=by
 refine⟨rfl,?_⟩;unfold La;rw[A7 (n:=7) (xs:=[I e,S (As []),I 0,I 0,I 0,I 0,I 0]) (cs:=[I 0,S (As []),I 0,I 0,I 0,I 0,I 0]) (by simp[BA,oneA]) CT rfl (by simp)];simp[AK]
theorem iW:Ha prog .eql 30 (La 2) (La 2)=some (B true):=by kernel_rfl
theorem iX:Ha prog .eql 30 (La 3) (La 3)=some (B true):=by kernel_rfl
theorem iY (e:Int):FC [(I 0),(.lit (.string ⟨#[]⟩)),(I 0),(I 0),(I 0),(I 0),(I 0)] [(0,1,(.lit (.int .i64 e)))]=some (La e):=rfl
theorem aK {s:StS}{os m c1 c2:Nat}{p R na nb:AV}{H:AH}(st:StAt s os p H)(hw:SW 4096 s)(hd:Done s)(hR:ImV s.now.1 s.now.2 (.agg [na,nb]))(hm:H[m]?=some (some (.cells [na,nb])))
  (h1:H[c1]?=some (some (.cells [I 2,S (As []),I 0,I 0,I 0,I 0,I 0]))) (h2:H[c2]?=some (some (.cells [I 3,S (As []),I 0,I 0,I 0,I 0,I 0]))):
  CA (.ptr os 0) (.ptr m 0) (.ptr c1 0) (.ptr c2 0) H λr _=>r=.lit (.bool true):=by
 obtain⟨A,hA,fA⟩:=kU st hw (by omega);have s1:=kW hA hR (hw.now.sm (by omega));rw[show decide (UG s.now.1 s.now.2 s.now.1 s.now.2)=true from decide_eq_true ⟨rfl,rfl⟩]at s1;have same:∀{Hc:AH} {x y:AV} {K:AV→AH→Prop},BPure prog 24 [x,y] (B true)→K (B true) Hc→ACalls prog 24 [x,y] Hc K:=λhp hk=>ACalls.mono (hp _) (by rintro r H' ⟨rfl,rfl⟩;exact hk)
 have call:∀{Hc H':AH} {f:FuncId} {az:List AV} {x:AV} {K:AV→AH→Prop},BCall prog f az Hc x H'→K x H'→ACalls prog f az Hc K:=λhc hk=>ACalls.mono hc (by rintro r H' ⟨rfl,rfl⟩;exact hk)
 let V:Nat→AV:=λn=>([La 2,La 2,B true,B true,La 3,La 3,B true,B true,B true,.ptr os 0,A,.agg [na,nb],B true,B true,B true,.ptr os 0,I 0,B true,B true,B true,B true,B true,B true]:List AV).getD n A6
 have pk:∀x:AV,AC (B true) x (B false)=some x:=λ_=>rfl
 have e2:=iW;have e3:=iX;refine Hj _ _ _ _ V (λ_ Hc=>Grew H Hc) (Grew.refl H) ?_ ?_
 ·intro i hi S vals Hc hS cl hn' g
  have hv':∀j,j∈salvorlaw30_CpWrong_U10Need.getD i []→vals j=V j:=λj hj=>(hn' j hj).2
  have l0:Ar true 2 Hc (.ptr m 0)=some (.agg [na,nb]):=by rw[Aj (g.cells hm)];rfl
  have l1:Ar true 7 Hc (.ptr c1 0)=some (La 2):=by rw[Aj (g.cells h1)];rfl
  have l2:Ar true 7 Hc (.ptr c2 0)=some (La 3):=by rw[Aj (g.cells h2)];rfl
  have hcase:i=0∨i=1∨i=2∨i=3∨i=4∨i=5∨i=6∨i=7∨i=8∨i=9∨i=10∨i=11∨i=12∨i=13∨i=14∨i=15∨i=16∨i=17∨i=18∨i=19∨i=20∨i=21∨i=22:=by omega
  rcases hcase with rfl | rfl | rfl | rfl | rfl | rfl | rfl | rfl | rfl | rfl | rfl | rfl | rfl | rfl | rfl | rfl | rfl | rfl | rfl | rfl | rfl | rfl | rfl
  all_goals simp only[Cx,salvorlaw30_CpWrong_U10Need,An,uF,List.not_mem_nil,or_false,forall_eq,false_implies,forall_const]at hv'⊢
  all_goals (try simp only[hv',l0,l1,l2,iY,Ab]);(try simp only[V,An,pk,e2,e3,Ab,FN,DS,true_and])
  all_goals first
   | exact⟨rfl,g⟩
   | exact g
   | exact same s1 ⟨rfl,g⟩
   | skip
  ·obtain⟨r,H',⟨rfl,g'⟩,hc⟩:=fA Hc g
   exact call hc ⟨rfl,g.trans g'⟩
  ·exact call (X2 (st.grew g)) ⟨by rw[hd.p];rfl,g⟩
  ·exact ACalls.mono (Ww _) (by rintro r H' ⟨rfl,rfl⟩;exact⟨rfl,g⟩)
 ·intro S vals H' hS g
  rw[Ip];unfold ER;rw[(hS 22 (by omega)).2];rfl
theorem cpWrong_calls (x0:UInt8)(h0:cpWrong_r0.ok x0)(x1:Sl UInt8)(h1:cpWrong_r1.ok x1):
  ACalls prog 7 (cpWrong_r0.enc x0++cpWrong_r1.enc x1) [] λr _=>r=.lit (.bool true):=by
 have hv:SV N2 1 x1.l (if x1.nil then .lit (.slice none 0 0)else .imm (x1.l.flatMap N2) x1.l.length 1):=by
  have hn:=h1.1;cases hnil:x1.nil with
  | true=>simp only[if_true];rw[hn hnil];exact SV.nil
  | false=>simp only[At];exact SV.imm (λ_=>rfl) (λx hx=>rfl)
 show ACalls prog 7 [.lit (.int .u8 x0.toNat),if x1.nil then .lit (.slice none 0 0)else .imm (x1.l.flatMap N2) x1.l.length 1] [] _
 generalize (if x1.nil then AV.lit (.slice none 0 0)else .imm (x1.l.flatMap N2) x1.l.length 1)=v at hv;generalize x1.l=A at*;have hx:x0.toNat<256:=x0.toNat_lt;generalize x0.toNat=n at*;refine Kt ?_;unfold EU;simp only[hv.len,Ab,Mi]
 by_cases k0:(100:Int)<(A.length:Int)
 ·simp only[k0,tH,Ag]
  exact A1 Ww (by trivial)
 simp only[k0,tC,Ag,wl0,wl1,wl2,wl3,wl4,Az,tJ,sW,xW,Nat.reduceAdd,sT];obtain⟨r,H1,⟨p,rfl,ll1,st0,g0,hid⟩,hc⟩:=jV 30 wrongH (by omega);refine bC_of hc ?_;obtain⟨l,q1,q2,q3⟩:=fT (n % 11) (by omega);obtain⟨w1,w2,w3⟩:=fU q3;have hO:wrongH[11]?=some (some (.cells T4)):=rfl;have os12:wrongH.length=12:=rfl;have bl:Bes (n % 11) (l.flatMap Dj) wrongH.length p H1:=⟨g0.cells q1,by omega,by rw[hid];simp⟩;have bo:Bes 11 T4 wrongH.length p H1:=⟨g0.cells hO,by omega,by rw[hid];simp⟩;clear g0 q1 hO;generalize wrongH.length=os at*;have n1:UQ .eql SP (.ptr os 0) (.lit (.pointer none))=some (B false):=rfl;simp only[n1,tO,Ba,sX,Ua (SV.oneA hv),Az];have g2:=Grew.app H1 [some (AObj.cells [v])];obtain⟨o1,o2,o3⟩:=nC;obtain⟨cA1,cA2,cA3⟩:=Oj (bl:=[(v,A)]) (by simp;omega);have fA:(([(v,A)]:List (AV×List UInt8)).map Prod.snd).flatten=A:=by simp
 rw[fA]at cA1 cA3;obtain⟨s1,t1,t2,t3⟩:=eO (l:=([(v,A)]:List (AV×List UInt8)).flatMap λx=>BZ x.2) o1 o2 o3 (by omega) cA2 (by omega);have u1:=YV (V1 30) [97] (([(v,A)]:List (AV×List UInt8)).flatMap λx=>BZ x.2);have iv:=hv.noId;have lo0:=st0.os_lt
 refine⟨_,jW (nm:=[97]) (bl:=[(v,A)]) (st0.grew g2) (V1 30) (by simp) (by simp[Aa]) (by intro j hj;simp[AR]at hj;subst hj;rw[hid];exact⟨by omega,by simp⟩) (by
  intro x hx;simp only[xA]at hx;subst hx;exact⟨hv.bytes _,SV.oneA hv,by simp only;omega,by simp only[iv];simp⟩) (by simp) (by rw[cA3];omega),?_⟩
 rw[t1];rw[t1]at u1;rintro r H2 ⟨p2,rfl,st2,f2⟩;have u1:SW 4096 s1:=u1.mono (by rw[cA3];omega);have bl:=(bl.grew g2).step f2;have bo:=(bo.grew g2).step f2;clear f2 g2 st0 lo0 hid ll1 hc;simp only[uM,sU,tC,uC];obtain⟨R,hR,r,H3,⟨rfl,g3⟩,hc⟩:=aT st2 u1 (by omega);refine bC_of hc ?_;obtain⟨na,nb,rfl,ona,onb⟩:=hR.agg2;have m1:A5 H3 (.agg [Ac,Ac])=some (.ptr H3.length 0,H3++[some (.cells [Ac,Ac])]):=by simp
 have m2:AS 2 (H3++[some (AObj.cells [Ac,Ac])]) (.ptr H3.length 0) (.agg [na,nb])=some (H3++[some (.cells [na,nb])]):=by
  rw[A7 (n:=2) (xs:=[na,nb]) (cs:=[Ac,Ac]) (by simp[ona,onb]) CT rfl (by simp)];simp[AK]
 simp only[m1,tV,m2];have st3:=st2.grew g3;have g4:=Grew.app H3 [some (AObj.cells [na,nb])];have bm:=Bes.new st3 [na,nb];have st4:=st3.grew g4;have bl:=(bl.grew g3).grew g4;have bo:=(bo.grew g3).grew g4;clear g3 hc m1 m2;generalize (H3++[some (AObj.cells [na,nb])])=H4 at*;generalize H3.length=m at*;have c1:Yw .i64 (.lit (.int .u8 (n:Int)))=some (I n):=Rl (by omega) (by omega);have c2:AW (.sl 11 0 11 1 (.ex 11))=some (I 11):=rfl;have c3:Ay .rem (I (n:Int)) (I 11)=some (I ((n % 11:Nat):Int)):=by rw[Yv (by omega) (by omega)];rfl
 have c4:Bk 1 (.sl 11 0 11 1 (.ex 11)) (I ((n % 11:Nat):Int))=some (.ptr 11 (n % 11)):=by
  have:n % 11<11:=by omega
  have e:(0:Int)≤((n % 11:Nat):Int)∧((n % 11:Nat):Int)<((11:Nat):Int):=⟨by omega,by omega⟩
  show(if(0:Int)≤((n % 11:Nat):Int)∧((n % 11:Nat):Int)<((11:Nat):Int)then some (AV.ptr 11 (0+((n % 11:Nat):Int).toNat*1))else none)=_
  rw[if_pos e,yB,xW,xI]
 have c5:Ar false 1 H4 (.ptr 11 (n % 11))=some (.sl (n % 11) 0 l.length 1 (.ex l.length)):=by rw[Aj bo.at',Ah,q2]
 simp only[c1,c2,c3,c4,c5,Ab]
 have v4:Aa H4 1 (.sl (n % 11) 0 l.length 1 (.ex l.length))=some (l.flatMap Dj,l.length):=by
  have e:∀l:List Tx,(l.flatMap Dj).length=l.length:=λl=>by
   induction l with
   | nil=>rfl
   | cons a l ih=>simp[Dj,ih]
  rw[A9 bl.at' (by rw[e];omega),vZ,xI,vA (by rw[e];omega)]
 obtain⟨r,H5,⟨rfl,p5,st5,f5⟩,hc⟩:=Ys (Bd:=4096) (l:=l) st4 u1 (HU u1 λd hd=>u1.now.2 d hd) (by omega) (by omega) v4 (λt ht=>by have:=w3 t ht;omega) (by omega);refine bC_of hc ?_;rw[Wz w1]at st5;rw[Wz w1];have bm:=bm.step f5;clear f5 hc st4 v4 c5 bl bo;simp only[(Rx _ 2).1,(Rx _ 2).2,tV];have ba:=Bes.new st5 [I 2,S (As []),I 0,I 0,I 0,I 0,I 0];have g6:=Grew.app H5 [some (AObj.cells [I 2,S (As []),I 0,I 0,I 0,I 0,I 0])];have st6:=st5.grew g6;have bm:=bm.grew g6;clear g6 st5;generalize (H5++[some (AObj.cells [I 2,S (As []),I 0,I 0,I 0,I 0,I 0])])=H6 at*;generalize H5.length=ca at*;have lC:Cg H6 1 2 (AZ [(.lit (.string ⟨#[]⟩))] 2) [(0,1,(.lit (.string ⟨#[99]⟩))),(1,1,(.lit (.string ⟨#[98]⟩)))]=some (.sl H6.length 0 2 1 (.ex 2),H6++[some (.cells ([[99],[98]].flatMap Dj))]):=rfl
 try simp only[lC,Az]
 have g7:=Grew.app H6 [some (AObj.cells ([[99],[98]].flatMap Dj))]
 have v7:Aa (H6++[some (AObj.cells ([[99],[98]].flatMap Dj))]) 1 (.sl H6.length 0 2 1 (.ex 2))=some ([[99],[98]].flatMap Dj,([[99],[98]]:List Tx).length):=by
  rw[A9 CT (by simp[Dj])];rfl
 have st7:=st6.grew g7;have bm:=bm.grew g7;have ba:=ba.grew g7;obtain⟨r,H8,⟨rfl,p8,st8,f8⟩,hc⟩:=Ys (Bd:=4096) (l:=[[99],[98]]) st7 u1 (HU u1 λd hd=>u1.now.2 d hd) (by omega) (by omega) v7 (by simp) (by simp);refine bC_of hc ?_;rw[Wy t2.miss]at st8;rw[Wy t2.miss];have bm:=bm.step f8;have ba:=ba.step f8;simp only[(Rx _ 3).1,(Rx _ 3).2,tV];have bb:=Bes.new st8 [I 3,S (As []),I 0,I 0,I 0,I 0,I 0];have g9:=Grew.app H8 [some (AObj.cells [I 3,S (As []),I 0,I 0,I 0,I 0,I 0])];exact aK (R:=Ac) (st8.grew g9) u1 t3 hR (bm.grew g9).at' (ba.grew g9).at' bb.at'
end Go.Proofs.YtbppnhenlboefaaGreat.Av
namespace Go.Proofs.YtbppnhenlboefaaGreat
theorem cpWrong_holds:Rows.CpWrongSaid:=cpWrong_of Av.cpWrong_calls
#print axioms cpWrong_holds
end Go.Proofs.YtbppnhenlboefaaGreat
end
