/- The law and its row. No condition. -/
import Derived.Test.YtijoffokpjbnjaaMiF
import Derived.Below
import Derived.Carry
import Derived.ChangeOld
import Derived.OpenShut
import Derived.ProofKit
import Derived.ShutString
import Derived.SizedLaws
import Derived.Test.YtijoffokpjbnjaaRows
import Derived.WalkKit
set_option linter.unusedVariables false
set_option linter.unusedSimpArgs false
set_option maxRecDepth 100000
section
namespace Go.Proofs.Ytijoffokpjbnjaa.Av
open Go Go.RowKit Go.Proofs.Try
noncomputable def imageTells_r0:Rd prog 25 ((Sl (ByteArray×(Int×Unit)))×((Sl (Int×((Int×((Sl (Int×((List UInt8)×Unit)))×Unit))×Unit)))×Unit)):=(Rd.struct (Rds.cons (Rd.slice (Rd.struct (Rds.cons (Rd.string Try.underlying9 (by kernel_rfl)) (Rds.cons (Rd.int .i64 Try.underlying3 (by kernel_rfl)) (Rds.nil _ _) rfl rfl) rfl rfl) Try.underlying47 (by kernel_rfl)) Try.underlying22 (by kernel_rfl)) (Rds.cons (Rd.slice (Rd.struct (Rds.cons (Rd.int .i64 Try.underlying3 (by kernel_rfl)) (Rds.cons (Rd.struct (Rds.cons (Rd.int .i64 Try.underlying3 (by kernel_rfl)) (Rds.cons (Rd.slice (Rd.struct (Rds.cons (Rd.int .i64 Try.underlying3 (by kernel_rfl)) (Rds.cons (Rd.array 8 (Rd.byte Try.underlying5 (by kernel_rfl)) Try.underlying57 (by kernel_rfl)) (Rds.nil _ _) rfl rfl) rfl rfl) Try.underlying59 (by kernel_rfl)) Try.underlying30 (by kernel_rfl)) (Rds.nil _ _) rfl rfl) rfl rfl) Try.underlying32 (by kernel_rfl)) (Rds.nil _ _) rfl rfl) rfl rfl) Try.underlying41 (by kernel_rfl)) Try.underlying23 (by kernel_rfl)) (Rds.nil _ _) rfl rfl) rfl rfl) Try.underlying25 (by kernel_rfl))
noncomputable def imageTells_r1:Rd prog 25 ((Sl (ByteArray×(Int×Unit)))×((Sl (Int×((Int×((Sl (Int×((List UInt8)×Unit)))×Unit))×Unit)))×Unit)):=(Rd.struct (Rds.cons (Rd.slice (Rd.struct (Rds.cons (Rd.string Try.underlying9 (by kernel_rfl)) (Rds.cons (Rd.int .i64 Try.underlying3 (by kernel_rfl)) (Rds.nil _ _) rfl rfl) rfl rfl) Try.underlying47 (by kernel_rfl)) Try.underlying22 (by kernel_rfl)) (Rds.cons (Rd.slice (Rd.struct (Rds.cons (Rd.int .i64 Try.underlying3 (by kernel_rfl)) (Rds.cons (Rd.struct (Rds.cons (Rd.int .i64 Try.underlying3 (by kernel_rfl)) (Rds.cons (Rd.slice (Rd.struct (Rds.cons (Rd.int .i64 Try.underlying3 (by kernel_rfl)) (Rds.cons (Rd.array 8 (Rd.byte Try.underlying5 (by kernel_rfl)) Try.underlying57 (by kernel_rfl)) (Rds.nil _ _) rfl rfl) rfl rfl) Try.underlying59 (by kernel_rfl)) Try.underlying30 (by kernel_rfl)) (Rds.nil _ _) rfl rfl) rfl rfl) Try.underlying32 (by kernel_rfl)) (Rds.nil _ _) rfl rfl) rfl rfl) Try.underlying41 (by kernel_rfl)) Try.underlying23 (by kernel_rfl)) (Rds.nil _ _) rfl rfl) rfl rfl) Try.underlying25 (by kernel_rfl))
noncomputable def imageTells_r2:Rd prog 9 ByteArray:=(Rd.string Try.underlying9 (by kernel_rfl))
noncomputable def imageTells_r3:Rd prog 3 Int:=(Rd.int .i64 Try.underlying3 (by kernel_rfl))
end Go.Proofs.Ytijoffokpjbnjaa.Av
namespace Go.Proofs.Ytijoffokpjbnjaa
open Go.ChangeShapes Go.WideShapes Go.ChangeAt Go.RowKit
namespace imageTells
set_option maxRecDepth 100000 in
theorem lifted (calls:∀(x0:((Av.Sl (ByteArray×(Int×Unit)))×((Av.Sl (Int×((Int×((Av.Sl (Int×((List UInt8)×Unit)))×Unit))×Unit)))×Unit))),Av.imageTells_r0.ok x0→∀(x1:((Av.Sl (ByteArray×(Int×Unit)))×((Av.Sl (Int×((Int×((Av.Sl (Int×((List UInt8)×Unit)))×Unit))×Unit)))×Unit))),Av.imageTells_r1.ok x1→∀(x2:ByteArray),Av.imageTells_r2.ok x2→∀(x3:Int),Av.imageTells_r3.ok x3→Av.ACalls Try.prog 3 ([.agg (Av.imageTells_r0.enc x0)]++[.agg (Av.imageTells_r1.enc x1)]++Av.imageTells_r2.enc x2++Av.imageTells_r3.enc x3) [] λr _=>r=.lit (.bool true))(os:Os)(started:os.Started)(H:Type)(enc:TypeId×Value→H):
  ReturnsInHanded {} Try.checked os 3 .any (Rows.imageTellsSpec.pre6 enc Try.prog Try.f3 Rows.imageTellsRow.domain false) (Rows.imageTellsSpec.post enc Try.prog Try.f3 false true false false):=by
 refine returnsInHanded_of_change_sized (C:=Try.checked) Av.own started (by kernel_rfl) Try.func3
  (ChangeSpec.witness6 (enc:=enc) (C:=Try.checked) false ⟨#[],#[.agg #[.slice none 0 0,.slice none 0 0],.agg #[.slice none 0 0,.slice none 0 0],.string ByteArray.empty,.int .i64 0],[]⟩ 8 (by kernel_rfl) (by kernel_rfl) (by kernel_rfl) (by kernel_rfl)) ?_
 intro W base args ds gs before hval0 hW hcnd hsz0 _;have hval:∀(j:Nat) t v,Try.f3.params[j]?=some t→args[j]?=some v→Value.okWide Try.prog W .any base t v:=hval0;have hW':=hW;obtain⟨p,q,hA0,hV,rfl,hfz,hnd⟩:=hW;have hA:DataW.TrodAll enc Try.prog W 0 (λ_=>true) true Try.f3.params.toList args.toList ds p:=hA0;rw[Try.params3]at hA hval;obtain⟨v0,vs0,d0,ds0,p0,q0,hargs,rfl,rfl,h0,r0⟩:=trodAll_cons hA;obtain⟨v1,vs1,d1,ds1,p1,q1,rfl,rfl,rfl,h1,r1⟩:=trodAll_cons r0;obtain⟨v2,vs2,d2,ds2,p2,q2,rfl,rfl,rfl,h2,r2⟩:=trodAll_cons r1;obtain⟨v3,vs3,d3,ds3,p3,q3,rfl,rfl,rfl,h3,r3⟩:=trodAll_cons r2;obtain⟨rfl,rfl,rfl⟩:=trodAll_nil r3;obtain rfl:args= #[v0,v1,v2,v3]:=by cases args;simp_all
 obtain⟨rfl,rfl⟩:=trodVars_none hV;obtain⟨b0,rfl,-⟩:=okWide_struct Try.underlying25 (hval 0 25 v0 rfl rfl);have lt0:∀x∈p0,x.block<W.heap.size:=by obtain⟨m,hm⟩:=h0;exact DataW.trod_lt m _ _ _ hm
 obtain⟨x0,ok0,vr0⟩:=Av.imageTells_r0.argN h0;obtain⟨b1,rfl,-⟩:=okWide_struct Try.underlying25 (hval 1 25 v1 rfl rfl);have lt1:∀x∈p1,x.block<W.heap.size:=by obtain⟨m,hm⟩:=h1;exact DataW.trod_lt m _ _ _ hm
 obtain⟨x1,ok1,vr1⟩:=Av.imageTells_r1.argN h1;obtain⟨b2,rfl⟩:=okWide_string Try.underlying9 (hval 2 9 v2 rfl rfl);have lt2:∀x∈p2,x.block<W.heap.size:=by obtain⟨m,hm⟩:=h2;exact DataW.trod_lt m _ _ _ hm
 obtain⟨x2,ok2,vr2⟩:=Av.imageTells_r2.arg1 rfl h2;obtain⟨b3,rfl⟩:=okWide_int Try.underlying3 (hval 3 3 v3 rfl rfl);have lt3:∀x∈p3,x.block<W.heap.size:=by obtain⟨m,hm⟩:=h3;exact DataW.trod_lt m _ _ _ hm
 obtain⟨x3,ok3,vr3⟩:=Av.imageTells_r3.arg1 rfl h3;refine(Av.law_calls (calls x0 ok0 x1 ok1 x2 ok2 x3 ok3) W (((vr0.append vr1).append vr2).append vr3)).mono fun e W' ⟨he,bel⟩=>?_
 subst he;exact⟨_,rfl,_,_,_,[],_,[],hW',trodAll_mk1 (shut_bool Try.underlying4 _),(trodAll_cons_mk (Below.trod Av.laidOut (by kernel_rfl) (of_decide_eq_true (by kernel_rfl)) h0 bel lt0) (trodAll_cons_mk (Below.trod Av.laidOut (by kernel_rfl) (of_decide_eq_true (by kernel_rfl)) h1 bel lt1) (trodAll_cons_mk (Below.trod Av.laidOut (by kernel_rfl) (of_decide_eq_true (by kernel_rfl)) h2 bel lt2) (trodAll_cons_mk (Below.trod Av.laidOut (by kernel_rfl) (of_decide_eq_true (by kernel_rfl)) h3 bel lt3) trodAll_mk0)))),rfl,bel.frame _,λh=>by cases h⟩
end imageTells
theorem imageTells_of (calls:∀(x0:((Av.Sl (ByteArray×(Int×Unit)))×((Av.Sl (Int×((Int×((Av.Sl (Int×((List UInt8)×Unit)))×Unit))×Unit)))×Unit))),Av.imageTells_r0.ok x0→∀(x1:((Av.Sl (ByteArray×(Int×Unit)))×((Av.Sl (Int×((Int×((Av.Sl (Int×((List UInt8)×Unit)))×Unit))×Unit)))×Unit))),Av.imageTells_r1.ok x1→∀(x2:ByteArray),Av.imageTells_r2.ok x2→∀(x3:Int),Av.imageTells_r3.ok x3→Av.ACalls Try.prog 3 ([.agg (Av.imageTells_r0.enc x0)]++[.agg (Av.imageTells_r1.enc x1)]++Av.imageTells_r2.enc x2++Av.imageTells_r3.enc x3) [] λr _=>r=.lit (.bool true)):Rows.ImageTellsSaid:=
 OpenClaim.holds_of_wide 3 Try.f3 rfl rfl rfl rfl rfl rfl rfl ⟨rfl,rfl,rfl,rfl,rfl⟩ rfl rfl rfl rfl rfl (by kernel_rfl) Try.func3 (by kernel_rfl)
  (of_decide_eq_true (by kernel_rfl)) (by unfold Func.isWrapper;first | (rw[if_pos (by decide+kernel)];kernel_rfl) | (rw[if_neg (by decide+kernel)];exact⟨rfl,rfl⟩))
  (λos started H enc _=>imageTells.lifted calls os started H enc)
end Go.Proofs.Ytijoffokpjbnjaa
end
section
set_option maxHeartbeats 4000000
namespace Go.Proofs.Ytijoffokpjbnjaa.Av
open Go Go.RowKit Go.Proofs.Try
abbrev Rr:=And.intro @List.getD_cons_succ.{0} @List.getD_cons_zero.{0}
abbrev Ru:=And.intro @B8 @beq_self_eq_true.{0}
theorem N9 {ns ms:List Nm}{ds es:List Nd}{v0 w0 R1 R2:AV}{s:List UInt8}{F sz:Int}{l:List Ext}{hasF hasN:Bool}(hv:ImV ns ds v0)(hw:ImV ms es w0)(hb:Sm ns ds)(hs:s.length≤9223372036854775807)
  (r1:SV Bi 9 l R1) (r2:SV Bi 9 l R2) (hl:l.length≤281474976710656) (m4 m5 m13 m15:Nat) {H:AH} (k4:Ak true 2 H (.ptr m4 0)=some v0) (k5:Ak true 2 H (.ptr m5 0)=some w0) (k13:Ak true 2 H (.ptr m13 0)=some (.agg [I sz,R1])) (k15:Ak true 2 H (.ptr m15 0)=some (.agg [I sz,R2])):
  AN (S (Bh s)) (.ptr m4 0) (.ptr m5 0) (I F) (B hasF) (I F) (B hasF) (.ptr m13 0) (B hasN) (.ptr m15 0) (B hasN) H λr _=>r=.lit (.bool true):=by
 have p1:=Jx hs;have p2:=Gv hs;have p3:=Ko hv hb;have p4:=BY hv hb;have p5:=Ek (a:=sz) (b:=sz) r1 r2 hl;have p6:=OI hv hb;have p7:=LG hv hb;have p8:=OH hv hw hb;have p9:=Ip hv hw hb;have e5:decide (D4 sz l sz l)=true:=decide_eq_true ⟨rfl,rfl⟩;rw[e5]at p5;generalize decide (CT s)=bn at p1 p2;generalize decide (BB ns ds)=bi at p3 p4;generalize Ij ns ds=us at p6 p7;generalize decide (Fl ns ds ms es)=bs at p8 p9;have call:∀{Hc:AH} {f:FuncId} {az:List AV} {x:AV} {K:AV→AH→Prop},BPure prog f az x→K x Hc→ACalls prog f az Hc K:=λhp hk=>ACalls.mono (hp _) (by rintro r H' ⟨rfl,rfl⟩;exact hk)
 let V:Nat→AV:=λn=>([S (Bh s),B bn,S (Bh s),B bn,B true,B true,v0,B bi,v0,B bi,B true,B true,B true,I F,I F,B true,B true,B true,B hasF,B hasF,B true,B true,B true,
  .agg [I sz,R1],.agg [I sz,R2],B true,B true,B true,B hasN,B hasN,B true,B true,B true,v0,I us,v0,I us,B true,B true,B true,v0,w0,B bs,v0,w0,B bs,B true,B true,B true,B true,B true,B true]:List AV).getD n Ad
 have pk:∀x:AV,Aj (B true) x (B false)=some x:=λ_=>rfl
 refine CV _ _ _ _ _ _ _ _ _ _ _ V (λ_ Hc=>Hc=H) rfl ?_ ?_
 ·intro i hi S vals Hc hS cl hn' g
  subst g;have hv':∀j,j∈salvorlaw12_ImageTells_U7Need.getD i []→vals j=V j:=λj hj=>(hn' j hj).2
  have hcase:i=0∨i=1∨i=2∨i=3∨i=4∨i=5∨i=6∨i=7∨i=8∨i=9∨i=10∨i=11∨i=12∨i=13∨i=14∨i=15∨i=16∨i=17∨i=18∨i=19∨i=20∨i=21∨i=22∨i=23∨i=24∨i=25∨i=26∨i=27∨i=28∨i=29∨i=30∨i=31∨i=32∨i=33∨i=34∨i=35∨i=36∨i=37∨i=38∨i=39∨i=40∨i=41∨i=42∨i=43∨i=44∨i=45∨i=46∨i=47∨i=48∨i=49∨i=50∨i=51:=by omega
  rcases hcase with rfl | rfl | rfl | rfl | rfl | rfl | rfl | rfl | rfl | rfl | rfl | rfl | rfl | rfl | rfl | rfl | rfl | rfl | rfl | rfl | rfl | rfl | rfl | rfl | rfl | rfl | rfl | rfl | rfl | rfl | rfl | rfl | rfl | rfl | rfl | rfl | rfl | rfl | rfl | rfl | rfl | rfl | rfl | rfl | rfl | rfl | rfl | rfl | rfl | rfl | rfl | rfl
  all_goals simp only[AK,salvorlaw12_ImageTells_U7Need,Rr,SM,List.not_mem_nil,or_false,forall_eq_or_imp,forall_eq,false_implies,forall_const]at hv'⊢
  all_goals (try simp only[hv',k4,k5,k13,k15,B8]);(try simp only[V,Rr,pk,Ru,NM,NL,QB,true_and])
  all_goals first
   | exact⟨rfl,rfl⟩
   | exact rfl
   | exact call p1 ⟨rfl,rfl⟩
   | exact call p2 ⟨rfl,rfl⟩
   | exact call p3 ⟨rfl,rfl⟩
   | exact call p4 ⟨rfl,rfl⟩
   | exact call p5 ⟨rfl,rfl⟩
   | exact call p6 ⟨rfl,rfl⟩
   | exact call p7 ⟨rfl,rfl⟩
   | exact call p8 ⟨rfl,rfl⟩
   | exact call p9 ⟨rfl,rfl⟩
   | exact call Ei ⟨rfl,rfl⟩
 ·intro S vals H' hS g
  rw[Dq];unfold BR;rw[(hS 51 (by omega)).2];rfl
theorem OE (x0:XI)(h0:imageTells_r0.ok x0):∃ns ds a b,ImV ns ds (.agg [a,b])∧(∀x∈ns,x.name.length≤9223372036854775807)∧[AV.agg (imageTells_r0.enc x0)]=[.agg [a,b]]∧oneA a=true∧oneA b=true:=by
 obtain⟨sa,sb,u⟩:=x0
 obtain⟨ns,ds,hI,hns⟩:=Pk sa sb h0.1.1 h0.2.1.1 (λx hx=>by
  have h:=h0.2.1.2.2 x hx;have h2:=h.2.1.2.1;exact⟨h2.1,λy hy=>(h2.2.2 y hy).2.1.1⟩)
 have hnl:∀x∈ns,x.name.length≤9223372036854775807:=by
  rw[hns];intro x hx;obtain⟨y,hy,rfl⟩:=List.mem_map.1 hx;have h:=(h0.1.2.2 y hy).1;have h2:y.1.size≤9223372036854775807:=h
  show y.1.data.toList.length≤_
  simpa using h2
 have hI0:=hI;obtain⟨a,b,dv,e,ha,hbd,rfl⟩:=hI;refine⟨ns,_,a,b,⟨a,b,dv,rfl,ha,hbd,rfl⟩,hnl,?_,SV.oneA ha,SV.oneA hbd⟩;rw[← e];rfl
theorem imageTells_calls (x0:XI)(h0:imageTells_r0.ok x0)(x1:XI)(h1:imageTells_r1.ok x1)(x2:ByteArray)(h2:imageTells_r2.ok x2)(x3:Int)(h3:imageTells_r3.ok x3):
  ACalls prog 3 ([.agg (imageTells_r0.enc x0)]++[.agg (imageTells_r1.enc x1)]++imageTells_r2.enc x2++imageTells_r3.enc x3) [] λr _=>r=.lit (.bool true):=by
 obtain⟨ns,ds,a,b,hv,hn,e0,oa,ob⟩:=OE x0 h0;obtain⟨ms,es,a',b',hw,hm,e1,oa',ob'⟩:=OE x1 h1;have e1':[AV.agg (imageTells_r1.enc x1)]=[.agg [a',b']]:=e1;rw[e0,e1'];obtain⟨s,rfl⟩:∃s:List UInt8,x2=Bh s:=⟨x2.data.toList,(J1 x2).symm⟩;have hsz:(Bh s).size≤maxLen:=h2;have hml:maxLen≤9223372036854775807:=by decide
 have hnl:s.length≤9223372036854775807:=by
  have:(Bh s).size=s.length:=by simp[Bh,ByteArray.size]
  omega
 show ACalls prog 3 [.agg [a,b],.agg [a',b'],S (Bh s),I x3] [] _
 refine Eb ?_;unfold BI;have n1:AO [] (.agg [a,b])=some (.ptr 0 0,[some (.cells [a,b])]):=by simp[oa,ob]
 have n2:AO [some (.cells [a,b])] (.agg [a',b'])=some (.ptr 1 0,[some (.cells [a,b]),some (.cells [a',b'])]):=by simp[oa',ob']
 have l1:Ak true 2 [some (.cells [a,b]),some (.cells [a',b'])] (.ptr 0 0)=some (.agg [a,b]):=rfl;have l2:Ak true 2 [some (.cells [a,b]),some (.cells [a',b'])] (.ptr 1 0)=some (.agg [a',b']):=rfl;simp only[n1,GF,n2,l1,B8];refine Al (If hv) ?_
 by_cases c1:FewI ns ds
 rotate_left
 ·simp only[c1,QA,Iv,Rp,B8,Iw,show((true==false)=false)from rfl,KE,KF,Gz,ES,Ix]
  exact Al Ei rfl
 simp only[c1,QB,Iv,SA,Ru,Iw,Mc,l2,Of];refine Al (If hw) ?_
 by_cases c2:FewI ms es
 rotate_left
 ·simp only[c2,QA,Iv,Rp,B8,Iw,show((true==false)=false)from rfl,KE,KF,Gz,An,ES,Ix]
  exact Al Ei rfl
 simp only[c2,QB,Iv,SA,Ru,Iw,Mc,Gz,An,Hs hnl,NN]
 by_cases c3:(60:Int)<(s.length:Int)
 ·simp only[c3,QB,ES,Ix]
  exact Al Ei rfl
 simp only[c3,QA,ES,I9,l1,B8];have sm:=c1.sm hn;refine Al (OF hv sm s) ?_;simp only[D5,P3,Li,B8,l1];refine Al (LF hv sm s) ?_;simp only[D5,P3,Li,B8,l1];obtain⟨R1,r1,g1⟩:=P9 hv sm x3;obtain⟨R2,r2,g2⟩:=MK hv sm x3
 have hl:(GQ ns ds x3).l.length≤281474976710656:=by
  unfold GQ
  split
  ·rename_i hh
   obtain⟨y,hy,hm,-⟩:=LV hh.2;rw[hy]
   have:=c1.2.2.1 y hm
   show y.l.length≤_
   omega
  ·simp
 refine Al g1 ?_;have o1:=SV.oneA r1;have o2:=SV.oneA r2;generalize (GQ ns ds x3).l=L at*;generalize (GQ ns ds x3).size=sz at*;have q1:AO [some (AObj.cells [a,b]),some (.cells [a',b'])] (.agg [(I 0),AI])=some (.ptr 2 0,[some (.cells [a,b]),some (.cells [a',b']),some (.cells [I 0,AI])]):=rfl
 have q2:Ex 2 [some (AObj.cells [a,b]),some (.cells [a',b']),some (.cells [I 0,AI])] (.ptr 2 0) (.agg [I sz,R1])=some [some (.cells [a,b]),some (.cells [a',b']),some (.cells [I sz,R1])]:=by
  rw[JQ (n:=2) (xs:=[I sz,R1]) (cs:=[I 0,AI]) (by simp[o1]) rfl rfl (by simp)];rfl
 have q3:AO [some (AObj.cells [a,b]),some (.cells [a',b']),some (.cells [I sz,R1])] (.agg [(I 0),AI])=some (.ptr 3 0,[some (.cells [a,b]),some (.cells [a',b']),some (.cells [I sz,R1]),some (.cells [I 0,AI])]):=rfl
 have q4:Ex 2 [some (AObj.cells [a,b]),some (.cells [a',b']),some (.cells [I sz,R1]),some (.cells [I 0,AI])] (.ptr 3 0) (.agg [I sz,R2])=some [some (.cells [a,b]),some (.cells [a',b']),some (.cells [I sz,R1]),some (.cells [I sz,R2])]:=by
  rw[JQ (n:=2) (xs:=[I sz,R2]) (cs:=[I 0,AI]) (by simp[o2]) rfl rfl (by simp)];rfl
 have l3:Ak true 2 [some (AObj.cells [a,b]),some (.cells [a',b']),some (.cells [I sz,R1])] (.ptr 0 0)=some (.agg [a,b]):=rfl;simp only[D5,P3,Li,B8,q1,GF,q2,LX,l3];refine Al g2 ?_;simp only[D5,P3,Li,B8,q3,GF,q4,LX];exact N9 hv hw sm (by omega) r1 r2 hl 0 1 2 3 rfl rfl rfl rfl
end Go.Proofs.Ytijoffokpjbnjaa.Av
namespace Go.Proofs.Ytijoffokpjbnjaa
theorem imageTells_holds:Rows.ImageTellsSaid:=imageTells_of Av.imageTells_calls
#print axioms imageTells_holds
end Go.Proofs.Ytijoffokpjbnjaa
end
