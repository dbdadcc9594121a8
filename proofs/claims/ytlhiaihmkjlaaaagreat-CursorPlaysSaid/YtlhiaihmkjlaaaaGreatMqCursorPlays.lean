/- The law and its row. No condition. -/
import Derived.Test.YtlhiaihmkjlaaaaGreatMqL
import Derived.Below
import Derived.Carry
import Derived.ChangeOld
import Derived.OpenShut
import Derived.ProofKit
import Derived.ShutString
import Derived.SizedLaws
import Derived.Test.YtlhiaihmkjlaaaaGreatRows
import Derived.WalkKit
set_option linter.unusedVariables false
set_option linter.unusedSimpArgs false
set_option maxRecDepth 100000
section
namespace Go.Proofs.YtlhiaihmkjlaaaaGreat.Av
open Go Go.RowKit
noncomputable def cursorPlays_r0 : Rd Tryz.prog 3 Int:=(Rd.int .i64 Tryz.underlying3 (by kernel_rfl))
noncomputable def cursorPlays_r1 : Rd Tryz.prog 3 Int:=(Rd.int .i64 Tryz.underlying3 (by kernel_rfl))
noncomputable def cursorPlays_r2 : Rd Tryz.prog 85 (Sl (UInt8 × ((Sl UInt8) × ((Sl UInt8) × (Int × Unit))))):=(Rd.slice (Rd.struct (Rds.cons (Rd.byte Tryz.underlying5 (by kernel_rfl)) (Rds.cons (Rd.slice (Rd.byte Tryz.underlying5 (by kernel_rfl)) Tryz.underlying36 (by kernel_rfl)) (Rds.cons (Rd.slice (Rd.byte Tryz.underlying5 (by kernel_rfl)) Tryz.underlying36 (by kernel_rfl)) (Rds.cons (Rd.int .i64 Tryz.underlying3 (by kernel_rfl)) (Rds.nil _ _) rfl rfl) rfl rfl) rfl rfl) rfl rfl) Tryz.underlying87 (by kernel_rfl)) Tryz.underlying85 (by kernel_rfl))
end Go.Proofs.YtlhiaihmkjlaaaaGreat.Av
namespace Go.Proofs.YtlhiaihmkjlaaaaGreat
open Go.ChangeShapes Go.WideShapes Go.ChangeAt Go.RowKit
namespace cursorPlays
set_option maxRecDepth 100000 in
theorem lifted (calls : ∀ (x0 : Int),Av.cursorPlays_r0.ok x0→∀ (x1 : Int),Av.cursorPlays_r1.ok x1→∀ (x2 : (Av.Sl (UInt8 × ((Av.Sl UInt8) × ((Av.Sl UInt8) × (Int × Unit)))))),Av.cursorPlays_r2.ok x2→Av.ACalls Tryz.prog 8 (Av.cursorPlays_r0.enc x0 ++ Av.cursorPlays_r1.enc x1 ++ Av.cursorPlays_r2.enc x2) [] λr _=>r = .lit (.bool true)) (os : Os) (started : os.Started) (H : Type) (enc : TypeId × Value→H) :
  ReturnsInHanded {} Tryz.checked os 8 .any (Rows.cursorPlaysSpec.pre6 enc Tryz.prog Tryz.f8 Rows.cursorPlaysRow.domain false) (Rows.cursorPlaysSpec.post enc Tryz.prog Tryz.f8 false true false false):=by
 refine returnsInHanded_of_change_sized (C:=Tryz.checked) Av.own started (by kernel_rfl) Tryz.func8
  (ChangeSpec.witness6 (enc:=enc) (C:=Tryz.checked) false ⟨#[],#[.int .i64 0,.int .i64 0,.slice none 0 0],[]⟩ 8 (by kernel_rfl) (by kernel_rfl) (by kernel_rfl) (by kernel_rfl)) ?_
 intro W base args ds gs before hval0 hW hcnd hsz0 _;have hval : ∀ (j : Nat) t v,Tryz.f8.params[j]? = some t→args[j]? = some v→Value.okWide Tryz.prog W .any base t v:=hval0;have hW':=hW;obtain ⟨p,q,hA0,hV,rfl,hfz,hnd⟩:=hW;have hA : DataW.TrodAll enc Tryz.prog W 0 (λ_=>true) true Tryz.f8.params.toList args.toList ds p:=hA0;rw [Tryz.params8] at hA hval;obtain ⟨v0,vs0,d0,ds0,p0,q0,hargs,rfl,rfl,h0,r0⟩:=trodAll_cons hA;obtain ⟨v1,vs1,d1,ds1,p1,q1,rfl,rfl,rfl,h1,r1⟩:=trodAll_cons r0;obtain ⟨v2,vs2,d2,ds2,p2,q2,rfl,rfl,rfl,h2,r2⟩:=trodAll_cons r1;obtain ⟨rfl,rfl,rfl⟩:=trodAll_nil r2;obtain rfl : args = #[v0,v1,v2]:=by cases args; simp_all
 obtain ⟨rfl,rfl⟩:=trodVars_none hV;obtain ⟨b0,rfl⟩:=okWide_int Tryz.underlying3 (hval 0 3 v0 rfl rfl);have lt0 : ∀ x ∈ p0,x.block < W.heap.size:=by obtain ⟨m,hm⟩:=h0; exact DataW.trod_lt m _ _ _ hm
 obtain ⟨x0,ok0,vr0⟩:=Av.cursorPlays_r0.arg1 rfl h0;obtain ⟨b1,rfl⟩:=okWide_int Tryz.underlying3 (hval 1 3 v1 rfl rfl);have lt1 : ∀ x ∈ p1,x.block < W.heap.size:=by obtain ⟨m,hm⟩:=h1; exact DataW.trod_lt m _ _ _ hm
 obtain ⟨x1,ok1,vr1⟩:=Av.cursorPlays_r1.arg1 rfl h1;obtain ⟨b2,len2,cap2,rfl⟩:=okWide_slice Tryz.underlying85 (hval 2 85 v2 rfl rfl);have lt2 : ∀ x ∈ p2,x.block < W.heap.size:=by obtain ⟨m,hm⟩:=h2; exact DataW.trod_lt m _ _ _ hm
 obtain ⟨x2,ok2,vr2⟩:=Av.cursorPlays_r2.arg1 rfl h2;refine (Av.law_calls (calls x0 ok0 x1 ok1 x2 ok2) W ((vr0.append vr1).append vr2)).mono fun e W' ⟨he,bel⟩ => ?_
 subst he;exact ⟨_,rfl,_,_,_,[],_,[],hW',trodAll_mk1 (shut_bool Tryz.underlying4 _),(trodAll_cons_mk (Below.trod Av.laidOut (by kernel_rfl) (of_decide_eq_true (by kernel_rfl)) h0 bel lt0) (trodAll_cons_mk (Below.trod Av.laidOut (by kernel_rfl) (of_decide_eq_true (by kernel_rfl)) h1 bel lt1) (trodAll_cons_mk (Below.trod Av.laidOut (by kernel_rfl) (of_decide_eq_true (by kernel_rfl)) h2 bel lt2) trodAll_mk0))),rfl,bel.frame _,λh=>by cases h⟩
end cursorPlays
theorem cursorPlays_of (calls : ∀ (x0 : Int),Av.cursorPlays_r0.ok x0→∀ (x1 : Int),Av.cursorPlays_r1.ok x1→∀ (x2 : (Av.Sl (UInt8 × ((Av.Sl UInt8) × ((Av.Sl UInt8) × (Int × Unit)))))),Av.cursorPlays_r2.ok x2→Av.ACalls Tryz.prog 8 (Av.cursorPlays_r0.enc x0 ++ Av.cursorPlays_r1.enc x1 ++ Av.cursorPlays_r2.enc x2) [] λr _=>r = .lit (.bool true)) : Rows.CursorPlaysSaid :=
 OpenClaim.holds_of_wide 8 Tryz.f8 rfl rfl rfl rfl rfl rfl rfl ⟨rfl,rfl,rfl,rfl,rfl⟩ rfl rfl rfl rfl rfl (by kernel_rfl) Tryz.func8 (by kernel_rfl)
  (of_decide_eq_true (by kernel_rfl)) (by unfold Func.isWrapper; first | (rw [if_pos (by decide +kernel)]; kernel_rfl) | (rw [if_neg (by decide +kernel)]; exact ⟨rfl,rfl⟩))
  (λos started H enc _=>cursorPlays.lifted calls os started H enc)
end Go.Proofs.YtlhiaihmkjlaaaaGreat
end
section
set_option maxHeartbeats 4000000
namespace Go.Proofs.YtlhiaihmkjlaaaaGreat.Av
open Go Go.RowKit
structure CSt where
 kind : UInt8
 a : List UInt8
 b : List UInt8
 n : Int
structure CStV where
 s : CSt
 av : AV
 bv : AV
 ha : SV encU 1 s.a av
 hb : SV encU 1 s.b bv
def encQ (x : CStV) : List AV:=[.lit (.int .u8 x.s.kind.toNat),x.av,x.bv,I x.s.n]
theorem encQ_len (x : CStV) : (encQ x).length=4:=rfl
theorem noIdss_encQ (x : CStV) : zcuZ (encQ x)=true:=by simp [encQ,zcuZ,noIds,x.ha.1,x.hb.1]
abbrev XCSt:=UInt8 × ((Sl UInt8) × ((Sl UInt8) × (Int × Unit)))
theorem slC_sv (x : Sl UInt8) (hn : x.nil=true→x.l=[]) : SV encU 1 x.l (if x.nil then .lit (.slice none 0 0) else .imm (x.l.flatMap encU) x.l.length 1):=by
 cases hnil : x.nil with
 | true => simp only [if_true]; rw [hn hnil]; exact SV.nil
 | false => simp only [Bool.false_eq_true,if_false]; exact SV.imm (λ_=>rfl) (λx hx=>rfl)
def okQ (x : XCSt) : Prop:=(x.2.1.nil=true→x.2.1.l=[])∧(x.2.2.1.nil=true→x.2.2.1.l=[])∧-9223372036854775808≤x.2.2.2.1∧x.2.2.2.1≤9223372036854775807
def cstV (x : XCSt) (h : okQ x) : CStV:=⟨⟨x.1,x.2.1.l,x.2.2.1.l,x.2.2.2.1⟩,_,_,slC_sv _ h.1,slC_sv _ h.2.1⟩
def encXq (x : XCSt) : List AV:=[.lit (.int .u8 x.1.toNat)] ++ ([if x.2.1.nil then .lit (.slice none 0 0) else .imm (x.2.1.l.flatMap encU) x.2.1.l.length 1] ++ ([if x.2.2.1.nil then .lit (.slice none 0 0) else .imm (x.2.2.1.l.flatMap encU) x.2.2.1.l.length 1] ++ ([I x.2.2.2.1] ++ [])))
theorem csts_all : ∀ (l : List XCSt),(∀ x ∈ l,okQ x)→∃ m : List CStV,m.length=l.length∧(∀ y ∈ m,-9223372036854775808≤y.s.n∧y.s.n≤9223372036854775807)∧l.flatMap encXq=m.flatMap encQ
 | [],_ => ⟨[],rfl,by simp,rfl⟩
 | x :: l,h => by
  obtain ⟨m,h1,h2,h3⟩:=csts_all l λy hy=>h y (by simp [hy])
  have hx:=h x (by simp);refine ⟨cstV x hx :: m,by simp [h1],λy hy=>?_, ?_⟩
  ·rcases List.mem_cons.1 hy with rfl | hy
   ·exact hx.2.2
   ·exact h2 y hy
  ·rw [List.flatMap_cons,List.flatMap_cons,h3]
   rfl
theorem csts_sv (s : Sl XCSt) (hn : s.nil=true→s.l=[]) (h : ∀ x ∈ s.l,okQ x) :
  ∃ m : List CStV,SV encQ 4 m (if s.nil then .lit (.slice none 0 0) else .imm (s.l.flatMap encXq) s.l.length 4)∧m.length=s.l.length∧∀ y ∈ m,-9223372036854775808≤y.s.n∧y.s.n≤9223372036854775807:=by
 obtain ⟨m,h1,h2,h3⟩:=csts_all s.l h;refine ⟨m, ?_,h1,h2⟩;cases hnil : s.nil with
 | true =>
  simp only [if_true]
  have : m=[]:=by
   have:=hn hnil
   rw [this] at h1;exact List.length_eq_zero_iff.1 h1
  rw [this]; exact SV.nil
 | false =>
  simp only [Bool.false_eq_true,if_false];rw [h3,← h1];exact SV.imm encQ_len λx _=>noIdss_encQ x
theorem open_firstc (room : Int) : (openS (newS room) [97] true).1=(1,0):=rfl
theorem absl_twoc {H : AH} {v u : AV} (h : oneA v=true) (k : oneA u=true) : absl H 1 2 (zrow [nilSl] 2) [(0,1,v),(1,1,u)]=some (.sl H.length 0 2 1 (.ex 2),H ++ [some (.cells [v,u])]):=by
 simp [absl,absf,zrow,zzZ h,zzZ k,zlhZ]
theorem write2_w {N : Nat} {s : StS} (h : SW N s) (ino a : Int) {A C : List UInt8} : SW (N + 9 * A.length + 9 * C.length) (write2 s ino a A C).2:=by
 unfold write2;have h1:=piecesS_w h ino a A
 split
 ·exact piecesS_w h1 ino _ C
 ·exact h1.mono (by omega)
theorem write2_n (s : StS) (ino a : Int) (A C : List UInt8) : 0≤(write2 s ino a A C).1.1∧(write2 s ino a A C).1.1≤A.length + C.length:=by
 have h1:=piecesS_n s ino a A;unfold write2
 split
 ·have h2:=piecesS_n (zchZ s ino a A).2 ino (a + (zchZ s ino a A).1.1) C
  simp only; omega
 ·omega
theorem cursorPlays_calls (x0 : Int) (h0 : cursorPlays_r0.ok x0) (x1 : Int) (h1 : cursorPlays_r1.ok x1) (x2 : Sl XCSt) (h2 : cursorPlays_r2.ok x2) :
  ACalls Tryz.prog 8 (cursorPlays_r0.enc x0 ++ cursorPlays_r1.enc x1 ++ cursorPlays_r2.enc x2) [] λr _=>r = .lit (.bool true):=by
 have in6 : ∀ {n : Int},IntKind.i64.min≤n∧n≤IntKind.i64.max→-9223372036854775808≤n∧n≤9223372036854775807:=fun {n} h => by
  simpa [IntKind.min,IntKind.max,IntKind.signed,IntKind.bits] using h
 have hroom : x0≤9223372036854775807:=(in6 h0).2;have harm : x1≤9223372036854775807:=(in6 h1).2
 obtain ⟨l,vl,hll,hln⟩:=csts_sv x2 h2.1 λy hy=>by
  have:=h2.2.2 y hy
  exact ⟨this.2.1.1,this.2.2.1.1,in6 this.2.2.2.1⟩
 show ACalls Tryz.prog 8 [I x0,I x1,if x2.nil then .lit (.slice none 0 0) else .imm (x2.l.flatMap encXq) x2.l.length 4] [] _
 generalize (if x2.nil then AV.lit (.slice none 0 0) else .imm (x2.l.flatMap encXq) x2.l.length 4)=v at vl;clear h0 h1 h2 hll;refine zquZ ?_;unfold zgqZ;simp only [vl.len,zdZ,zbbmZ,zsZ]
 by_cases k0 : (40 : Int) < (l.length : Int)
 ·simp only [k0,dTt,zbdZ]
  exact zyZ zrhZ (by trivial)
 simp only [k0,dFf,zmZ];obtain ⟨r,H1,⟨p,rfl,l1,st0,g,hid⟩,hc⟩:=New_c x0 [] hroom;refine bC_of hc ?_;obtain ⟨r,H2,⟨rfl,l2,ds0,g2⟩,hc⟩:=RNew_c x0 H1 hroom;refine bC_of hc ?_;have e1 : abN .eql nilP (.ptr ([] : AH).length 0) (.lit (.pointer none))=some (B false):=rfl;have duo:=duo_new st0 l1 hid ds0 g2;have eS : (AV.lit (.string ⟨#[97]⟩))=S (bstr [97]):=rfl;simp only [e1,zdZ,zsZ,zmZ,eS];have hne : ([] : AH).length ≠ H1.length:=duo.ne;generalize ([] : AH).length=os at *;generalize H1.length=od at *;have of:=open_firstc x0;have w0:=openS_w (newS_w x0) [97] true;obtain ⟨r,H3,⟨p3,fo,rfl,hfo,hF,hfp,st3,f3⟩,hc⟩:=COpen_c duo.P (newS_w x0) (by omega) (name:=[97]) (by simp) true (by rw [of]);refine bC_of hc ?_;have duo3:=duo.stepP st3 f3;obtain ⟨r,H4,⟨rfl,q4,ds4,f4⟩,hc⟩:=ROpen_c duo3.D (newS_w x0) (by omega) (name:=[97]) (by simp) true;have od2:=duo.D.os_lt;have oq2:=duo.D.p_lt;have os2:=duo.P.os_lt;rw [of] at hc hF;have tr3 : Trio (openS (newS x0) [97] true).2 (newS x0) os od fo 1 0 p3 nilSl H3:=⟨duo3,hF,by omega,by omega,hfp,by simp [idS]⟩;have tr4:=tr3.doc ds4 f4;simp only [zoZ,gCS,gCZ,zdZ,of];refine bC_of hc ?_;have e2 : abN .eql nilP (.ptr fo 0) (.lit (.pointer none))=some (B false):=rfl;simp only [zoZ,gCS,gCZ,zdZ,e2,zgsZ,beq_self_eq_true,zcpZ,znvZ,ne_eq,not_true_eq_false,dFf,zbcZ,if_false,Bool.false_eq_true,gC_true];refine bC_of (Ino_c tr4.f) ?_;simp only [znvZ,ne_eq,not_true_eq_false,dFf,zdZ,zbcZ,if_false,Bool.false_eq_true,zsZ,zmZ];obtain ⟨r,H5,⟨rfl,st5,f5⟩,hc⟩:=Arm_c tr4.d.P x1;refine bC_of hc ?_;have duo5:=tr4.d.stepP st5 f5;have fl4:=(gSI.1 tr4.f).1;have tr5 : Trio (armS (openS (newS x0) [97] true).2 x1) (openS (newS x0) [97] true).2 os od fo 1 0 p3 q4 H5:=⟨duo5,(f5.same fo fl4 tr4.fs tr4.fp).trans tr4.f,tr4.fs,tr4.fd,tr4.fp,tr4.fq⟩;obtain ⟨r,H6,⟨rfl,ds6,f6⟩,hc⟩:=RArm_c tr5.d.D x1;refine bC_of hc ?_;have tr6:=tr5.doc ds6 f6;have w6:=armS_w w0 harm;generalize armS (openS (newS x0) [97] true).2 x1=s1 at tr6 w6;clear hc f6 ds6 tr5 duo5 st5 f5 tr4 tr3 f4 ds4 duo3 st3 f3 hF hfp hfo of w0 duo st0 ds0 g g2 hid;refine zltZ (λm y2 y7 y8 y9 y11 y13 y14 H'=>∃ (j : Nat) (s : StS) (at' : Int) (p q : AV),j + m=l.length∧v=y2∧y7 = .ptr os 0∧y8 = .ptr od 0∧y9 = .ptr fo 0∧y11=I 1∧y13=I at'∧y14=I j∧Trio s s os od fo 1 at' p q H'∧SW (1 + 1080 * j) s∧0≤at'∧at'≤4611686018427387904 + 5000 * j) ?_ l.length ⟨0,s1,0,p3,q4,by omega,rfl,rfl,rfl,rfl,rfl,rfl,rfl,tr6,w6.mono (by omega),by omega,by omega⟩;rintro m y2 y7 y8 y9 y11 y13 y14 H R hR ⟨j,s,at',p,q,hj,rfl,rfl,rfl,rfl,rfl,rfl,rfl,tr,hw,ha0,ha1⟩;unfold zgrZ;simp only [vl.len,zdZ,zkyZ,zsZ];rcases Nat.lt_or_ge j l.length with hlt | hge
 rotate_left
 ·-- the end
  obtain ⟨RN,hRN,r,H7,⟨rfl,g7⟩,hc⟩:=Now_c tr.d.P hw (by omega);have tr7:=tr.grew g7;obtain ⟨a,b,hI,hl⟩:=duo_now tr7.d;obtain ⟨a',b',c',d',pv',hcD⟩:=tr.d.D;obtain ⟨a'',b'',c'',d'',pv'',hcD7⟩:=tr7.d.D
  have hl6 : ald true 2 H (.ptr od 0)=some (.agg [a,b]):=by
   rw [znZ hcD.obj];rw [znZ (g7.cells hcD.obj)] at hl;exact hl
  have hsame:=ref_SameImage_p hRN hI (hw.now.sm (by omega));rw [sameI_self] at hsame;have o1 : ald false 1 H7 (.ptr od 8)=some (B s.off):=by rw [znZ (g7.cells hcD.obj)]; rfl
  simp only [show ¬ ((j : Int) < (l.length : Int)) by omega,dFf,zmZ];refine bC_of hc ?_;simp only [zgZ,zdZ,ziZ,Nat.zero_add,hl];refine bP_of hsame ?_;simp only [zgsZ,beq_self_eq_true,zcpZ,zdZ,gC_true];refine bC_of (Off_c tr7.d.P) ?_;simp only [zgsZ,beq_self_eq_true,zcpZ,zdZ,zgZ,ziZ,Nat.zero_add,o1,abB_eql,dTt,zbcZ,if_true,gP_true,hl6,zbdZ,true_and];exact bP_of zrhZ (by trivial)
 have hx:=gEG hlt;have hmem:=List.getElem_mem hlt;generalize l[j]=x at hx hmem;obtain ⟨hn1,hn2⟩:=hln x hmem;have oa:=SV.oneA x.ha;have ob:=SV.oneA x.hb;have rdq : ∀ (t : List AV) (HH : AH),ald true 4 HH (.ip (encQ x ++ t))=some (.agg (encQ x)):=λ_ _=>rfl
 have n4 : anew H (.agg [(.lit (.int .u8 0)),nilSl,nilSl,(I 0)])=some (.ptr H.length 0,H ++ [some (.cells [.lit (.int .u8 0),nilSl,nilSl,I 0])]):=by simp
 have t4 : ast 4 (H ++ [some (.cells [.lit (.int .u8 0),nilSl,nilSl,I 0])]) (.ptr H.length 0) (.agg (encQ x))=some (H ++ [some (.cells (encQ x))]):=by
  rw [zceZ (n:=4) (xs:=encQ x) (cs:=[.lit (.int .u8 0),nilSl,nilSl,I 0]) (by simp [encQ,oa,ob]) (by simp) rfl (by simp)];simp [zlhZ,encQ]
 have ho:=tr.obj (encQ x);have g1:=Grew.app H [some (AObj.cells (encQ x))];have tr:=tr.grew g1;simp only [show ((j : Int) < (l.length : Int)) by omega,dTt,zbdZ,vl.idx encQ_len hx rfl,zdZ,rdq,n4,zbtZ,t4,zcyZ];generalize (H ++ [some (AObj.cells (encQ x))])=H1 at *;generalize H.length=xo at *;have i0 : (encQ x)[0]? = some (.lit (.int .u8 x.s.kind.toNat)):=rfl;have i1 : (encQ x)[1]? = some x.av:=rfl;have i2 : (encQ x)[2]? = some x.bv:=rfl;have i3 : (encQ x)[3]? = some (I x.s.n):=rfl;have hkt:=x.s.kind.toNat_lt;have q2 : abI .add (I (j : Int)) (I 1)=some (I ((j + 1 : Nat) : Int)):=by rw [zuZ (by omega) (by omega)]; congr 3
 simp only [ziZ,Nat.zero_add,zdZ,znZ ho.at',zhZ,i1,x.ha.len,zbbmZ,zgsZ]
 by_cases c1 : (60 : Int) < (x.s.a.length : Int)
 ·simp only [c1,dTt,show ((true == false)=false) from rfl,zrrZ,zdZ,zbcZ,if_true,zgsZ,bG_undef,zsZ,zbdZ]
  exact zyZ zrhZ (by trivial)
 simp only [c1,dFf,beq_self_eq_true,zcpZ,zdZ,ziZ,Nat.zero_add,znZ ho.at',zhZ,i2,x.hb.len,zbbmZ,zbcZ,if_false,Bool.false_eq_true,zgsZ]
 by_cases c2 : (60 : Int) < (x.s.b.length : Int)
 ·simp only [c2,dTt,show ((true == false)=false) from rfl,zrrZ,zdZ,zbcZ,if_true,zgsZ,bG_undef,zsZ,zbdZ]
  exact zyZ zrhZ (by trivial)
 simp only [c2,dFf,beq_self_eq_true,zcpZ,zdZ,ziZ,Nat.zero_add,znZ ho.at',zhZ,i3,zbbmZ,zgsZ];have hwide : ∀ (c : Bool),c=decide (300 < x.s.n∧x.s.n≤4096)→True:=λ_ _=>trivial
 -- behind a deed
 have fin : ∀ (s' : StS) (a' : Int) (p' q' : AV) (H' : AH),Trio s' s' os od fo 1 a' p' q' H'→SW (1 + 1080 * (j + 1)) s'→0≤a'→a'≤4611686018427387904 + 5000 * (j + 1) →
   zbfZ R v (.ptr os 0) (.ptr od 0) (.ptr fo 0) (I 1) (I a') (I j) H' (λr H=>r = .lit (.bool true)):=by
  intro s' a' p' q' H' tr' hw' h1 h2;rw [znpZ]; unfold zgiZ;simp only [zgZ,zdZ,ziZ,Nat.zero_add];refine bC_of (Tell_c tr'.f) ?_;simp only [znvZ,ne_eq,not_true_eq_false,dFf,zdZ];rw [zobZ]; unfold zfwZ;simp only [zsZ,zmZ];rw [znfZ]; unfold zgfZ;simp only [q2,zdZ];exact hR (m - 1) _ _ _ _ _ _ _ _ (by omega) ⟨j + 1,s',a',p',q',by omega,rfl,rfl,rfl,rfl,rfl,rfl,rfl,tr',hw',h1,by omega⟩
 -- the kinds
 have kinds : bO (zfZ 0 (.ptr xo 0)) (λv40=>bO (ald false 1 H1 v40) λv41=>bO (abI .rem v41 (.lit (.int .u8 4))) λv42=>bO (abI .eql v42 (.lit (.int .u8 0))) λv43=>bB v43 λt44=>bI t44 (zbgZ R v (.ptr os 0) (.ptr od 0) (.ptr fo 0) (I 1) (I at') (I j) (.ptr xo 0) v42 v43 H1 (λr H=>r = .lit (.bool true)))
   (bO (abI .eql v42 (.lit (.int .u8 1))) λv45=>zbgZ R v (.ptr os 0) (.ptr od 0) (.ptr fo 0) (I 1) (I at') (I j) (.ptr xo 0) v42 v45 H1 (λr H=>r = .lit (.bool true)))):=by
  have hrem : abI .rem (.lit (.int .u8 x.s.kind.toNat)) (.lit (.int .u8 4))=some (.lit (.int .u8 ((x.s.kind.toNat % 4 : Nat) : Int))):=by
   have : abI .rem (.lit (.int .u8 (x.s.kind.toNat : Int))) (.lit (.int .u8 (4 : Nat)))=some (.lit (.int .u8 ((x.s.kind.toNat % 4 : Nat) : Int))):=by rw [abI_rem (by omega) (by omega)]; congr 3
   exact this
  have hk4 : x.s.kind.toNat % 4 < 4:=Nat.mod_lt _ (by omega);have eql8 : ∀ a b : Int,abI .eql (.lit (.int .u8 a)) (.lit (.int .u8 b))=some (B (decide (a=b))):=λ_ _=>zbbsZ
  simp only [ziZ,Nat.zero_add,zdZ,znZ ho.at',zhZ,i0,hrem];generalize x.s.kind.toNat % 4=k at hk4;have lA : x.s.a.length≤60:=by omega
  have lB : x.s.b.length≤60:=by omega
  -- writing
  have wr : zbgZ R v (.ptr os 0) (.ptr od 0) (.ptr fo 0) (I 1) (I at') (I j) (.ptr xo 0) (.lit (.int .u8 (k : Int))) (B true) H1 (λr H=>r = .lit (.bool true)):=by
   rw [zdeZ]; unfold zciZ;have e7:=absl_twoc (H:=H1) oa ob;simp only [zsZ,zbdZ,ziZ,Nat.zero_add,zdZ,znZ ho.at',zhZ,i1,i2,e7,zbtZ];have g2:=Grew.app H1 [some (AObj.cells [x.av,x.bv])];have hob:=tr.obj [x.av,x.bv];have tr2:=tr.grew g2;have ho2:=ho.grew g2
   have hsl : zbZ (H1 ++ [some (AObj.cells [x.av,x.bv])]) 1 (.sl H1.length 0 2 1 (.ex 2))=some ([(x.av,x.s.a),(x.bv,x.s.b)].map Prod.fst,[(x.av,x.s.a),(x.bv,x.s.b)].length):=by
    rw [zbbZ hob.at' (by simp)]; rfl
   generalize (H1 ++ [some (AObj.cells [x.av,x.bv])])=H2 at *;obtain ⟨cA1,cA2,cA3⟩:=zzjZ (bl:=[(x.av,x.s.a),(x.bv,x.s.b)]) (by simp; omega);have hfl : (([(x.av,x.s.a),(x.bv,x.s.b)] : List (AV × List UInt8)).map Prod.snd).flatten=x.s.a ++ x.s.b:=by simp
   rw [hfl,List.length_append] at cA3
   refine ⟨_,FWrite_a (ino:=1) (at':=at') (bl:=[(x.av,x.s.a),(x.bv,x.s.b)]) tr2.d.P tr2.f ⟨tr2.fs,tr2.fp⟩ hw hsl (by intro z hz; simp [idS] at hz; subst hz; exact ⟨hob.n1,hob.n3,hob.n4⟩) (by
    intro y hy;simp only [List.mem_cons,List.not_mem_nil,or_false] at hy;rcases hy with rfl | rfl
    ·exact ⟨x.ha.bytes _,oa,by simp only; omega,by simp only [x.ha.noId]; simp⟩
    ·exact ⟨x.hb.bytes _,ob,by simp only; omega,by simp only [x.hb.noId]; simp⟩) (by simp) (by rw [cA3]; omega) (by rw [cA3]; omega), ?_⟩
   rw [show ([(x.av,x.s.a),(x.bv,x.s.b)] : List (AV × List UInt8)).flatMap (λx=>zufZ x.2)=zufZ x.s.a ++ (zufZ x.s.b ++ []) from rfl,pcs_two (by omega) (by omega)];rintro r H3 ⟨p3,rfl,st3,fo3,cw⟩;have tr3:=tr2.write st3 fo3 cw;have ho3:=ho2.write cw;have hw2:=write2_w hw 1 at' (A:=x.s.a) (C:=x.s.b);have hn2:=write2_n s 1 at' x.s.a x.s.b;simp only [zoZ,gCS,gCZ,zdZ];rw [znqZ]; unfold zgnZ;simp only [ziZ,Nat.zero_add,zdZ,znZ ho3.at',zhZ,i1];obtain ⟨r,H4,⟨rfl,q4,ds4,f4⟩,hc⟩:=RPieces_c tr3.d.D hw 1 at' (by omega) (b:=x.s.a) (by omega) (by omega) x.ha;refine bC_of hc ?_;have tr4:=tr3.doc ds4 f4;have ho4:=ho3.doc f4;have n1:=piecesS_n s 1 at' x.s.a;have w1:=piecesS_w hw 1 at' x.s.a;simp only [zoZ,gCS,gCZ,zdZ];rw [znsZ]; unfold zghZ;simp only [zbbsZ,zdZ];rw [zneZ]; unfold zggZ;simp only [zsZ]
   -- both are alike
   have tail : ∀ (n e : Int) (s' : StS) (q5 : AV) (H5 : AH),Trio s' s' os od fo 1 (at' + n) p3 q5 H5→SW (1 + 1080 * (j + 1)) s'→0≤n→n≤120→zctZ R v (.ptr os 0) (.ptr od 0) (.ptr fo 0) (I 1) (I at') (I j) (I n) (I e) (I n) (I e) H5 (λr H=>r = .lit (.bool true)):=by
    intro n e s' q5 H5 tr5 hw5 hn0 hn1;rw [znyZ]; unfold zfxZ;simp only [zuZ (a:=at') (b:=n) (by omega) (by omega),zdZ];rw [zntZ]; unfold zgbZ;simp only [znvZ,ne_eq,not_true_eq_false,dFf,zdZ,zgsZ,beq_self_eq_true,zcpZ,zbcZ,if_false,Bool.false_eq_true];rw [znoZ]; unfold zfrZ;simp only [zsZ,zmZ];exact fin s' (at' + n) p3 q5 H5 tr5 hw5 (by omega) (by omega)
   by_cases cc : (zchZ s 1 at' x.s.a).1.2=0
   ·have e2 : write2 s 1 at' x.s.a x.s.b=(((zchZ s 1 at' x.s.a).1.1 + (zchZ (zchZ s 1 at' x.s.a).2 1 (at' + (zchZ s 1 at' x.s.a).1.1) x.s.b).1.1,(zchZ (zchZ s 1 at' x.s.a).2 1 (at' + (zchZ s 1 at' x.s.a).1.1) x.s.b).1.2),(zchZ (zchZ s 1 at' x.s.a).2 1 (at' + (zchZ s 1 at' x.s.a).1.1) x.s.b).2):=if_pos cc
    simp only [cc,dTt,zbdZ];rw [zoaZ]; unfold zftZ;have n2:=piecesS_n (zchZ s 1 at' x.s.a).2 1 (at' + (zchZ s 1 at' x.s.a).1.1) x.s.b;simp only [zuZ (a:=at') (b:=(zchZ s 1 at' x.s.a).1.1) (by omega) (by omega),ziZ,Nat.zero_add,zdZ,znZ ho4.at',zhZ,i2];obtain ⟨r,H5,⟨rfl,q5,ds5,f5⟩,hc⟩:=RPieces_c tr4.d.D w1 1 (at' + (zchZ s 1 at' x.s.a).1.1) (by omega) (b:=x.s.b) (by omega) (by omega) x.hb;refine bC_of hc ?_;have tr5:=tr4.doc ds5 f5;rw [e2] at tr5 hw2 hn2 ⊢;simp only at tr5 hw2 hn2;simp only [zoZ,gCS,gCZ,zdZ];rw [zndZ]; unfold zfqZ;simp only [zuZ (a:=(zchZ s 1 at' x.s.a).1.1) (b:=(zchZ (zchZ s 1 at' x.s.a).2 1 (at' + (zchZ s 1 at' x.s.a).1.1) x.s.b).1.1) (by omega) (by omega),zdZ];exact tail _ _ _ _ _ tr5 (hw2.mono (by omega)) (by omega) (by omega)
   ·have e2 : write2 s 1 at' x.s.a x.s.b=zchZ s 1 at' x.s.a:=if_neg cc
    rw [e2] at tr4 hw2 hn2 ⊢;simp only [cc,dFf,zmZ];exact tail _ _ _ _ _ tr4 (hw2.mono (by omega)) (by omega) (by omega)
  have hcases : k=0∨k=1∨k=2∨k=3:=by omega
  rcases hcases with rfl | rfl | rfl | rfl
  ·simp only [eql8,Int.reduceEq,Int.cast_ofNat_Int,dTt,dFf,zdZ,zsZ,zbdZ,zmZ]
   exact wr
  ·simp only [eql8,Int.reduceEq,Int.cast_ofNat_Int,dTt,dFf,zdZ,zsZ,zbdZ,zmZ]
   exact wr
  ·-- reading
   simp only [eql8,Int.reduceEq,Int.cast_ofNat_Int,dTt,dFf,zdZ,zsZ,zbdZ,zmZ];rw [zdeZ]; unfold zciZ;simp only [eql8,Int.reduceEq,Int.cast_ofNat_Int,dTt,dFf,zdZ,zsZ,zbdZ,zmZ];rw [zfhZ]; unfold zdmZ;simp only [zsZ,zbdZ,ziZ,Nat.zero_add,zdZ,znZ ho.at',zhZ,i3];obtain ⟨R1,hR1,r,H2,⟨rfl,hF2,b2⟩,hc⟩:=CReadG_c tr.f tr.d.P hw (by omega) tr.fs x.s.n (by omega);refine bC_of hc ?_;have tr2:=tr.but hF2 b2;have ho2:=ho.but b2;have hlen:=readS_len s 1 at' x.s.n;simp only [zoZ,gCS,gCZ,zdZ];rw [znnZ]; unfold zgdZ;simp only [ziZ,Nat.zero_add,zdZ,znZ ho2.at',zhZ,i3];obtain ⟨R2,hR2,r,H3,⟨rfl,g3⟩,hc⟩:=RRead_c tr2.d.D hw (by omega) 1 at' x.s.n;refine bC_of hc ?_;have tr3:=tr2.grew g3;simp only [zoZ,gCS,gCZ,zdZ];rw [znmZ]; unfold zfvZ;simp only [hR2.len,zuZ (a:=at') (b:=((readS s 1 at' x.s.n).1.length : Int)) (by omega) (by omega),zdZ];rw [znwZ]; unfold zgaZ;simp only [acB_spec (hR1.bytes H3),acB_spec (hR2.bytes H3),zdZ,abT_neq,ne_eq,not_true_eq_false,dFf,zgsZ,beq_self_eq_true,zcpZ,znvZ,zbcZ,if_false,Bool.false_eq_true];rw [znuZ]; unfold zgcZ;simp only [zsZ,zmZ];exact fin _ _ _ _ _ tr3 (hw.mono (by omega)) (by omega) (by omega)
  ·-- seeking
   simp only [eql8,Int.reduceEq,Int.cast_ofNat_Int,dTt,dFf,zdZ,zsZ,zbdZ,zmZ];rw [zdeZ]; unfold zciZ;simp only [eql8,Int.reduceEq,Int.cast_ofNat_Int,dTt,dFf,zdZ,zsZ,zbdZ,zmZ];rw [zfhZ]; unfold zdmZ
   have seek : ∀ (H0 : AH),H0=H1→zebZ R v (.ptr os 0) (.ptr od 0) (.ptr fo 0) (I 1) (I at') (I j) (.ptr xo 0) (B (decide (May x.s.n))) H0 (λr H=>r = .lit (.bool true)):=by
    rintro H0 rfl;rw [zncZ]; unfold zgoZ;simp only [zgZ,zdZ,ziZ,Nat.zero_add,znZ ho.at',zhZ,i3];obtain ⟨r,H2,⟨rfl,hF2,b2⟩,hc⟩:=SeekG_c tr.f x.s.n;refine bC_of hc ?_;have tr2:=tr.but hF2 b2;have ho2:=ho.but b2;simp only [abB_neq,ne_eq,not_true_eq_false,dFf,zdZ];rw [znlZ]; unfold zgpZ;simp only [zsZ,zmZ];rw [znrZ]; unfold zgmZ;rw [znzZ]; unfold zglZ
    by_cases hm : May x.s.n
    ·simp only [hm,dTt,zsZ,zbdZ,ziZ,Nat.zero_add,zdZ,znZ ho2.at',zhZ,i3]
     rw [if_pos hm] at tr2;unfold May at hm;exact fin _ _ _ _ _ tr2 (hw.mono (by omega)) (by omega) (by omega)
    ·simp only [hm,dFf,zsZ,zmZ]
     rw [if_neg hm] at tr2;exact fin _ _ _ _ _ tr2 (hw.mono (by omega)) (by omega) (by omega)
   simp only [zsZ,zmZ,ziZ,Nat.zero_add,zdZ,znZ ho.at',zhZ,i3,abI_geq,zgsZ]
   by_cases m1 : 0≤x.s.n
   ·have em : decide (May x.s.n)=decide (x.s.n≤4611686018427387904):=by
     unfold May
     by_cases m2 : x.s.n≤4611686018427387904 <;> simp [m1,m2]
    have:=seek H1 rfl
    rw [em] at this;simp only [m1,dTt,beq_self_eq_true,zcpZ,zdZ,ziZ,Nat.zero_add,znZ ho.at',zhZ,i3,abI_leq,zbcZ,if_true];exact this
   ·have em : decide (May x.s.n)=false:=decide_eq_false λq=>m1 q.1
    have:=seek H1 rfl
    rw [em] at this;simp only [m1,dFf,show ((false == true)=false) from rfl,zrrZ,zdZ,zbcZ,if_false,Bool.false_eq_true];exact this
 by_cases c3 : 300 < x.s.n
 ·by_cases c4 : x.s.n≤4096
  ·simp only [c3,c4,dTt,beq_self_eq_true,zcpZ,zdZ,zgsZ,ziZ,Nat.zero_add,znZ ho.at',zhZ,i3,abI_leq,zbcZ,if_true,if_false,Bool.false_eq_true,zsZ,zbdZ]
   exact zyZ zrhZ (by trivial)
  ·simp only [c3,c4,dTt,dFf,beq_self_eq_true,zcpZ,zdZ,zgsZ,ziZ,Nat.zero_add,znZ ho.at',zhZ,i3,abI_leq,zbcZ,if_true,if_false,Bool.false_eq_true,zsZ,zmZ]
   simp only [zdZ,ziZ,Nat.zero_add,znZ ho.at',zhZ,i0] at kinds ⊢;exact kinds
 ·simp only [c3,dFf,beq_self_eq_true,zcpZ,zdZ,zgsZ,show ((false == true)=false) from rfl,zrrZ,zbcZ,if_true,if_false,Bool.false_eq_true,zsZ,zmZ]
  simp only [zdZ,ziZ,Nat.zero_add,znZ ho.at',zhZ,i0] at kinds ⊢;exact kinds
end Go.Proofs.YtlhiaihmkjlaaaaGreat.Av
namespace Go.Proofs.YtlhiaihmkjlaaaaGreat
theorem cursorPlays_holds : Rows.CursorPlaysSaid:=cursorPlays_of Av.cursorPlays_calls
#print axioms cursorPlays_holds
end Go.Proofs.YtlhiaihmkjlaaaaGreat
end
