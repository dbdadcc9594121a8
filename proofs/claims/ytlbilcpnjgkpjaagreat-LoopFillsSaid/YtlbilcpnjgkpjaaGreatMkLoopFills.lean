/- The law and its row. No condition. -/
import Derived.Test.YtlbilcpnjgkpjaaGreatMkI
import Derived.Below
import Derived.Carry
import Derived.ChangeOld
import Derived.OpenShut
import Derived.ProofKit
import Derived.ShutString
import Derived.SizedLaws
import Derived.Test.YtlbilcpnjgkpjaaGreatRows
import Derived.WalkKit
set_option linter.unusedVariables false
set_option linter.unusedSimpArgs false
set_option maxRecDepth 100000
section
namespace Go.Proofs.YtlbilcpnjgkpjaaGreat.Av
open Go Go.RowKit
noncomputable def loopFills_r0 : Rd Tryz.prog 28 ((Sl UInt8) × ((Sl Int) × ((Sl (Int × (Int × Unit))) × ((Sl Int) × Unit)))):=(Rd.struct (Rds.cons (Rd.slice (Rd.byte Tryz.underlying5 (by kernel_rfl)) Tryz.underlying24 (by kernel_rfl)) (Rds.cons (Rd.slice (Rd.int .i64 Tryz.underlying3 (by kernel_rfl)) Tryz.underlying25 (by kernel_rfl)) (Rds.cons (Rd.slice (Rd.struct (Rds.cons (Rd.int .i64 Tryz.underlying3 (by kernel_rfl)) (Rds.cons (Rd.int .i64 Tryz.underlying3 (by kernel_rfl)) (Rds.nil _ _) rfl rfl) rfl rfl) Tryz.underlying69 (by kernel_rfl)) Tryz.underlying26 (by kernel_rfl)) (Rds.cons (Rd.slice (Rd.int .i64 Tryz.underlying3 (by kernel_rfl)) Tryz.underlying25 (by kernel_rfl)) (Rds.nil _ _) rfl rfl) rfl rfl) rfl rfl) rfl rfl) Tryz.underlying28 (by kernel_rfl))
noncomputable def loopFills_r1 : Rd Tryz.prog 46 (Sl (Int × (Int × Unit))):=(Rd.slice (Rd.struct (Rds.cons (Rd.int .i64 Tryz.underlying3 (by kernel_rfl)) (Rds.cons (Rd.int .i64 Tryz.underlying3 (by kernel_rfl)) (Rds.nil _ _) rfl rfl) rfl rfl) Tryz.underlying51 (by kernel_rfl)) Tryz.underlying46 (by kernel_rfl))
noncomputable def loopFills_r2 : Rd Tryz.prog 25 (Sl Int):=(Rd.slice (Rd.int .i64 Tryz.underlying3 (by kernel_rfl)) Tryz.underlying25 (by kernel_rfl))
end Go.Proofs.YtlbilcpnjgkpjaaGreat.Av
namespace Go.Proofs.YtlbilcpnjgkpjaaGreat
open Go.ChangeShapes Go.WideShapes Go.ChangeAt Go.RowKit
namespace loopFills
set_option maxRecDepth 100000 in
theorem lifted (calls : ∀ (x0 : ((Av.Sl UInt8) × ((Av.Sl Int) × ((Av.Sl (Int × (Int × Unit))) × ((Av.Sl Int) × Unit))))),Av.loopFills_r0.ok x0→∀ (x1 : (Av.Sl (Int × (Int × Unit)))),Av.loopFills_r1.ok x1→∀ (x2 : (Av.Sl Int)),Av.loopFills_r2.ok x2→Av.ACalls Tryz.prog 6 ([.agg (Av.loopFills_r0.enc x0)] ++ Av.loopFills_r1.enc x1 ++ Av.loopFills_r2.enc x2) [] fun r _ => r = .lit (.bool true)) (os : Os) (started : os.Started) (H : Type) (enc : TypeId × Value→H) :
  ReturnsInHanded {} Tryz.checked os 6 .any (Rows.loopFillsSpec.pre6 enc Tryz.prog Tryz.f6 Rows.loopFillsRow.domain false) (Rows.loopFillsSpec.post enc Tryz.prog Tryz.f6 false true false false):=by
 refine returnsInHanded_of_change_sized (C:=Tryz.checked) Av.own started (by kernel_rfl) Tryz.func6
  (ChangeSpec.witness6 (enc:=enc) (C:=Tryz.checked) false ⟨#[],#[.agg #[.slice none 0 0,.slice none 0 0,.slice none 0 0,.slice none 0 0],.slice none 0 0,.slice none 0 0],[]⟩ 8 (by kernel_rfl) (by kernel_rfl) (by kernel_rfl) (by kernel_rfl)) ?_
 intro W base args ds gs before hval0 hW hcnd hsz0 _
 have hval : ∀ (j : Nat) t v,Tryz.f6.params[j]? = some t→args[j]? = some v→Value.okWide Tryz.prog W .any base t v:=hval0
 have hW':=hW
 obtain ⟨p,q,hA0,hV,rfl,hfz,hnd⟩:=hW
 have hA : DataW.TrodAll enc Tryz.prog W 0 (fun _ => true) true Tryz.f6.params.toList args.toList ds p:=hA0
 rw [Tryz.params6] at hA hval
 obtain ⟨v0,vs0,d0,ds0,p0,q0,hargs,rfl,rfl,h0,r0⟩:=trodAll_cons hA
 obtain ⟨v1,vs1,d1,ds1,p1,q1,rfl,rfl,rfl,h1,r1⟩:=trodAll_cons r0
 obtain ⟨v2,vs2,d2,ds2,p2,q2,rfl,rfl,rfl,h2,r2⟩:=trodAll_cons r1
 obtain ⟨rfl,rfl,rfl⟩:=trodAll_nil r2
 obtain rfl : args = #[v0,v1,v2]:=by cases args; simp_all
 obtain ⟨rfl,rfl⟩:=trodVars_none hV
 obtain ⟨b0,rfl,-⟩:=okWide_struct Tryz.underlying28 (hval 0 28 v0 rfl rfl)
 have lt0 : ∀ x ∈ p0,x.block < W.heap.size:=by obtain ⟨m,hm⟩:=h0; exact DataW.trod_lt m _ _ _ hm
 obtain ⟨x0,ok0,vr0⟩:=Av.loopFills_r0.argN h0
 obtain ⟨b1,len1,cap1,rfl⟩:=okWide_slice Tryz.underlying46 (hval 1 46 v1 rfl rfl)
 have lt1 : ∀ x ∈ p1,x.block < W.heap.size:=by obtain ⟨m,hm⟩:=h1; exact DataW.trod_lt m _ _ _ hm
 obtain ⟨x1,ok1,vr1⟩:=Av.loopFills_r1.arg1 rfl h1
 obtain ⟨b2,len2,cap2,rfl⟩:=okWide_slice Tryz.underlying25 (hval 2 25 v2 rfl rfl)
 have lt2 : ∀ x ∈ p2,x.block < W.heap.size:=by obtain ⟨m,hm⟩:=h2; exact DataW.trod_lt m _ _ _ hm
 obtain ⟨x2,ok2,vr2⟩:=Av.loopFills_r2.arg1 rfl h2
 refine (Av.law_calls (calls x0 ok0 x1 ok1 x2 ok2) W ((vr0.append vr1).append vr2)).mono fun e W' ⟨he,bel⟩ => ?_
 subst he
 exact ⟨_,rfl,_,_,_,[],_,[],hW',trodAll_mk1 (shut_bool Tryz.underlying4 _),(trodAll_cons_mk (Below.trod Av.laidOut (by kernel_rfl) (of_decide_eq_true (by kernel_rfl)) h0 bel lt0) (trodAll_cons_mk (Below.trod Av.laidOut (by kernel_rfl) (of_decide_eq_true (by kernel_rfl)) h1 bel lt1) (trodAll_cons_mk (Below.trod Av.laidOut (by kernel_rfl) (of_decide_eq_true (by kernel_rfl)) h2 bel lt2) trodAll_mk0))),rfl,bel.frame _,fun h => by cases h⟩
end loopFills
theorem loopFills_of (calls : ∀ (x0 : ((Av.Sl UInt8) × ((Av.Sl Int) × ((Av.Sl (Int × (Int × Unit))) × ((Av.Sl Int) × Unit))))),Av.loopFills_r0.ok x0→∀ (x1 : (Av.Sl (Int × (Int × Unit)))),Av.loopFills_r1.ok x1→∀ (x2 : (Av.Sl Int)),Av.loopFills_r2.ok x2→Av.ACalls Tryz.prog 6 ([.agg (Av.loopFills_r0.enc x0)] ++ Av.loopFills_r1.enc x1 ++ Av.loopFills_r2.enc x2) [] fun r _ => r = .lit (.bool true)) : Rows.LoopFillsSaid :=
 OpenClaim.holds_of_wide 6 Tryz.f6 rfl rfl rfl rfl rfl rfl rfl ⟨rfl,rfl,rfl,rfl,rfl⟩ rfl rfl rfl rfl rfl (by kernel_rfl) Tryz.func6 (by kernel_rfl)
  (of_decide_eq_true (by kernel_rfl)) (by unfold Func.isWrapper; first | (rw [if_pos (by decide +kernel)]; kernel_rfl) | (rw [if_neg (by decide +kernel)]; exact ⟨rfl,rfl⟩))
  (fun os started H enc _ => loopFills.lifted calls os started H enc)
end Go.Proofs.YtlbilcpnjgkpjaaGreat
end
section
set_option maxHeartbeats 2000000
namespace Go.Proofs.YtlbilcpnjgkpjaaGreat.Av
open Go Go.RowKit
noncomputable def plOps : List Oper:=(opsOf (sub [true,true,false] (bodyOf Tryz.f6))).toList
def plT (u w x1 : AV) : List AV:=expand (mk 151 0 [1,2,3]) [u,w,x1]
theorem pl0 (u w x : AV) : OpIs Tryz.prog plOps (plT u w x) 0 [] fun vals H K => gO true (ald true 4 H x) fun v => K v H :=
 OpIs.op (plOps.getD 0 default) (by kernel_rfl) (by kernel_rfl) (by kernel_rfl) (by kernel_rfl) (fun ρ => by kernel_rfl) (fun vals H K h => Eq.mpr (by kernel_rfl : sOp Tryz.prog pqf none0 false (aeval (pt plOps vals (fun _ => true) (plT u w x) 0)) H (plOps.getD 0 default) true K=gO true (ald true 4 H x) fun v => K v H) h)
theorem pl1 (u w x : AV) : OpIs Tryz.prog plOps (plT u w x) 1 [0] fun vals H K => ACalls Tryz.prog 8 [vals 0] H K :=
 OpIs.call (plOps.getD 1 default) (by kernel_rfl) (by kernel_rfl) (by kernel_rfl) _ (fun vals => [vals 0]) (by kernel_rfl) (fun vals => by kernel_rfl) (fun vals H K h => h)
theorem pl2 (u w x : AV) : OpIs Tryz.prog plOps (plT u w x) 2 [] fun vals H K => gO true (ald true 4 H x) fun v => K v H :=
 OpIs.op (plOps.getD 2 default) (by kernel_rfl) (by kernel_rfl) (by kernel_rfl) (by kernel_rfl) (fun ρ => by kernel_rfl) (fun vals H K h => Eq.mpr (by kernel_rfl : sOp Tryz.prog pqf none0 false (aeval (pt plOps vals (fun _ => true) (plT u w x) 2)) H (plOps.getD 2 default) true K=gO true (ald true 4 H x) fun v => K v H) h)
theorem pl3 (u w x : AV) : OpIs Tryz.prog plOps (plT u w x) 3 [2,1] fun vals H K => ACalls Tryz.prog 19 [vals 2] H K :=
 OpIs.call (plOps.getD 3 default) (by kernel_rfl) (by kernel_rfl) (by kernel_rfl) _ (fun vals => [vals 2]) (by kernel_rfl) (fun vals => by kernel_rfl) (fun vals H K h => h)
theorem pl4 (u w x : AV) : OpIs Tryz.prog plOps (plT u w x) 4 [1,3] fun vals H K => gO true (some (vals 1)) fun v => K v H :=
 OpIs.op (plOps.getD 4 default) (by kernel_rfl) (by kernel_rfl) (by kernel_rfl) (by kernel_rfl) (fun ρ => by kernel_rfl) (fun vals H K h => Eq.mpr (by kernel_rfl : sOp Tryz.prog pqf none0 false (aeval (pt plOps vals (fun _ => true) (plT u w x) 4)) H (plOps.getD 4 default) true K=gO true (some (vals 1)) fun v => K v H) h)
theorem pl5 (u w x : AV) : OpIs Tryz.prog plOps (plT u w x) 5 [3] fun vals H K => gO true (some (vals 3)) fun v => K v H :=
 OpIs.op (plOps.getD 5 default) (by kernel_rfl) (by kernel_rfl) (by kernel_rfl) (by kernel_rfl) (fun ρ => by kernel_rfl) (fun vals H K h => Eq.mpr (by kernel_rfl : sOp Tryz.prog pqf none0 false (aeval (pt plOps vals (fun _ => true) (plT u w x) 5)) H (plOps.getD 5 default) true K=gO true (some (vals 3)) fun v => K v H) h)
theorem plK (u w x : AV) (vals : Nat→AV) (H : AH) (K : AV→AH→Prop) : (kSeq (cutC (mk 151 0 [1,2,7,8]) (zdZ [true,true,true] 5)) (kRet Tryz.prog Tryz.f6.results.toList K)) .normal (pt plOps vals (fun _ => true) (plT u w x) 6) H=zjeZ u w (vals 4) (vals 5) H K:=by kernel_rfl
structure Two (D : Dev) (L : Int→Int) (cc : Int) (n1 m0 m1 o o2 : Nat) (dv : AV) (bo lo : Nat) (sv ra rb rs re gv : AV) (T : Int) (H : AH) : Prop where
 P : DiskP 1 n1 H o D L cc dv bo lo sv
 f : Fine D L cc
 ex : ∃ gone,RefP m0 m1 H o2 D gone cc ra rb rs re gv∧remK D gone=L∧(gone.length : Int)=nsec D∧∀ x ∈ gone,0≤x∧x≤T
 t : cc≤T
theorem fill_two {D : Dev} {L : Int→Int} {cc : Int} {n1 m0 m1 o o2 : Nat} {dv : AV} {bo lo : Nat} {sv ra rb rs re gv : AV} {T : Int} {H2 : AH} {pos n : Int} {r : AV} {H : AH}
  (hT : Two D L cc n1 m0 m1 o o2 dv bo lo sv ra rb rs re gv T H) (hm : n1≤m0) (ht : 0≤T∧T≤900000000 - 4097) (hmay : mayD D) (l1 : D.bad.length≤1000000) (l2 : D.soft.length≤1000000) (l3 : D.shorts.length≤1000000) (hp : pos≤9223372036854775807)
  (hk : GetK 1 n1 H o D dv bo lo sv (fillS D L cc pos n) r H2) :
  ∃ v,r = .tup [v,I (fillS D L cc pos n).2.1]∧∃ r2 H3,(∃ v2,r2 = .tup [v2,I (fillS D L cc pos n).2.1]∧zaZ H3 1 v=some (encB (fillS D L cc pos n).1,(fillS D L cc pos n).1.length)∧zaZ H3 1 v2=some (encB (fillS D L cc pos n).1,(fillS D L cc pos n).1.length)∧Two D (fillS D L cc pos n).2.2.1 (fillS D L cc pos n).2.2.2 n1 m0 m1 o o2 dv bo lo sv ra rb rs re gv (T + 4097) H3)∧BCall Tryz.prog 20 [.ptr o2 0,I pos,I n] H2 r2 H3:=by
 obtain ⟨w,rfl,a1,a1o,a1i,a2,a3⟩:=hk
 obtain ⟨gone,hR,hrem,hgl,hg⟩:=hT.ex
 have hfc:=hT.f.c
 have htt:=hT.t
 have hr : RFine D gone:=⟨hmay,l1,l2,l3,hgl,fun x hx => by have:=hg x hx; omega⟩
 have hR2:=hR.keep a3 (.inr hm)
 refine ⟨w,rfl, ?_⟩
 obtain ⟨r2,H3,⟨w2,gone',rfl,b1,b2,b3,b4,b6,b7⟩,b8⟩:=ref_Fill_c hR2 hr (fun x hx => by have:=hg x hx; omega) (by omega) (by rw [hrem]; exact hT.f) pos n hp
 rw [hrem] at b1 b2 b3 b8
 obtain ⟨f1,f2,f3⟩:=fillS_fine hT.f (by omega) pos n
 refine ⟨_,H3,⟨w2, ?_, ?_,b1, ?_⟩,b8⟩
 ·rfl
 ·exact zbZ a1 fun j hj => b7.2 j (zfZ a1 j hj) (fun hh => by have:=a1i j hj; have:=hR.top; omega)
 ·exact ⟨a2.keep b7 (.inl hm),f1,⟨gone',b2,b3,b4,fun x hx => by have:=b6 _ hg x hx; omega⟩,by omega⟩
theorem loopFills_calls (x0 : Sl UInt8 × Sl Int × Sl (Int × Int × Unit) × Sl Int × Unit) (h0 : loopFills_r0.ok x0) (x1 : Sl (Int × Int × Unit)) (h1 : loopFills_r1.ok x1) (x2 : Sl Int) (h2 : loopFills_r2.ok x2) :
  ACalls Tryz.prog 6 ([.agg (loopFills_r0.enc x0)] ++ loopFills_r1.enc x1 ++ loopFills_r2.enc x2) [] fun r _ => r = .lit (.bool true):=by
 obtain ⟨xa,xb,xc,xe,u⟩:=x0
 have va:=bytes_sv xa h0.1.1
 have vb:=ints_sv xb h0.2.1.1
 have vc:=softs_sv xc h0.2.2.1.1
 have ve:=ints_sv xe h0.2.2.2.1.1
 have vq:=softs_sv x1 h1.1
 have vk:=ints_sv x2 h2.1
 have hq : ∀ s ∈ x1.l.map (fun x => (x.1,x.2.1)),s.1≤9223372036854775807:=fun s hs => by
  obtain ⟨x,hx,rfl⟩:=List.mem_map.1 hs
  exact (in64d (h1.2.2 x hx).1).2
 show ACalls Tryz.prog 6 [.agg [if xa.nil then AV.lit (.slice none 0 0) else .imm (xa.l.flatMap encU) xa.l.length 1,if xb.nil then AV.lit (.slice none 0 0) else .imm (xb.l.flatMap encI) xb.l.length 1,if xc.nil then AV.lit (.slice none 0 0) else .imm (xc.l.flatMap senc) xc.l.length 2,if xe.nil then AV.lit (.slice none 0 0) else .imm (xe.l.flatMap encI) xe.l.length 1],if x1.nil then AV.lit (.slice none 0 0) else .imm (x1.l.flatMap senc) x1.l.length 2,if x2.nil then AV.lit (.slice none 0 0) else .imm (x2.l.flatMap encI) x2.l.length 1] [] _
 generalize (if xa.nil then AV.lit (.slice none 0 0) else .imm (xa.l.flatMap encU) xa.l.length 1)=a at va
 generalize (if xb.nil then AV.lit (.slice none 0 0) else .imm (xb.l.flatMap encI) xb.l.length 1)=b at vb
 generalize (if xc.nil then AV.lit (.slice none 0 0) else .imm (xc.l.flatMap senc) xc.l.length 2)=c at vc
 generalize (if xe.nil then AV.lit (.slice none 0 0) else .imm (xe.l.flatMap encI) xe.l.length 1)=e at ve
 generalize (if x1.nil then AV.lit (.slice none 0 0) else .imm (x1.l.flatMap senc) x1.l.length 2)=qv at vq
 generalize (if x2.nil then AV.lit (.slice none 0 0) else .imm (x2.l.flatMap encI) x2.l.length 1)=kv at vk
 generalize (x1.l.map fun x => (x.1,x.2.1))=ql at vq hq
 generalize x2.l=kl at vk
 have hV : DevV ⟨xa.l,xb.l,xc.l.map fun x => (x.1,x.2.1),xe.l⟩ a b c e:=⟨va,vb,vc,ve⟩
 generalize (⟨xa.l,xb.l,xc.l.map fun x => (x.1,x.2.1),xe.l⟩ : Dev)=d at hV
 refine zrfZ ?_
 unfold zgqZ
 simp [oneA_sv hV.data,oneA_sv hV.bad,oneA_sv hV.soft,oneA_sv hV.shorts,rdCells]
 first | refine bP_of (law10_Few_p hV) ?_ | refine bP_pure (law10_Few_p hV) ?_
 by_cases c1 : d.data.length≤400∧d.bad.length≤60∧d.soft.length≤60∧d.shorts.length≤200
 rotate_left
 ·simp [c1]
  first | refine bP_of (loopRuns_p) ?_ | refine bP_pure (loopRuns_p) ?_
  rfl
 by_cases c2 : (30 : Int) < ql.length
 ·simp [c1,vq.len,c2]
  first | refine bP_of (loopRuns_p) ?_ | refine bP_pure (loopRuns_p) ?_
  rfl
 by_cases c3 : (30 : Int) < kl.length
 ·simp [c1,vq.len,c2,vk.len,c3]
  first | refine bP_of (loopRuns_p) ?_ | refine bP_pure (loopRuns_p) ?_
  rfl
 simp [c1,vq.len,c2,vk.len,c3]
 refine unR.mk ?_
 show ACode Tryz.prog (.region 3 plOps.toArray true) _ (plT qv kv (.ptr 0 0)) [some (.cells [a,b,c,e])]
 refine pair_region (x:=.ptr 0 0) hV (by omega) (by omega) (by omega) (by omega) (by kernel_rfl) (by kernel_rfl) (fun H g => by rw [ald_ptr (g.cells (o:=0) (x:=some (.cells [a,b,c,e])) rfl)]; rfl) (pl0 _ _ _) (pl1 _ _ _) (pl2 _ _ _) (pl3 _ _ _) (pl4 _ _ _) (pl5 _ _ _) ?_
 intro H vals o n1 dv bo lo sv m0 m1 o2 ra rb rs re gv g e4 e5 hP hm hR
 rw [plK,e4,e5,znpZ]
 unfold zguZ
 have e0 : abN .eql nilP (.ptr o 0) (.lit (.pointer none))=some (B false):=rfl
 simp [e0]
 obtain ⟨l1,l2,l3⟩:=eff_len d (by omega) (by omega) (by omega)
 have hmay:=eff_may d
 have hdl:=hmay.1
 have hlen0 : ((List.replicate (nsec (Eff d)).toNat (0 : Int)).length : Int)=nsec (Eff d):=by rw [List.length_replicate]; unfold nsec; omega
 generalize Eff d=D at *
 have hT0 : Two D (sumS D.soft) 0 n1 m0 m1 o o2 dv bo lo sv ra rb rs re gv 0 H:=⟨hP,⟨fun k => by have:=sumS_bnd hmay.2.2 k; omega,by omega,by omega,l3⟩,⟨_,hR,rem0 D _,hlen0,fun x hx => by rw [List.eq_of_mem_replicate hx]; omega⟩,by omega⟩
 refine zlyZ (fun q y1 y2 y7 y8 y9 H' => ∃ (i : Nat) (L : Int→Int) (cc : Int),i + q=ql.length∧qv=y1∧kv=y2∧y7 = .ptr o 0∧y8 = .ptr o2 0∧y9=I i∧Two D L cc n1 m0 m1 o o2 dv bo lo sv ra rb rs re gv (4097 * i) H') ?_ ql.length
  ⟨0,sumS D.soft,0,by omega,rfl,rfl,rfl,rfl,rfl,by rw [show (4097 * ((0 : Nat) : Int))=0 from rfl]; exact hT0⟩
 rintro q y1 y2 y7 y8 y9 H' R hRR ⟨i,L,cc,hi,rfl,rfl,rfl,rfl,rfl,hT⟩
 unfold zdxZ
 have hfc:=hT.f.c
 have htt:=hT.t
 rcases Nat.lt_or_ge i ql.length with hlt | hge
 ·have hx:=List.getElem?_eq_getElem hlt
  have hmem:=List.getElem_mem hlt
  generalize ql[i]=y at hx hmem
  have hy:=hq y hmem
  simp [vq.len,hlt,vq.idx encS_len hx rfl,encS]
  obtain ⟨r,H2,k1,a4⟩:=Fill_c hT.P hT.f (by omega) y.1 y.2 hy
  obtain ⟨w,rfl,r2,H3,⟨w2,rfl,s1,s2,hT3⟩,b8⟩:=fill_two hT hm (by omega) hmay l1 l2 l3 hy k1
  refine bC_of a4 ?_
  simp
  refine bC_of b8 ?_
  generalize fillS D L cc y.1 y.2=res at *
  have hv2:=vq.idx encS_len hx (i:=i) rfl
  simp [acB_spec s1,acB_spec s2,abT_neq]
  refine bC_of (disk_Calls_c hT3.P) ?_
  obtain ⟨gone3,o3,-⟩:=hT3.ex
  simp [o3.obj,abI_add (a:=i) (b:=1) (by omega) (by omega)]
  exact hRR (q - 1) _ _ _ _ _ _ (by omega) ⟨i + 1,_,_,by omega,rfl,rfl,rfl,rfl,rfl,by have:=hT3; rw [show (4097 * (i : Int) + 4097)=4097 * ((i + 1 : Nat) : Int) by omega] at this; exact this⟩
 ·have hil : i=ql.length:=by omega
  subst hil
  simp [vq.len]
  refine zlxZ (fun q y2 y7 y8 y14 H2 => ∃ (j : Nat) (L : Int→Int) (cc : Int),j + q=kl.length∧kv=y2∧y7 = .ptr o 0∧y8 = .ptr o2 0∧y14=I j∧Two D L cc n1 m0 m1 o o2 dv bo lo sv ra rb rs re gv (4097 * (30 + j)) H2) ?_ kl.length
   ⟨0,L,cc,by omega,rfl,rfl,rfl,rfl,hT.P,hT.f,by
    obtain ⟨gone,k1,k2,k3,k4⟩:=hT.ex
    exact ⟨gone,k1,k2,k3,fun x hx => by have:=k4 x hx; omega⟩,by omega⟩
  rintro q y2 y7 y8 y14 H2 R hRR ⟨j,L,cc,hj,rfl,rfl,rfl,rfl,hT⟩
  unfold zdwZ
  have hfc:=hT.f.c
  have htt:=hT.t
  have j26 : ∀ (w w2 : AV) (L2 : Int→Int) (c2 : Int) (code : Int) (bs : List UInt8) (H3 : AH),zaZ H3 1 w=some (encB bs,bs.length)→zaZ H3 1 w2=some (encB bs,bs.length)→j < kl.length→Two D L2 c2 n1 m0 m1 o o2 dv bo lo sv ra rb rs re gv (4097 * (30 + j) + 4097) H3 →
    zcqZ R kv (.ptr o 0) (.ptr o2 0) (I j) w (I code) w2 (I code) H3 (fun r _ => r = .lit (.bool true)):=by
   intro w w2 L2 c2 code bs H3 s1 s2 hlt hT3
   rw [zmyZ]
   unfold zgaZ
   simp [acB_spec s1,acB_spec s2,abT_neq]
   refine bC_of (disk_Calls_c hT3.P) ?_
   obtain ⟨gone3,o3,-⟩:=hT3.ex
   simp [o3.obj]
   rw [zmvZ]
   unfold zgdZ
   simp
   rw [zmrZ]
   unfold zgbZ
   simp [abI_add (a:=j) (b:=1) (by omega) (by omega)]
   exact hRR (q - 1) _ _ _ _ _ (by omega) ⟨j + 1,_,_,by omega,rfl,rfl,rfl,rfl,by have:=hT3; rw [show (4097 * (30 + (j : Int)) + 4097)=4097 * (30 + ((j + 1 : Nat) : Int)) by omega] at this; exact this⟩
  rcases Nat.lt_or_ge j kl.length with hlt | hge
  ·have hx:=List.getElem?_eq_getElem hlt
   generalize kl[j]=y at hx
   simp [vk.len,hlt,vk.idx encI_len hx rfl,encI]
   obtain ⟨r,H3,k1,a4⟩:=Sector_c hT.P hT.f (by omega) y
   by_cases h1 : y < 0
   ·have hs : sectS D L cc y=([],5,L,cc):=if_pos (.inl h1)
    rw [hs] at k1
    obtain ⟨w,rfl,a1,a1o,a1i,a2,a3⟩:=k1
    refine bC_of a4 ?_
    simp [vk.idx encI_len hx rfl,encI,h1,show ¬ 0≤y by omega]
    obtain ⟨gone,k1,k2,k3,k4⟩:=hT.ex
    exact j26 w nilSl L cc 5 [] H3 a1 rfl hlt ⟨a2,hT.f,⟨gone,k1.keep a3 (.inr hm),k2,k3,fun x hx => by have:=k4 x hx; omega⟩,by omega⟩
   by_cases h2 : 8192≤y
   ·have hs : sectS D L cc y=([],5,L,cc):=if_pos (.inr h2)
    rw [hs] at k1
    obtain ⟨w,rfl,a1,a1o,a1i,a2,a3⟩:=k1
    refine bC_of a4 ?_
    simp [vk.idx encI_len hx rfl,encI,show 0≤y by omega,show ¬ y < 8192 by omega]
    obtain ⟨gone,k1,k2,k3,k4⟩:=hT.ex
    exact j26 w nilSl L cc 5 [] H3 a1 rfl hlt ⟨a2,hT.f,⟨gone,k1.keep a3 (.inr hm),k2,k3,fun x hx => by have:=k4 x hx; omega⟩,by omega⟩
   have hs : sectS D L cc y=fillS D L cc (y * 8) 8:=if_neg (by omega)
   rw [hs] at k1
   obtain ⟨w,rfl,r2,H4,⟨w2,rfl,s1,s2,hT3⟩,b8⟩:=fill_two hT hm (by omega) hmay l1 l2 l3 (by omega) k1
   refine bC_of a4 ?_
   simp [vk.idx encI_len hx rfl,encI,show 0≤y by omega,show y < 8192 by omega,abI_mul (a:=y) (b:=8) (by omega) (by omega)]
   refine bC_of b8 ?_
   simp
   exact j26 w w2 _ _ _ _ H4 s1 s2 hlt hT3
  ·simp [vk.len,show ¬ j < kl.length by omega]
   first | refine bP_of (loopRuns_p) ?_ | refine bP_pure (loopRuns_p) ?_
   rfl
end Go.Proofs.YtlbilcpnjgkpjaaGreat.Av
namespace Go.Proofs.YtlbilcpnjgkpjaaGreat
theorem loopFills_holds : Rows.LoopFillsSaid:=loopFills_of Av.loopFills_calls
#print axioms loopFills_holds
end Go.Proofs.YtlbilcpnjgkpjaaGreat
end
