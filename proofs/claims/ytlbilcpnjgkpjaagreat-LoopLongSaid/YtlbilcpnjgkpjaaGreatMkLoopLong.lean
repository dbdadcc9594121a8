/- The law and its row. No condition. -/
import Derived.Test.YtlbilcpnjgkpjaaGreatMkI
import Derived.Below
import Derived.Carry
import Derived.ChangeOld
import Derived.OpenShut
import Derived.ProofKit
import Derived.ShutString
import Derived.SizedLaws
import Derived.Test.YtlbilcpnjgkpjaaGreatRows
import Derived.WalkKit
set_option linter.unusedVariables false
set_option linter.unusedSimpArgs false
set_option maxRecDepth 100000
section
namespace Go.Proofs.YtlbilcpnjgkpjaaGreat.Av
open Go Go.RowKit
def byteK (s i : Nat) : UInt8:=if (i / 8 + s) % 3=0 then 0 else UInt8.ofNat ((s * 31 + i * 7 + i / 8 * s) % 251)
def bytesK (s n : Nat) : List UInt8:=(List.range n).map (byteK s)
theorem zlrZ (s n : Nat) : (bytesK s n).length=n:=by simp [bytesK]
theorem acI_u8 {n : Nat} (h : n < 256) : acI .u8 (I n)=some (.lit (.int .u8 n)):=by
 have : (IntKind.u8).wrap (n : Int)=n:=by
  simp [IntKind.wrap,IntKind.bits,IntKind.signed]; omega
 simp [acI,this]
theorem zrow_u8 (n : Nat) : zrow [(.lit (.int .u8 0))] n=encB (List.replicate n 0):=by
 unfold zrow encB
 induction n with
 | zero => rfl
 | succ n ih => rw [List.replicate_succ,List.replicate_succ,List.flatten_cons,ih]; rfl
theorem set_bytes {s i n : Nat} {y : UInt8} (hi : i < n) : (bytesK s i ++ List.replicate (n - i) 0).set i y=bytesK s i ++ y :: List.replicate (n - (i + 1)) 0:=by
 rw [List.set_append,if_neg (by rw [zlrZ]; omega),zlrZ,Nat.sub_self,show n - i=n - (i + 1) + 1 by omega,List.replicate_succ,List.set_cons_zero]
theorem Bytes_p (k : UInt8) {n : Nat} (hn : n≤10000) : ∃ R,SV encU 1 (bytesK k.toNat n) R∧BPure Tryz.prog 16 [.lit (.int .u8 k.toNat),I n] R:=by
 have hk : k.toNat < 256:=k.toNat_lt
 have key : ∃ r X,zaZ X 1 r=some (encB (bytesK k.toNat n),n)∧BCall Tryz.prog 16 [.lit (.int .u8 k.toNat),I n] [] r X:=salvorkeep_Bytes_ok (by
  unfold zomZ
  have e1 : amk 1 1 [(.lit (.int .u8 0))] [] (I n) (I n)=some (.sl 0 0 n 1 (.ex n),[some (.cells (encB (List.replicate n 0)))]):=by
   show (if 0≤(n : Int)∧(n : Int)≤n∧((1 : Nat) : Int) * n≤281474976710656∧(n : Int)≤9223372036854775807 then some (AV.sl 0 0 (n : Int).toNat 1 (.ex (n : Int).toNat),[some (AObj.cells (zrow [(.lit (.int .u8 0))] (n : Int).toNat))]) else none)=_
   rw [if_pos ⟨by omega,by omega,by omega,by omega⟩,Int.toNat_natCast,zrow_u8]
  rw [e1]
  simp only [bH_some]
  refine zrgZ (fun m x0 x1 x5 x6 H' => ∃ i : Nat,i + m=n∧x0 = .lit (.int .u8 k.toNat)∧x1=I n∧x5 = .sl 0 0 n 1 (.ex n)∧x6=I i∧H'=[some (.cells (encB (bytesK k.toNat i ++ List.replicate (n - i) 0)))]) ?_ n ⟨0,by omega,rfl,rfl,rfl,rfl,by simp [bytesK]⟩
  rintro m x0 x1 x5 x6 H' R hR ⟨i,hi,rfl,rfl,rfl,rfl,rfl⟩
  unfold zgpZ
  rcases Nat.lt_or_ge i n with h | h
  ·have hd : i / 8 * k.toNat≤2000 * 256:=Nat.mul_le_mul (by omega) (by omega)
   have e2 : acI .i64 (.lit (.int .u8 k.toNat))=some (I k.toNat):=acI_i64 (by omega) (by omega)
   have e3 : abI .mul (I k.toNat) (.lit (.int .i64 31))=some (I ((k.toNat * 31 : Nat) : Int)):=by rw [abI_mul (by omega) (by omega)]; congr 3
   have e4 : abI .mul (I i) (.lit (.int .i64 7))=some (I ((i * 7 : Nat) : Int)):=by rw [abI_mul (by omega) (by omega)]; congr 3
   have e5 : abI .add (I ((k.toNat * 31 : Nat) : Int)) (I ((i * 7 : Nat) : Int))=some (I ((k.toNat * 31 + i * 7 : Nat) : Int)):=by rw [abI_add (by omega) (by omega)]; congr 3
   have e6 : abI .quo (I i) (.lit (.int .i64 8))=some (I ((i / 8 : Nat) : Int)):=by rw [abI_quo (by omega) (by omega) (by omega)]; congr 3
   have e7 : abI .mul (I ((i / 8 : Nat) : Int)) (I k.toNat)=some (I ((i / 8 * k.toNat : Nat) : Int)):=by
    have q : ((i / 8 : Nat) : Int) * (k.toNat : Int)=((i / 8 * k.toNat : Nat) : Int):=(Int.natCast_mul _ _).symm
    rw [abI_mul (by rw [q]; omega) (by rw [q]; omega),q]
   have e8 : abI .add (I ((k.toNat * 31 + i * 7 : Nat) : Int)) (I ((i / 8 * k.toNat : Nat) : Int))=some (I ((k.toNat * 31 + i * 7 + i / 8 * k.toNat : Nat) : Int)):=by rw [abI_add (by omega) (by omega)]; congr 3
   have e9 : abI .rem (I ((k.toNat * 31 + i * 7 + i / 8 * k.toNat : Nat) : Int)) (.lit (.int .i64 251))=some (I (((k.toNat * 31 + i * 7 + i / 8 * k.toNat) % 251 : Nat) : Int)):=by rw [abI_rem (by omega) (by omega)]; congr 3
   have lt : (k.toNat * 31 + i * 7 + i / 8 * k.toNat) % 251 < 256:=by have:=Nat.mod_lt (k.toNat * 31 + i * 7 + i / 8 * k.toNat) (show 251 > 0 by omega); omega
   have e10:=acI_u8 lt
   have e11 : aixS 1 (.sl 0 0 n 1 (.ex n)) (I i)=some (.ptr 0 i):=by simp [aixS,aint]; omega
   have e12 : abI .add (I ((i / 8 : Nat) : Int)) (I k.toNat)=some (I ((i / 8 + k.toNat : Nat) : Int)):=by rw [abI_add (by omega) (by omega)]; congr 3
   have e13 : abI .rem (I ((i / 8 + k.toNat : Nat) : Int)) (.lit (.int .i64 3))=some (I (((i / 8 + k.toNat) % 3 : Nat) : Int)):=by rw [abI_rem (by omega) (by omega)]; congr 3
   have put : ∀ (cs : List UInt8) (y : UInt8),cs.length=n→ast 1 [some (.cells (encB cs))] (.ptr 0 i) (.lit (.int .u8 y.toNat))=some [some (.cells (encB (cs.set i y)))]:=by
    intro cs y hc
    rw [ast_ptr (n:=1) (xs:=[.lit (.int .u8 y.toNat)]) (cs:=encB cs) rfl rfl rfl (by rw [znfZ]; omega)]
    simp [splice,encB,List.map_set]
   have hlen : (bytesK k.toNat i ++ List.replicate (n - i) (0 : UInt8)).length=n:=by simp [zlrZ]; omega
   have hy : (((k.toNat * 31 + i * 7 + i / 8 * k.toNat) % 251 : Nat) : Int)=((UInt8.ofNat ((k.toNat * 31 + i * 7 + i / 8 * k.toNat) % 251)).toNat : Int):=by
    rw [UInt8.toNat_ofNat_of_lt' lt]
   rw [hy] at e10
   have snoc : ∀ y,byteK k.toNat i=y→bytesK k.toNat i ++ y :: List.replicate (n - (i + 1)) 0=bytesK k.toNat (i + 1) ++ List.replicate (n - (i + 1)) 0:=by
    rintro y rfl
    unfold bytesK
    rw [List.range_succ,List.map_append]
    simp
   simp only [abI_lss,bO_some,bB_bool,Int.ofNat_lt,h,decide_true,bI_true,e2,e3,e4,e5,e6,e7,e8,e9,hy,e10,e11,put _ _ hlen,bS_some,e12,e13,abI_eql,set_bytes h]
   have hlen2 : (bytesK k.toNat i ++ UInt8.ofNat ((k.toNat * 31 + i * 7 + i / 8 * k.toNat) % 251) :: List.replicate (n - (i + 1)) 0).length=n:=by simp [zlrZ]; omega
   by_cases c : (i / 8 + k.toNat) % 3=0
   ·have c' : (((i / 8 + k.toNat) % 3 : Nat) : Int)=0:=by omega
    have p0:=put _ 0 hlen2
    have e14 : (AV.lit (.int .u8 ((0 : UInt8).toNat : Int))) = .lit (.int .u8 0):=rfl
    rw [e14] at p0
    simp only [c',decide_true,bI_true,p0,bS_some]
    rw [zlpZ]; unfold zghZ
    simp only [abI_add (a:=i) (b:=1) (by omega) (by omega),bO_some]
    refine hR (m - 1) _ _ _ _ _ (by omega) ⟨i + 1,by omega,rfl,rfl,rfl,by simp, ?_⟩
    rw [← snoc 0 (by unfold byteK; rw [if_pos c])]
    congr 4
    rw [List.set_append,if_neg (by rw [zlrZ]; omega),zlrZ,Nat.sub_self,List.set_cons_zero]
   ·have c' : ¬ (((i / 8 + k.toNat) % 3 : Nat) : Int)=0:=by omega
    simp only [c',decide_false,zpZ]
    rw [zlpZ]; unfold zghZ
    simp only [abI_add (a:=i) (b:=1) (by omega) (by omega),bO_some]
    refine hR (m - 1) _ _ _ _ _ (by omega) ⟨i + 1,by omega,rfl,rfl,rfl,by simp, ?_⟩
    rw [← snoc _ (by unfold byteK; rw [if_neg c])]
  ·have : i=n:=by omega
   subst this
   simp [zaZ,znfZ,zlrZ,List.take_of_length_le])
 obtain ⟨r,X,h1,h2⟩:=key
 obtain ⟨R,⟨hR,hR2⟩,hp⟩:=BPure.sl (P:=Tryz.prog) rfl (zruZ _) ⟨r,X,h1,h2⟩
 exact ⟨R,⟨hR,fun H => by rw [hR2 H,flat_encU,zlrZ]⟩,hp⟩
end Go.Proofs.YtlbilcpnjgkpjaaGreat.Av
end
section
namespace Go.Proofs.YtlbilcpnjgkpjaaGreat.Av
open Go Go.RowKit
noncomputable def loopLong_r0 : Rd Tryz.prog 43 Int:=(Rd.int .u16 Tryz.underlying43 (by kernel_rfl))
noncomputable def loopLong_r1 : Rd Tryz.prog 5 UInt8:=(Rd.byte Tryz.underlying5 (by kernel_rfl))
end Go.Proofs.YtlbilcpnjgkpjaaGreat.Av
namespace Go.Proofs.YtlbilcpnjgkpjaaGreat
open Go.ChangeShapes Go.WideShapes Go.ChangeAt Go.RowKit
namespace loopLong
set_option maxRecDepth 100000 in
theorem lifted (calls : ∀ (x0 : Int),Av.loopLong_r0.ok x0→∀ (x1 : UInt8),Av.loopLong_r1.ok x1→Av.ACalls Tryz.prog 5 (Av.loopLong_r0.enc x0 ++ Av.loopLong_r1.enc x1) [] fun r _ => r = .lit (.bool true)) (os : Os) (started : os.Started) (H : Type) (enc : TypeId × Value→H) :
  ReturnsInHanded {} Tryz.checked os 5 .any (Rows.loopLongSpec.pre6 enc Tryz.prog Tryz.f5 Rows.loopLongRow.domain false) (Rows.loopLongSpec.post enc Tryz.prog Tryz.f5 false true false false):=by
 refine returnsInHanded_of_change_sized (C:=Tryz.checked) Av.own started (by kernel_rfl) Tryz.func5
  (ChangeSpec.witness6 (enc:=enc) (C:=Tryz.checked) false ⟨#[],#[.int .u16 0,.int .u8 0],[]⟩ 8 (by kernel_rfl) (by kernel_rfl) (by kernel_rfl) (by kernel_rfl)) ?_
 intro W base args ds gs before hval0 hW hcnd hsz0 _
 have hval : ∀ (j : Nat) t v,Tryz.f5.params[j]? = some t→args[j]? = some v→Value.okWide Tryz.prog W .any base t v:=hval0
 have hW':=hW
 obtain ⟨p,q,hA0,hV,rfl,hfz,hnd⟩:=hW
 have hA : DataW.TrodAll enc Tryz.prog W 0 (fun _ => true) true Tryz.f5.params.toList args.toList ds p:=hA0
 rw [Tryz.params5] at hA hval
 obtain ⟨v0,vs0,d0,ds0,p0,q0,hargs,rfl,rfl,h0,r0⟩:=trodAll_cons hA
 obtain ⟨v1,vs1,d1,ds1,p1,q1,rfl,rfl,rfl,h1,r1⟩:=trodAll_cons r0
 obtain ⟨rfl,rfl,rfl⟩:=trodAll_nil r1
 obtain rfl : args = #[v0,v1]:=by cases args; simp_all
 obtain ⟨rfl,rfl⟩:=trodVars_none hV
 obtain ⟨b0,rfl⟩:=okWide_int Tryz.underlying43 (hval 0 43 v0 rfl rfl)
 have lt0 : ∀ x ∈ p0,x.block < W.heap.size:=by obtain ⟨m,hm⟩:=h0; exact DataW.trod_lt m _ _ _ hm
 obtain ⟨x0,ok0,vr0⟩:=Av.loopLong_r0.arg1 rfl h0
 obtain ⟨b1,rfl⟩:=okWide_int Tryz.underlying5 (hval 1 5 v1 rfl rfl)
 have lt1 : ∀ x ∈ p1,x.block < W.heap.size:=by obtain ⟨m,hm⟩:=h1; exact DataW.trod_lt m _ _ _ hm
 obtain ⟨x1,ok1,vr1⟩:=Av.loopLong_r1.arg1 rfl h1
 refine (Av.law_calls (calls x0 ok0 x1 ok1) W (vr0.append vr1)).mono fun e W' ⟨he,bel⟩ => ?_
 subst he
 exact ⟨_,rfl,_,_,_,[],_,[],hW',trodAll_mk1 (shut_bool Tryz.underlying4 _),(trodAll_cons_mk (Below.trod Av.laidOut (by kernel_rfl) (of_decide_eq_true (by kernel_rfl)) h0 bel lt0) (trodAll_cons_mk (Below.trod Av.laidOut (by kernel_rfl) (of_decide_eq_true (by kernel_rfl)) h1 bel lt1) trodAll_mk0)),rfl,bel.frame _,fun h => by cases h⟩
end loopLong
theorem loopLong_of (calls : ∀ (x0 : Int),Av.loopLong_r0.ok x0→∀ (x1 : UInt8),Av.loopLong_r1.ok x1→Av.ACalls Tryz.prog 5 (Av.loopLong_r0.enc x0 ++ Av.loopLong_r1.enc x1) [] fun r _ => r = .lit (.bool true)) : Rows.LoopLongSaid :=
 OpenClaim.holds_of_wide 5 Tryz.f5 rfl rfl rfl rfl rfl rfl rfl ⟨rfl,rfl,rfl,rfl,rfl⟩ rfl rfl rfl rfl rfl (by kernel_rfl) Tryz.func5 (by kernel_rfl)
  (of_decide_eq_true (by kernel_rfl)) (by unfold Func.isWrapper; first | (rw [if_pos (by decide +kernel)]; kernel_rfl) | (rw [if_neg (by decide +kernel)]; exact ⟨rfl,rfl⟩))
  (fun os started H enc _ => loopLong.lifted calls os started H enc)
end Go.Proofs.YtlbilcpnjgkpjaaGreat
end
section
set_option maxHeartbeats 2000000
namespace Go.Proofs.YtlbilcpnjgkpjaaGreat.Av
open Go Go.RowKit
theorem openBig : (openS (newS 4096) [98] true).1=(1,0)∧Txr [98] 4096 [] (openS (newS 4096) [98] true).2∧KP (openS (newS 4096) [98] true).2:=by
 refine ⟨rfl,⟨[],⟨by decide,by decide,by decide,rfl,rfl,rfl⟩,by simp,by simp [hasL]⟩,⟨by decide,by decide⟩⟩
theorem absl_one {H : AH} {v : AV} (h : oneA v=true) : absl H 1 1 (zrow [(.lit (.slice none 0 0))] 1) [(0,1,v)]=some (.sl H.length 0 1 1 (.ex 1),H ++ [some (.cells [v])]):=by
 simp [absl,absf,zrow,zbmZ h,splice]
theorem putS_w {N : Nat} {s : StS} (h : SW N s) (nm : List UInt8) (l : List (List UInt8)) : SW (N + 2 + 9 * lenB l) (putS s nm l).2:=by
 have w1:=openS_w h nm true
 unfold putS
 generalize openS s nm true=O at *
 have w2:=truncS_w w1 O.1.1 0
 generalize truncS O.2 O.1.1 0=Q at *
 have w3:=pcs_w (ino:=O.1.1) (l:=l) (a:=0) (m:=0) w2
 split
 ·exact w1.mono (by omega)
 ·split
  ·exact w2.mono (by omega)
  ·split
   ·exact w3.mono (by omega)
   ·exact (syncS_w w3 _).mono (by omega)
theorem chunks_of (b : List UInt8) : (chunkB b).flatten=b∧(∀ x ∈ chunkB b,x.length≤4096)∧lenB (chunkB b)=b.length:=by
 have key : ∀ k,k≤chN b.length 4096→(((List.range k).map fun j => (b.drop (j * 4096)).take (min 4096 (b.length - j * 4096))).flatten=b.take (k * 4096))∧lenB ((List.range k).map fun j => (b.drop (j * 4096)).take (min 4096 (b.length - j * 4096)))=min (k * 4096) b.length:=by
  intro k
  induction k with
  | zero => intro _; simp [lenB]
  | succ k ih =>
   intro hk
   obtain ⟨i1,i2⟩:=ih (by omega)
   have hlt:=(chN_lt (len:=b.length) (k:=k) (show 0 < 4096 by omega)).1 (by omega)
   rw [List.range_succ,List.map_append,List.flatten_append,i1]
   constructor
   ·simp only [List.map_cons,List.map_nil,List.flatten_cons,List.flatten_nil,List.append_nil]
    rw [show (k + 1) * 4096=k * 4096 + 4096 by omega,List.take_add]
    congr 1
    rw [List.take_eq_take_iff,List.length_drop]
    omega
   ·unfold lenB at i2 ⊢
    rw [List.map_append,List.sum_append,i2]
    simp only [List.map_cons,List.map_nil,List.sum_cons,List.sum_nil,List.length_take,List.length_drop]
    omega
 obtain ⟨k1,k2⟩:=key (chN b.length 4096) (Nat.le_refl _)
 have hge : b.length≤chN b.length 4096 * 4096:=by unfold chN; omega
 refine ⟨?_, ?_, ?_⟩
 ·unfold chunkB; rw [k1,List.take_of_length_le hge]
 ·intro x hx
  unfold chunkB at hx
  obtain ⟨j,-,rfl⟩:=List.mem_map.1 hx
  rw [List.length_take]; omega
 ·unfold chunkB; rw [k2]; omega
theorem Pending_c {N : Nat} {s : StS} {os : Nat} {p : AV} {H : AH} (h : StAt s os p H) : BCall Tryz.prog 17 [.ptr os 0] H (I s.pend.length) H:=by
 obtain ⟨r,H',⟨rfl,rfl⟩,hc⟩:=zujZ (a0:=.ptr os 0) (H:=H) (K:=fun r H' => r=I s.pend.length∧H'=H) (by
  obtain ⟨a,b,c,d,pv,h⟩:=h
  have hpn : pv.length=s.pend.length:=by rw [← h.pm,List.length_map]
  have alv : alnS p=some (I (s.pend.length : Nat)):=by rw [← hpn]; exact zcgZ h.ps
  unfold zjpZ
  simp only [zlZ,bO_some,zuZ,Nat.zero_add,ald_ptr h.obj,zkZ,List.getElem?_cons_succ,List.getElem?_cons_zero,alv]
  exact ⟨by trivial,by trivial⟩)
 exact hc
theorem loopLong_calls (hR : BPure Tryz.prog 3 [] (B true)) (x0 : Int) (h0 : loopLong_r0.ok x0) (x1 : UInt8) (h1 : loopLong_r1.ok x1) :
  ACalls Tryz.prog 5 (loopLong_r0.enc x0 ++ loopLong_r1.enc x1) [] fun r _ => r = .lit (.bool true):=by
 have hargs : loopLong_r0.enc x0 ++ loopLong_r1.enc x1=[.lit (.int .u16 x0),.lit (.int .u8 x1.toNat)]:=rfl
 rw [hargs]
 have hb : 0≤x0∧x0≤65535:=h0
 refine ztcZ ?_
 unfold zijZ
 have e1 : acI .i64 (.lit (.int .u16 x0))=some (I x0):=acI_i64 (by omega) (by omega)
 obtain ⟨n,hn,hn5⟩ : ∃ n : Nat,x0 % 5000=n∧n < 5000:=⟨(x0 % 5000).toNat,by omega,by omega⟩
 have e2 : abI .rem (I x0) (.lit (.int .i64 5000))=some (I n):=by rw [← hn]; exact abI_rem (by omega) (by omega)
 simp only [e1,bO_some,e2]
 obtain ⟨r,H1,⟨p,rfl,l1,st0,g,hid⟩,hc⟩:=New_c 4096 [] (by omega)
 refine bC_of hc ?_
 have e3 : abN .eql nilP (.ptr ([] : AH).length 0) (.lit (.pointer none))=some (B false):=rfl
 simp only [e3,bO_some,bB_bool,zpZ]
 obtain ⟨R,hv,hp⟩:=Bytes_p x1 (n:=n) (by omega)
 refine bP_pure hp ?_
 have hlen : (bytesK x1.toNat n).length=n:=zlrZ _ _
 generalize bytesK x1.toNat n=A at *
 rw [absl_one (SV.oneA hv),bH_some]
 have g2:=Grew.app H1 [some (AObj.cells [R])]
 obtain ⟨o1,o2,o3⟩:=openBig
 obtain ⟨c1,c2,c3⟩:=chunks_of A
 have eb : (([(R,A)] : List (AV × List UInt8)).flatMap fun x => chunkB x.2)=chunkB A:=by simp
 obtain ⟨s1,q1,q2,q3⟩:=put_done (l:=chunkB A) o1 o2 o3 (by omega) c2 (by omega)
 have w1:=putS_w (newS_w 4096) [98] (chunkB A)
 have lp0:=st0.p_lt
 have lo0:=st0.os_lt
 have eS : (AV.lit (.string ⟨#[98]⟩))=S (bstr [98]):=rfl
 refine ⟨_,Put_a (nm:=[98]) (bl:=[(R,A)]) (st0.grew g2) (newS_w 4096) (by simp) (by simp [zaZ]) (by intro j hj; simp [idS] at hj; subst hj; exact ⟨by omega,fun q => by have:=lp0 _ q; omega⟩) (by
  intro x hx
  simp only [List.mem_singleton] at hx
  subst hx
  exact ⟨hv.bytes _,SV.oneA hv,by simp only; omega,by simp only [hv.noId]; simp⟩) (by simp) (by rw [eb,c3]; omega), ?_⟩
 rw [eb,q1]
 rw [q1] at w1
 rintro r H2 ⟨p2,rfl,st2,f2⟩
 rw [c1] at q2
 obtain ⟨r,H3,⟨x,rfl,sx,g3⟩,hc⟩:=Cat_c q2 st2 w1 (by omega) (by omega)
 refine bC_of hc ?_
 have st3:=st2.grew g3
 simp only [zvZ,List.getElem?_cons_succ,List.getElem?_cons_zero,bO_some,abI_eql,decide_true,bG_bool,beq_self_eq_true,gO_true,zbnZ,if_true,acB_spec sx,acB_spec (hv.bytes H3),abT_eql,gC_true]
 refine bC_of (Pending_c (N:=0) st3) ?_
 rw [q3.p]
 simp only [List.length_nil,Int.natCast_zero,bO_some,abI_eql,decide_true,bG_bool,beq_self_eq_true,gO_true,zbnZ,if_true,gP_true]
 exact bP_pure hR (by trivial)
end Go.Proofs.YtlbilcpnjgkpjaaGreat.Av
namespace Go.Proofs.YtlbilcpnjgkpjaaGreat
theorem loopLong_holds : Rows.LoopLongSaid:=loopLong_of (Av.loopLong_calls Av.loopRuns_p)
#print axioms loopLong_holds
end Go.Proofs.YtlbilcpnjgkpjaaGreat
end
