/- The law and its row. No condition. -/
import Derived.Test.YtlbilcpnjgkpjaaGreatMwH
set_option linter.unusedVariables false
set_option linter.unusedSimpArgs false
set_option maxRecDepth 100000
section
namespace Go.Proofs.YtlbilcpnjgkpjaaGreat.Av
open Go Go.RowKit
def byteK (s i : Nat) : UInt8:=if (i / 8 + s) % 3=0 then 0 else UInt8.ofNat ((s * 31 + i * 7 + i / 8 * s) % 251)
def bytesK (s n : Nat) : List UInt8:=(List.range n).map (byteK s)
theorem zjlZ (s n : Nat) : (bytesK s n).length=n:=by simp [bytesK]
theorem acI_u8 {n : Nat} (h : n < 256) : acI .u8 (I n)=some (.lit (.int .u8 n)):=by
 have : (IntKind.u8).wrap (n : Int)=n:=by
  simp [IntKind.wrap,IntKind.bits,IntKind.signed]; omega
 simp [acI,this]
theorem zrow_u8 (n : Nat) : zrow [(.lit (.int .u8 0))] n=encB (List.replicate n 0):=by
 unfold zrow encB
 induction n with
 | zero => rfl
 | succ n ih => rw [List.replicate_succ,List.replicate_succ,List.flatten_cons,ih]; rfl
theorem set_bytes {s i n : Nat} {y : UInt8} (hi : i < n) : (bytesK s i ++ List.replicate (n - i) 0).set i y=bytesK s i ++ y :: List.replicate (n - (i + 1)) 0:=by
 rw [List.set_append,if_neg (by rw [zjlZ]; omega),zjlZ,Nat.sub_self,show n - i=n - (i + 1) + 1 by omega,List.replicate_succ,List.set_cons_zero]
theorem Bytes_p (k : UInt8) {n : Nat} (hn : n≤10000) : ∃ R,SV encU 1 (bytesK k.toNat n) R∧BPure Tryz.prog 16 [.lit (.int .u8 k.toNat),I n] R:=by
 have hk : k.toNat < 256:=k.toNat_lt
 have key : ∃ r X,zaZ X 1 r=some (encB (bytesK k.toNat n),n)∧BCall Tryz.prog 16 [.lit (.int .u8 k.toNat),I n] [] r X:=salvorkeep_Bytes_ok (by
  unfold zllZ
  have e1 : amk 1 1 [(.lit (.int .u8 0))] [] (I n) (I n)=some (.sl 0 0 n 1 (.ex n),[some (.cells (encB (List.replicate n 0)))]):=by
   show (if 0≤(n : Int)∧(n : Int)≤n∧((1 : Nat) : Int) * n≤281474976710656∧(n : Int)≤9223372036854775807 then some (AV.sl 0 0 (n : Int).toNat 1 (.ex (n : Int).toNat),[some (AObj.cells (zrow [(.lit (.int .u8 0))] (n : Int).toNat))]) else none)=_
   rw [if_pos ⟨by omega,by omega,by omega,by omega⟩,Int.toNat_natCast,zrow_u8]
  rw [e1]
  simp only [bH_some]
  refine znmZ (fun m x0 x1 x5 x6 H' => ∃ i : Nat,i + m=n∧x0 = .lit (.int .u8 k.toNat)∧x1=I n∧x5 = .sl 0 0 n 1 (.ex n)∧x6=I i∧H'=[some (.cells (encB (bytesK k.toNat i ++ List.replicate (n - i) 0)))]) ?_ n ⟨0,by omega,rfl,rfl,rfl,rfl,by simp [bytesK]⟩
  rintro m x0 x1 x5 x6 H' R hR ⟨i,hi,rfl,rfl,rfl,rfl,rfl⟩
  unfold zfoZ
  rcases Nat.lt_or_ge i n with h | h
  ·have hd : i / 8 * k.toNat≤2000 * 256:=Nat.mul_le_mul (by omega) (by omega)
   have e2 : acI .i64 (.lit (.int .u8 k.toNat))=some (I k.toNat):=acI_i64 (by omega) (by omega)
   have e3 : abI .mul (I k.toNat) (.lit (.int .i64 31))=some (I ((k.toNat * 31 : Nat) : Int)):=by rw [abI_mul (by omega) (by omega)]; congr 3
   have e4 : abI .mul (I i) (.lit (.int .i64 7))=some (I ((i * 7 : Nat) : Int)):=by rw [abI_mul (by omega) (by omega)]; congr 3
   have e5 : abI .add (I ((k.toNat * 31 : Nat) : Int)) (I ((i * 7 : Nat) : Int))=some (I ((k.toNat * 31 + i * 7 : Nat) : Int)):=by rw [abI_add (by omega) (by omega)]; congr 3
   have e6 : abI .quo (I i) (.lit (.int .i64 8))=some (I ((i / 8 : Nat) : Int)):=by rw [abI_quo (by omega) (by omega) (by omega)]; congr 3
   have e7 : abI .mul (I ((i / 8 : Nat) : Int)) (I k.toNat)=some (I ((i / 8 * k.toNat : Nat) : Int)):=by
    have q : ((i / 8 : Nat) : Int) * (k.toNat : Int)=((i / 8 * k.toNat : Nat) : Int):=(Int.natCast_mul _ _).symm
    rw [abI_mul (by rw [q]; omega) (by rw [q]; omega),q]
   have e8 : abI .add (I ((k.toNat * 31 + i * 7 : Nat) : Int)) (I ((i / 8 * k.toNat : Nat) : Int))=some (I ((k.toNat * 31 + i * 7 + i / 8 * k.toNat : Nat) : Int)):=by rw [abI_add (by omega) (by omega)]; congr 3
   have e9 : abI .rem (I ((k.toNat * 31 + i * 7 + i / 8 * k.toNat : Nat) : Int)) (.lit (.int .i64 251))=some (I (((k.toNat * 31 + i * 7 + i / 8 * k.toNat) % 251 : Nat) : Int)):=by rw [abI_rem (by omega) (by omega)]; congr 3
   have lt : (k.toNat * 31 + i * 7 + i / 8 * k.toNat) % 251 < 256:=by have:=Nat.mod_lt (k.toNat * 31 + i * 7 + i / 8 * k.toNat) (show 251 > 0 by omega); omega
   have e10:=acI_u8 lt
   have e11 : aixS 1 (.sl 0 0 n 1 (.ex n)) (I i)=some (.ptr 0 i):=by simp [aixS,aint]; omega
   have e12 : abI .add (I ((i / 8 : Nat) : Int)) (I k.toNat)=some (I ((i / 8 + k.toNat : Nat) : Int)):=by rw [abI_add (by omega) (by omega)]; congr 3
   have e13 : abI .rem (I ((i / 8 + k.toNat : Nat) : Int)) (.lit (.int .i64 3))=some (I (((i / 8 + k.toNat) % 3 : Nat) : Int)):=by rw [abI_rem (by omega) (by omega)]; congr 3
   have put : ∀ (cs : List UInt8) (y : UInt8),cs.length=n→ast 1 [some (.cells (encB cs))] (.ptr 0 i) (.lit (.int .u8 y.toNat))=some [some (.cells (encB (cs.set i y)))]:=by
    intro cs y hc
    rw [ast_ptr (n:=1) (xs:=[.lit (.int .u8 y.toNat)]) (cs:=encB cs) rfl rfl rfl (by rw [zknZ]; omega)]
    simp [splice,encB,List.map_set]
   have hlen : (bytesK k.toNat i ++ List.replicate (n - i) (0 : UInt8)).length=n:=by simp [zjlZ]; omega
   have hy : (((k.toNat * 31 + i * 7 + i / 8 * k.toNat) % 251 : Nat) : Int)=((UInt8.ofNat ((k.toNat * 31 + i * 7 + i / 8 * k.toNat) % 251)).toNat : Int):=by
    rw [UInt8.toNat_ofNat_of_lt' lt]
   rw [hy] at e10
   have snoc : ∀ y,byteK k.toNat i=y→bytesK k.toNat i ++ y :: List.replicate (n - (i + 1)) 0=bytesK k.toNat (i + 1) ++ List.replicate (n - (i + 1)) 0:=by
    rintro y rfl
    unfold bytesK
    rw [List.range_succ,List.map_append]
    simp
   simp only [abI_lss,bO_some,bB_bool,Int.ofNat_lt,h,decide_true,bI_true,e2,e3,e4,e5,e6,e7,e8,e9,hy,e10,e11,put _ _ hlen,bS_some,e12,e13,abI_eql,set_bytes h]
   have hlen2 : (bytesK k.toNat i ++ UInt8.ofNat ((k.toNat * 31 + i * 7 + i / 8 * k.toNat) % 251) :: List.replicate (n - (i + 1)) 0).length=n:=by simp [zjlZ]; omega
   by_cases c : (i / 8 + k.toNat) % 3=0
   ·have c' : (((i / 8 + k.toNat) % 3 : Nat) : Int)=0:=by omega
    have p0:=put _ 0 hlen2
    have e14 : (AV.lit (.int .u8 ((0 : UInt8).toNat : Int))) = .lit (.int .u8 0):=rfl
    rw [e14] at p0
    simp only [c',decide_true,bI_true,p0,bS_some]
    rw [zjbZ]; unfold zfxZ
    simp only [abI_add (a:=i) (b:=1) (by omega) (by omega),bO_some]
    refine hR (m - 1) _ _ _ _ _ (by omega) ⟨i + 1,by omega,rfl,rfl,rfl,by simp, ?_⟩
    rw [← snoc 0 (by unfold byteK; rw [if_pos c])]
    congr 4
    rw [List.set_append,if_neg (by rw [zjlZ]; omega),zjlZ,Nat.sub_self,List.set_cons_zero]
   ·have c' : ¬ (((i / 8 + k.toNat) % 3 : Nat) : Int)=0:=by omega
    simp only [c',decide_false,zlZ]
    rw [zjbZ]; unfold zfxZ
    simp only [abI_add (a:=i) (b:=1) (by omega) (by omega),bO_some]
    refine hR (m - 1) _ _ _ _ _ (by omega) ⟨i + 1,by omega,rfl,rfl,rfl,by simp, ?_⟩
    rw [← snoc _ (by unfold byteK; rw [if_neg c])]
  ·have : i=n:=by omega
   subst this
   simp [zaZ,zknZ,zjlZ,List.take_of_length_le])
 obtain ⟨r,X,h1,h2⟩:=key
 obtain ⟨R,⟨hR,hR2⟩,hp⟩:=BPure.sl (P:=Tryz.prog) rfl (zodZ _) ⟨r,X,h1,h2⟩
 exact ⟨R,⟨hR,fun H => by rw [hR2 H,flat_encU,zjlZ]⟩,hp⟩
end Go.Proofs.YtlbilcpnjgkpjaaGreat.Av
end
section
namespace Go.Proofs.YtlbilcpnjgkpjaaGreat.Av
open Go Go.RowKit
structure WholeN (D : Dev) (p k w : Nat) : Prop where
 le : w≤k
 good : ∀ j,j < w→p + j < D.data.length∧¬ (((p + j : Nat) : Int) / 8) ∈ D.bad
 stop : w=k∨D.data.length≤p + w∨(((p + w : Nat) : Int) / 8) ∈ D.bad
def codeW (D : Dev) (p k w : Nat) : Int:=if w < k∧p + w < D.data.length then 1 else 0
theorem partD_nat (l : List UInt8) (a b : Nat) : partD l (a : Int) (b : Int)=(l.drop a).take (b - a):=by
 unfold partD
 rw [show ((b : Int) - (a : Int)).toNat=b - a by omega,show ((a : Int)).toNat=a by omega]
theorem fillF_whole {D : Dev} {p k w : Nat} (hw : WholeN D p k w) (hk : k≤4096) : ∀ (f j : Nat) (c : Int),j≤w→k - j < f→∃ c',fillF D p k f ((D.data.drop p).take j) (fun _ => 0) c=((D.data.drop p).take w,codeW D p k w,(fun _ => 0),c'):=by
 intro f
 induction f with
 | zero => intro j c _ h; omega
 | succ f ih =>
  intro j c hj hf
  have hl : ((D.data.drop p).take j).length=j:=by
   rw [List.length_take,List.length_drop]
   rcases Nat.eq_zero_or_pos j with h0 | h0
   ·omega
   ·have:=(hw.good (j - 1) (by omega)).1; omega
  have hle:=hw.le
  rw [fillF_s,hl]
  by_cases c1 : (j : Int) < (k : Int)
  ·rw [if_pos c1]
   obtain ⟨b1,b2,b3⟩:=ask_bnd (D:=D) (c:=c) (pos:=((p : Int) + j)) (n:=((k : Int) - j)) (by omega)
   have nf : ∀ q,failS D (fun _ => 0) q ↔ q ∈ D.bad:=fun q => by unfold failS; simp
   have e5 : ¬ ((p : Int) + j < 0∨(k : Int) - j < 0∨4096 < (k : Int) - j):=by omega
   by_cases c2 : askS D c ((p : Int) + j) ((k : Int) - j)=0
   ·
    have eg : getS D (fun _ => 0) c ((p : Int) + j) ((k : Int) - j)=([],0,(fun _ => 0),c + 1):=by
     unfold getS; rw [if_neg e5,if_pos c2]
    have hend : D.data.length≤p + j:=by
     unfold askS at c2
     split at c2 <;> omega
    have ew : j=w:=by
     rcases Nat.lt_or_ge j w with h | h
     ·have:=(hw.good j h).1; omega
     ·omega
    subst ew
    rw [eg,if_pos rfl]
    refine ⟨c + 1, ?_⟩
    have : codeW D p k j=0:=if_neg (by omega)
    rw [this]
   ·by_cases c3 : (((p + j : Nat) : Int) / 8) ∈ D.bad
    ·have e8 : ((p : Int) + j) / 8=((p + j : Nat) : Int) / 8:=by omega
     have eg : getS D (fun _ => 0) c ((p : Int) + j) ((k : Int) - j)=([],1,(fun _ => 0),c + 1):=by
      unfold getS; rw [if_neg e5,if_neg c2,if_pos ((nf _).2 (by rw [e8]; exact c3)),if_pos (by rw [e8]; exact c3)]
     have ew : j=w:=by
      rcases Nat.lt_or_ge j w with h | h
      ·exact absurd c3 (hw.good j h).2
      ·omega
     subst ew
     rw [eg,if_pos rfl]
     refine ⟨c + 1, ?_⟩
     have : codeW D p k j=1:=if_pos ⟨by omega,by have:=b3 (by omega); omega⟩
     rw [this]
    ·have e8 : ((p : Int) + j) / 8=((p + j : Nat) : Int) / 8:=by omega
     have hE:=endS_spec D (fun _ => 0) (((p : Int) + j) / 8 + 1) ((p : Int) + j + askS D c ((p : Int) + j) ((k : Int) - j))
     have hEl:=hE.le
     have eg : getS D (fun _ => 0) c ((p : Int) + j) ((k : Int) - j)=(partD D.data ((p : Int) + j) (endS D (fun _ => 0) (((p : Int) + j) / 8 + 1) ((p : Int) + j + askS D c ((p : Int) + j) ((k : Int) - j))),0,(fun _ => 0),c + 1):=by
      unfold getS; rw [if_neg e5,if_neg c2,if_neg (by rw [nf,e8]; exact c3)]
     generalize askS D c ((p : Int) + j) ((k : Int) - j)=m at *
     generalize endS D (fun _ => 0) (((p : Int) + j) / 8 + 1) ((p : Int) + j + m)=e at *
     have hml:=b3 (by omega)
     have he : (p : Int) + j < e:=by rcases hEl.2 with h | h <;> omega
     obtain ⟨q,rfl⟩ : ∃ q : Nat,e=((p + q : Nat) : Int):=⟨(e - p).toNat,by omega⟩
     have hjq : j < q:=by omega
     have hqk : q≤k:=by omega
     have hql : p + q≤D.data.length:=by omega
     have hqw : q≤w:=by
      rcases Nat.lt_or_ge w q with h | h
      ·exfalso
       rcases hw.stop with s | s | s
       ·omega
       ·omega
       ·by_cases z : (((p + w : Nat) : Int) / 8)=((p + j : Nat) : Int) / 8
        ·rw [z] at s; exact c3 s
        ·exact hE.2 (((p + w : Nat) : Int) / 8) (by omega) (by omega) ((nf _).2 s)
      ·exact h
     have epd : partD D.data ((p : Int) + j) ((p + q : Nat) : Int)=((D.data.drop p).drop j).take (q - j):=by
      rw [show ((p : Int) + j)=((p + j : Nat) : Int) by omega,partD_nat,List.drop_drop]
      congr 1
      omega
     have hne : ((D.data.drop p).drop j).take (q - j) ≠ []:=by
      intro h
      have:=congrArg List.length h
      rw [List.length_take,List.length_drop,List.length_drop,List.length_nil] at this
      omega
     rw [eg]
     simp only [epd]
     rw [if_neg hne]
     have ecat : (D.data.drop p).take j ++ ((D.data.drop p).drop j).take (q - j)=(D.data.drop p).take q:=by
      rw [← List.take_add,show j + (q - j)=q by omega]
     rw [ecat]
     exact ih q (c + 1) hqw (by omega)
  ·rw [if_neg c1]
   have ew : j=w:=by omega
   subst ew
   refine ⟨c, ?_⟩
   have : codeW D p k j=0:=if_neg (by omega)
   rw [this]
theorem fillS_whole {D : Dev} {p k w : Nat} (hw : WholeN D p k w) (hk : k≤4096) (c : Int) : ∃ c',fillS D (fun _ => 0) c p k=((D.data.drop p).take w,codeW D p k w,(fun _ => 0),c'):=by
 unfold fillS
 rw [if_neg (by omega)]
 exact fillF_whole hw hk _ 0 c (Nat.zero_le _) (by omega)
structure OutP (B : Nat) (a0 : List AV) (dR : AV) (bl : List Int) (sl : List (Int × Int)) (hl : List Int) (b s h : AV) (H0 H : AH) : Prop where
 o0 : H[B]? = some (some (.cells a0))
 o1 : H[B + 1]? = some (some (.cells [nilSl,nilSl,nilSl,nilSl]))
 o2 : H[B + 2]? = some (some (.cells [dR,b,s,h]))
 kb : zaZ H 1 b=some (bl.flatMap encI,bl.length)
 ks : zaZ H 2 s=some (sl.flatMap encS,sl.length)
 kh : zaZ H 1 h=some (hl.flatMap encI,hl.length)
 ob : ownedS b=true
 os : ownedS s=true
 oh : ownedS h=true
 ib : ∀ i ∈ idS b,B + 3≤i
 is : ∀ i ∈ idS s,B + 3≤i
 ih : ∀ i ∈ idS h,B + 3≤i
 bs : ∀ i ∈ idS b,i ∉ idS s
 bh : ∀ i ∈ idS b,i ∉ idS h
 sh : ∀ i ∈ idS s,i ∉ idS h
 len : B + 3≤H.length
 g : ∀ i,i < B→H[i]? = H0[i]?
theorem absf_one {x : AV} (h : oneA x=true) : absf 1 1 (zrow [(.lit (.int .i64 0))] 1) [(0,1,x)]=some (.imm [x] 1 1):=by
 simp [absf,zrow,zbuZ h,splice]
theorem absf_two (x y : Int) : absf 2 1 (zrow [(.lit (.int .i64 0)),(.lit (.int .i64 0))] 1) [(0,2,.agg [I x,I y])]=some (.imm [I x,I y] 1 2):=by
 simp [absf,zrow,splice]
section
variable {B : Nat} {a0 : List AV} {dR : AV} {bl : List Int} {sl : List (Int × Int)} {hl : List Int} {b s h : AV} {H0 H : AH}
theorem OutP.ne (q : OutP B a0 dR bl sl hl b s h H0 H) : B + 2 ∉ idS b∧B + 2 ∉ idS s∧B + 2 ∉ idS h:=⟨fun z => by have:=q.ib _ z; omega,fun z => by have:=q.is _ z; omega,fun z => by have:=q.ih _ z; omega⟩
theorem OutP.push1 (q : OutP B a0 dR bl sl hl b s h H0 H) (oR : oneA dR=true) (x : Int) (hn : bl.length≤1000) :
  ∃ r H2 H3,aap 1 8 H b (.imm [I x] 1 1)=some (r,H2)∧ast 1 H2 (.ptr (B + 2) 1) r=some H3∧OutP B a0 dR (bl ++ [x]) sl hl r s h H0 H3:=by
 obtain ⟨n1,n2,n3⟩:=q.ne
 have hlen:=q.len
 obtain ⟨r,H2,a1,a2,a3,a4,a5,a6⟩:=zjcZ (sz:=1) (bytes:=8) q.kb q.ob (zjZ (H:=H) (sz:=1) (v:=.imm [I x] 1 1) (q:=([I x],1)) rfl) (by omega)
 have c2 : H2[B + 2]? = some (some (.cells [dR,b,s,h])):=by rw [a5 _ (by omega) n1]; exact q.o2
 have e3 : ast 1 H2 (.ptr (B + 2) 1) r=some (H2.set (B + 2) (some (.cells [dR,r,s,h]))):=fld c2 (by simp) (zpZ a2)
 have hb2 : B + 2 < H2.length:=by omega
 have ir : ∀ i ∈ idS r,B + 3≤i:=fun i z => (a6 i z).elim (q.ib i) (fun z => by omega)
 have get : ∀ i,i ≠ B + 2→(H2.set (B + 2) (some (AObj.cells [dR,r,s,h])))[i]? = H2[i]?:=fun i hi => List.getElem?_set_ne (Ne.symm hi)
 refine ⟨r,H2,_,a1,e3, ?_⟩
 refine ⟨by rw [get _ (by omega),a5 _ (by omega) (fun z => by have:=q.ib _ z; omega)]; exact q.o0,by rw [get _ (by omega),a5 _ (by omega) (fun z => by have:=q.ib _ z; omega)]; exact q.o1,List.getElem?_set_self hb2, ?_, ?_, ?_,a2,q.os,q.oh,ir,q.is,q.ih, ?_, ?_,q.sh,by simp; omega,fun i hi => by rw [get _ (by omega),a5 _ (by omega) (fun z => by have:=q.ib _ z; omega)]; exact q.g i hi⟩
 ·have:=zbZ a3 fun i z => get i (by have:=ir i z; omega)
  rw [this]; simp [encI]
 ·exact zbZ q.ks fun i z => by rw [get i (by have:=q.is i z; omega),a5 i (zcZ q.ks i z) (fun y => q.bs i y z)]
 ·exact zbZ q.kh fun i z => by rw [get i (by have:=q.ih i z; omega),a5 i (zcZ q.kh i z) (fun y => q.bh i y z)]
 ·exact fun i z y => (a6 i z).elim (fun z => q.bs i z y) (fun z => by have:=zcZ q.ks i y; omega)
 ·exact fun i z y => (a6 i z).elim (fun z => q.bh i z y) (fun z => by have:=zcZ q.kh i y; omega)
theorem OutP.push2 (q : OutP B a0 dR bl sl hl b s h H0 H) (oR : oneA dR=true) (x y : Int) (hn : sl.length≤1000) :
  ∃ r H2 H3,aap 2 16 H s (.imm [I x,I y] 1 2)=some (r,H2)∧ast 1 H2 (.ptr (B + 2) 2) r=some H3∧OutP B a0 dR bl (sl ++ [(x,y)]) hl b r h H0 H3:=by
 obtain ⟨n1,n2,n3⟩:=q.ne
 have hlen:=q.len
 obtain ⟨r,H2,a1,a2,a3,a4,a5,a6⟩:=zjcZ (sz:=2) (bytes:=16) q.ks q.os (zjZ (H:=H) (sz:=2) (v:=.imm [I x,I y] 1 2) (q:=([I x,I y],1)) rfl) (by omega)
 have c2 : H2[B + 2]? = some (some (.cells [dR,b,s,h])):=by rw [a5 _ (by omega) n2]; exact q.o2
 have e3 : ast 1 H2 (.ptr (B + 2) 2) r=some (H2.set (B + 2) (some (.cells [dR,b,r,h]))):=fld c2 (by simp) (zpZ a2)
 have hb2 : B + 2 < H2.length:=by omega
 have ir : ∀ i ∈ idS r,B + 3≤i:=fun i z => (a6 i z).elim (q.is i) (fun z => by omega)
 have get : ∀ i,i ≠ B + 2→(H2.set (B + 2) (some (AObj.cells [dR,b,r,h])))[i]? = H2[i]?:=fun i hi => List.getElem?_set_ne (Ne.symm hi)
 refine ⟨r,H2,_,a1,e3, ?_⟩
 refine ⟨by rw [get _ (by omega),a5 _ (by omega) (fun z => by have:=q.is _ z; omega)]; exact q.o0,by rw [get _ (by omega),a5 _ (by omega) (fun z => by have:=q.is _ z; omega)]; exact q.o1,List.getElem?_set_self hb2, ?_, ?_, ?_,q.ob,a2,q.oh,q.ib,ir,q.ih, ?_,q.bh, ?_,by simp; omega,fun i hi => by rw [get _ (by omega),a5 _ (by omega) (fun z => by have:=q.is _ z; omega)]; exact q.g i hi⟩
 ·exact zbZ q.kb fun i z => by rw [get i (by have:=q.ib i z; omega),a5 i (zcZ q.kb i z) (fun y => q.bs i z y)]
 ·have:=zbZ a3 fun i z => get i (by have:=ir i z; omega)
  rw [this]; simp [encS]
 ·exact zbZ q.kh fun i z => by rw [get i (by have:=q.ih i z; omega),a5 i (zcZ q.kh i z) (fun y => q.sh i y z)]
 ·exact fun i z y => (a6 i y).elim (fun y => q.bs i z y) (fun y => by have:=zcZ q.kb i z; omega)
 ·exact fun i z y => (a6 i z).elim (fun z => q.sh i z y) (fun z => by have:=zcZ q.kh i y; omega)
theorem OutP.push3 (q : OutP B a0 dR bl sl hl b s h H0 H) (oR : oneA dR=true) (x : Int) (hn : hl.length≤1000) :
  ∃ r H2 H3,aap 1 8 H h (.imm [I x] 1 1)=some (r,H2)∧ast 1 H2 (.ptr (B + 2) 3) r=some H3∧OutP B a0 dR bl sl (hl ++ [x]) b s r H0 H3:=by
 obtain ⟨n1,n2,n3⟩:=q.ne
 have hlen:=q.len
 obtain ⟨r,H2,a1,a2,a3,a4,a5,a6⟩:=zjcZ (sz:=1) (bytes:=8) q.kh q.oh (zjZ (H:=H) (sz:=1) (v:=.imm [I x] 1 1) (q:=([I x],1)) rfl) (by omega)
 have c2 : H2[B + 2]? = some (some (.cells [dR,b,s,h])):=by rw [a5 _ (by omega) n3]; exact q.o2
 have e3 : ast 1 H2 (.ptr (B + 2) 3) r=some (H2.set (B + 2) (some (.cells [dR,b,s,r]))):=fld c2 (by simp) (zpZ a2)
 have hb2 : B + 2 < H2.length:=by omega
 have ir : ∀ i ∈ idS r,B + 3≤i:=fun i z => (a6 i z).elim (q.ih i) (fun z => by omega)
 have get : ∀ i,i ≠ B + 2→(H2.set (B + 2) (some (AObj.cells [dR,b,s,r])))[i]? = H2[i]?:=fun i hi => List.getElem?_set_ne (Ne.symm hi)
 refine ⟨r,H2,_,a1,e3, ?_⟩
 refine ⟨by rw [get _ (by omega),a5 _ (by omega) (fun z => by have:=q.ih _ z; omega)]; exact q.o0,by rw [get _ (by omega),a5 _ (by omega) (fun z => by have:=q.ih _ z; omega)]; exact q.o1,List.getElem?_set_self hb2, ?_, ?_, ?_,q.ob,q.os,a2,q.ib,q.is,ir,q.bs, ?_, ?_,by simp; omega,fun i hi => by rw [get _ (by omega),a5 _ (by omega) (fun z => by have:=q.ih _ z; omega)]; exact q.g i hi⟩
 ·exact zbZ q.kb fun i z => by rw [get i (by have:=q.ib i z; omega),a5 i (zcZ q.kb i z) (fun y => q.bh i z y)]
 ·exact zbZ q.ks fun i z => by rw [get i (by have:=q.is i z; omega),a5 i (zcZ q.ks i z) (fun y => q.sh i z y)]
 ·have:=zbZ a3 fun i z => get i (by have:=ir i z; omega)
  rw [this]; simp [encI]
 ·exact fun i z y => (a6 i y).elim (fun y => q.bh i z y) (fun y => by have:=zcZ q.kb i z; omega)
 ·exact fun i z y => (a6 i y).elim (fun y => q.sh i z y) (fun y => by have:=zcZ q.ks i z; omega)
end
def DevK (H : AH) (r : AV) (H' : AH) : Prop:=∃ (D : Dev) (a b s h : AV),r = .agg [a,b,s,h]∧DevH H' D a b s h∧mayD D∧D.data.length≤255∧D.bad.length≤20∧D.soft.length≤20∧D.shorts.length≤60∧(∀ x ∈ D.soft,x.2=0)∧(oneA a=true∧oneA b=true∧oneA s=true∧oneA h=true)∧H.length≤H'.length∧∀ i,i < H.length→H'[i]? = H[i]?
theorem remU {x : Nat} {m : Nat} (hm : 0 < m) (hx : x < 256) : abI .rem (.lit (.int .u8 (x : Int))) (.lit (.int .u8 (m : Int)))=some (.lit (.int .u8 ((x % m : Nat) : Int))):=by
 rw [abI_rem (by omega) (by omega)]; congr 3
theorem Device_c (n k : UInt8) {bl sl hl : List UInt8} {bv sv hv : AV} (vb : SV encU 1 bl bv) (vs : SV encU 1 sl sv) (vh : SV encU 1 hl hv) (l1 : bl.length≤9223372036854775807) (l2 : sl.length≤9223372036854775807) (l3 : hl.length≤9223372036854775807) (H : AH) :
  ∃ r H',DevK H r H'∧BCall Tryz.prog 14 [.agg [.lit (.int .u8 n.toNat),.lit (.int .u8 k.toNat),bv,sv,hv],I 0] H r H':=znrZ (by
 unfold zfvZ
 have hn:=n.toNat_lt
 have hk:=k.toNat_lt
 have ob:=SV.oneA vb
 have os:=SV.oneA vs
 have oh:=SV.oneA vh
 obtain ⟨R,hR,hp⟩:=Bytes_p k (n:=n.toNat) (by omega)
 have oR:=SV.oneA hR
 have e1 : anew H (.agg [.lit (.int .u8 n.toNat),.lit (.int .u8 k.toNat),bv,sv,hv])=some (.ptr H.length 0,H ++ [some (.cells [.lit (.int .u8 n.toNat),.lit (.int .u8 k.toNat),bv,sv,hv])]):=by simp [ob,os,oh]
 have nw : ∀ H : AH,anew H (.agg [(.lit (.slice none 0 0)),(.lit (.slice none 0 0)),(.lit (.slice none 0 0)),(.lit (.slice none 0 0))])=some (.ptr H.length 0,H ++ [some (AObj.cells [nilSl,nilSl,nilSl,nilSl])]):=fun H => by simp
 have hl1 : (H ++ [some (AObj.cells [.lit (.int .u8 n.toNat),.lit (.int .u8 k.toNat),bv,sv,hv])]).length=H.length + 1:=by simp
 have hl2 : (H ++ [some (AObj.cells [.lit (.int .u8 n.toNat),.lit (.int .u8 k.toNat),bv,sv,hv])] ++ [some (AObj.cells [nilSl,nilSl,nilSl,nilSl])]).length=H.length + 2:=by simp
 have e2 : abl [(.lit (.slice none 0 0)),(.lit (.slice none 0 0)),(.lit (.slice none 0 0)),(.lit (.slice none 0 0))] [(0,1,R)]=some (.agg [R,nilSl,nilSl,nilSl]):=by
  simp [abl,zbuZ oR,splice]
 have c0 : (H ++ [some (AObj.cells [.lit (.int .u8 n.toNat),.lit (.int .u8 k.toNat),bv,sv,hv])] ++ [some (AObj.cells [nilSl,nilSl,nilSl,nilSl])])[H.length]? = some (some (AObj.cells [.lit (.int .u8 n.toNat),.lit (.int .u8 k.toNat),bv,sv,hv])):=by simp
 have a1 : acI .i64 (.lit (.int .u8 (n.toNat : Int)))=some (I (n.toNat : Int)):=acI_i64 (by omega) (by omega)
 simp only [e1,bH_some,nw,hl1,hl2,znZ,Nat.zero_add,bO_some,ald_ptr c0,zeZ,List.getElem?_cons_succ,List.getElem?_cons_zero,a1]
 refine bP_pure hp ?_
 have e4 : ast 4 (H ++ [some (AObj.cells [.lit (.int .u8 n.toNat),.lit (.int .u8 k.toNat),bv,sv,hv])] ++ [some (AObj.cells [nilSl,nilSl,nilSl,nilSl])] ++ [some (AObj.cells [nilSl,nilSl,nilSl,nilSl])]) (.ptr (H.length + 2) 0) (.agg [R,nilSl,nilSl,nilSl])=some (H ++ [some (AObj.cells [.lit (.int .u8 n.toNat),.lit (.int .u8 k.toNat),bv,sv,hv])] ++ [some (AObj.cells [nilSl,nilSl,nilSl,nilSl])] ++ [some (AObj.cells [R,nilSl,nilSl,nilSl])]):=by
  rw [ast_ptr (n:=4) (xs:=[R,nilSl,nilSl,nilSl]) (cs:=[nilSl,nilSl,nilSl,nilSl]) (by simp [oR]) (by simp) rfl (by simp)]
  simp [splice]
 simp only [e2,bO_some,nw,bH_some,hl2,e4,bS_some]
 have st0 : OutP H.length [.lit (.int .u8 n.toNat),.lit (.int .u8 k.toNat),bv,sv,hv] R [] [] [] nilSl nilSl nilSl H (H ++ [some (AObj.cells [.lit (.int .u8 n.toNat),.lit (.int .u8 k.toNat),bv,sv,hv])] ++ [some (AObj.cells [nilSl,nilSl,nilSl,nilSl])] ++ [some (AObj.cells [R,nilSl,nilSl,nilSl])]) :=
  ⟨by simp,by simp,by simp,rfl,rfl,rfl,rfl,rfl,rfl,by simp [idS],by simp [idS],by simp [idS],by simp [idS],by simp [idS],by simp [idS],by simp,fun i hi => by rw [List.getElem?_append_left (by simp; omega),List.getElem?_append_left (by simp; omega),List.getElem?_append_left hi]⟩
 generalize H ++ [some (AObj.cells [.lit (.int .u8 n.toNat),.lit (.int .u8 k.toNat),bv,sv,hv])] ++ [some (AObj.cells [nilSl,nilSl,nilSl,nilSl])] ++ [some (AObj.cells [R,nilSl,nilSl,nilSl])]=H1 at st0
 generalize hc0 : ([.lit (.int .u8 n.toNat),.lit (.int .u8 k.toNat),bv,sv,hv] : List AV)=cs0 at *
 have g2 : cs0[2]? = some bv:=by rw [← hc0]; rfl
 have g3 : cs0[3]? = some sv:=by rw [← hc0]; rfl
 have g4 : cs0[4]? = some hv:=by rw [← hc0]; rfl
 -- bad sectors
 refine zjuZ (fun m x1 x2 x4 x5 x6 H' => ∃ (i : Nat) (B : List Int) (b : AV),i + m=min bl.length 20∧x1=I 0∧x2 = .ptr H.length 0∧x4 = .ptr (H.length + 1) 0∧x5 = .ptr (H.length + 2) 0∧x6=I i∧B.length=i∧(∀ x ∈ B,0≤x)∧OutP H.length cs0 R B [] [] b nilSl nilSl H H') ?_ (min bl.length 20) ⟨0,[],nilSl,by omega,rfl,rfl,rfl,rfl,rfl,rfl,by simp,st0⟩
 rintro m x1 x2 x4 x5 x6 H2 T hT ⟨i,B,b,him,rfl,rfl,rfl,rfl,rfl,hBl,hB0,st⟩
 unfold zduZ
 simp only [znZ,Nat.zero_add,bO_some,ald_ptr st.o0,zeZ,g2,vb.len,abI_lss,bG_bool]
 by_cases c : i < bl.length∧i < 20
 ·obtain ⟨ca,cb⟩:=c
  have hx:=List.getElem?_eq_getElem ca
  generalize bl[i]=y at hx
  have hy:=y.toNat_lt
  obtain ⟨r,H3,H4,p1,p2,p3⟩:=st.push1 oR ((y.toNat % 34 : Nat) : Int) (by omega)
  have q1 : acI .i64 (.lit (.int .u8 ((y.toNat % 34 : Nat) : Int)))=some (I ((y.toNat % 34 : Nat) : Int)):=acI_i64 (by omega) (by omega)
  have q2 : abI .add (I (i : Int)) (.lit (.int .i64 1))=some (I ((i + 1 : Nat) : Int)):=by rw [abI_add (by omega) (by omega)]; congr 3
  have q0 : ald false 1 H2 (.ip (encU y ++ (bl.drop (i + 1)).flatMap encU))=some (.lit (.int .u8 (y.toNat : Int))):=rfl
  have q3 : abI .rem (.lit (.int .u8 (y.toNat : Int))) (.lit (.int .u8 34))=some (.lit (.int .u8 ((y.toNat % 34 : Nat) : Int))):=remU (m:=34) (by omega) hy
  simp only [show ((i : Int) < (bl.length : Int)) by omega,show ((i : Int) < 20) by omega,abI_lss,zeZ,ald_ptr st.o2,decide_true,beq_self_eq_true,gO_true,bO_some,ztZ,if_true,bB_bool,bI_true,ald_ptr st.o2,List.getElem?_cons_succ,List.getElem?_cons_zero,vb.idx encU_len hx rfl,q0,q3,q1,absf_one (x:=I ((y.toNat % 34 : Nat) : Int)) rfl,p1,bH_some,p2,bS_some,q2]
  exact hT (m - 1) _ _ _ _ _ _ (by omega) ⟨i + 1,B ++ [((y.toNat % 34 : Nat) : Int)],r,by omega,rfl,rfl,rfl,rfl,rfl,by simp [hBl],fun x hx => by
   simp only [List.mem_append,List.mem_singleton] at hx
   rcases hx with hx | rfl
   ·exact hB0 x hx
   ·omega,p3⟩
 have next : zedZ (I 0) (.ptr H.length 0) (.ptr (H.length + 1) 0) (.ptr (H.length + 2) 0) (I 0) H2 (fun r H' => DevK H r H'):=by
  have hBn : B.length≤20:=by omega
  clear hT him
  have next3 : ∀ (H3 : AH) (s : AV) (S : List (Int × Int)),S.length≤20→(∀ x ∈ S,0≤x.1∧x.2=0)→OutP H.length cs0 R B S [] b s nilSl H H3→zeeZ (.ptr H.length 0) (.ptr (H.length + 1) 0) (.ptr (H.length + 2) 0) (I 0) H3 (fun r H' => DevK H r H'):=by
   intro H3 s S hSn hS0 st
   refine zjjZ (fun m x2 x4 x5 x8 H' => ∃ (i : Nat) (E : List Int) (e : AV),i + m=min hl.length 60∧x2 = .ptr H.length 0∧x4 = .ptr (H.length + 1) 0∧x5 = .ptr (H.length + 2) 0∧x8=I i∧E.length=i∧OutP H.length cs0 R B S E b s e H H') ?_ (min hl.length 60) ⟨0,[],nilSl,by omega,rfl,rfl,rfl,rfl,rfl,st⟩
   rintro m x2 x4 x5 x8 H4 T hT ⟨i,E,e,him,rfl,rfl,rfl,rfl,hEl,st⟩
   unfold zdpZ
   simp only [znZ,Nat.zero_add,bO_some,ald_ptr st.o0,zeZ,g4,vh.len,abI_lss,bG_bool]
   by_cases c : i < hl.length∧i < 60
   ·obtain ⟨ca,cb⟩:=c
    have hx:=List.getElem?_eq_getElem ca
    generalize hl[i]=y at hx
    have hy:=y.toNat_lt
    obtain ⟨r,H5,H6,p1,p2,p3⟩:=st.push3 oR ((y.toNat % 40 : Nat) : Int) (by omega)
    have q1 : acI .i64 (.lit (.int .u8 ((y.toNat % 40 : Nat) : Int)))=some (I ((y.toNat % 40 : Nat) : Int)):=acI_i64 (by omega) (by omega)
    have q2 : abI .add (I (i : Int)) (.lit (.int .i64 1))=some (I ((i + 1 : Nat) : Int)):=by rw [abI_add (by omega) (by omega)]; congr 3
    have q0 : ald false 1 H4 (.ip (encU y ++ (hl.drop (i + 1)).flatMap encU))=some (.lit (.int .u8 (y.toNat : Int))):=rfl
    have q3 : abI .rem (.lit (.int .u8 (y.toNat : Int))) (.lit (.int .u8 40))=some (.lit (.int .u8 ((y.toNat % 40 : Nat) : Int))):=remU (m:=40) (by omega) hy
    simp only [show ((i : Int) < (hl.length : Int)) by omega,show ((i : Int) < 60) by omega,abI_lss,zeZ,decide_true,beq_self_eq_true,gO_true,bO_some,ztZ,if_true,bB_bool,bI_true,ald_ptr st.o2,List.getElem?_cons_succ,List.getElem?_cons_zero,vh.idx encU_len hx rfl,q0,q3,q1,absf_one (x:=I ((y.toNat % 40 : Nat) : Int)) rfl,p1,bH_some,p2,bS_some,q2]
    exact hT (m - 1) _ _ _ _ _ (by omega) ⟨i + 1,E ++ [((y.toNat % 40 : Nat) : Int)],r,by omega,rfl,rfl,rfl,rfl,by simp [hEl],p3⟩
   have w4 : ald true 4 H4 (.ptr (H.length + 2) 0)=some (.agg [R,b,s,e]):=by rw [ald_ptr st.o2]; rfl
   have w5 : ast 4 H4 (.ptr (H.length + 1) 0) (.agg [R,b,s,e])=some (H4.set (H.length + 1) (some (.cells [R,b,s,e]))):=by
    rw [ast_ptr (n:=4) (xs:=[R,b,s,e]) (by simp [oR,zpZ st.ob,zpZ st.os,zpZ st.oh]) st.o1 rfl (by simp)]; rfl
   have hl4:=st.len
   have w6 : ald true 4 (H4.set (H.length + 1) (some (AObj.cells [R,b,s,e]))) (.ptr (H.length + 1) 0)=some (.agg [R,b,s,e]):=by
    rw [ald_ptr (List.getElem?_set_self (by omega))]; rfl
   have get : ∀ i,i ≠ H.length + 1→(H4.set (H.length + 1) (some (AObj.cells [R,b,s,e])))[i]? = H4[i]?:=fun i hi => List.getElem?_set_ne (Ne.symm hi)
   have fin : DevK H (.agg [R,b,s,e]) (H4.set (H.length + 1) (some (AObj.cells [R,b,s,e]))):=by
    have hEn : E.length≤60:=by omega
    have hRn:=zjlZ (s:=k.toNat) (n:=n.toNat)
    refine ⟨⟨bytesK k.toNat n.toNat,B,S,E⟩,R,b,s,e,rfl,⟨hR.bytes _,zbZ st.kb fun i z => get i (by have:=st.ib i z; omega),zbZ st.ks fun i z => get i (by have:=st.is i z; omega),zbZ st.kh fun i z => get i (by have:=st.ih i z; omega)⟩,⟨by simp only; omega,hB0,fun x hx => by have:=hS0 x hx; omega⟩,by simp only; omega,by simp only; omega,by simp only; omega,hEn,fun x hx => (hS0 x hx).2,⟨oR,zpZ st.ob,zpZ st.os,zpZ st.oh⟩,by simp; omega,fun i hi => by rw [get i (by omega)]; exact st.g i hi⟩
   by_cases ca : i < hl.length
   ·have cb : ¬ (i : Int) < 60:=fun z => c ⟨ca,by omega⟩
    simp only [show ((i : Int) < (hl.length : Int)) by omega,abI_lss,cb,decide_true,decide_false,beq_self_eq_true,gO_true,bO_some,ztZ,if_true,bB_bool,zlZ,w4,w5,bS_some,w6]
    exact fin
   ·simp only [show ¬ ((i : Int) < (hl.length : Int)) by omega,decide_false,show ((false == true)=false) from rfl,gO_false,bO_some,ztZ,if_false,Bool.false_eq_true,bB_bool,zlZ,w4,w5,bS_some,w6]
    exact fin
  refine zjhZ (fun m x1 x2 x4 x5 x7 H' => ∃ (i : Nat) (S : List (Int × Int)) (s : AV),i + m=40∧x1=I 0∧x2 = .ptr H.length 0∧x4 = .ptr (H.length + 1) 0∧x5 = .ptr (H.length + 2) 0∧x7=I i∧S.length≤i∧i≤21∧(2 * S.length=i)∧(∀ x ∈ S,0≤x.1∧x.2=0)∧OutP H.length cs0 R B S [] b s nilSl H H') ?_ 40 ⟨0,[],nilSl,by omega,rfl,rfl,rfl,rfl,rfl,by simp,by omega,by simp,by simp,st⟩
  rintro m x1 x2 x4 x5 x7 H3 T hT ⟨i,S,s,him,rfl,rfl,rfl,rfl,rfl,hSl,hi2,hSi,hS0,st⟩
  unfold zdsZ
  have q2 : abI .add (I (i : Int)) (.lit (.int .i64 1))=some (I ((i + 1 : Nat) : Int)):=by rw [abI_add (by omega) (by omega)]; congr 3
  have q9 : abI .add (I (i : Int)) (.lit (.int .i64 2))=some (I ((i + 2 : Nat) : Int)):=by rw [abI_add (by omega) (by omega)]; congr 3
  simp only [q2,znZ,Nat.zero_add,bO_some,ald_ptr st.o0,zeZ,g3,vs.len,abI_lss,bG_bool]
  by_cases ca : i + 1 < sl.length
  ·by_cases cb : i < 20
   ·have hx:=List.getElem?_eq_getElem (l:=sl) (i:=i) (by omega)
    have hz:=List.getElem?_eq_getElem ca
    generalize sl[i]=y at hx
    generalize sl[i + 1]=z at hz
    have hy:=y.toNat_lt
    have hz2:=z.toNat_lt
    obtain ⟨r,H4,H5,p1,p2,p3⟩:=st.push2 oR ((y.toNat % 34 : Nat) : Int) 0 (by omega)
    have q1 : acI .i64 (.lit (.int .u8 ((y.toNat % 34 : Nat) : Int)))=some (I ((y.toNat % 34 : Nat) : Int)):=acI_i64 (by omega) (by omega)
    have q0 : ald false 1 H3 (.ip (encU y ++ (sl.drop (i + 1)).flatMap encU))=some (.lit (.int .u8 (y.toNat : Int))):=rfl
    have q4 : ald false 1 H3 (.ip (encU z ++ (sl.drop (i + 1 + 1)).flatMap encU))=some (.lit (.int .u8 (z.toNat : Int))):=rfl
    have q3 : abI .rem (.lit (.int .u8 (y.toNat : Int))) (.lit (.int .u8 34))=some (.lit (.int .u8 ((y.toNat % 34 : Nat) : Int))):=remU (m:=34) (by omega) hy
    have q5 : acI .i64 (.lit (.int .u8 (z.toNat : Int)))=some (I (z.toNat : Int)):=acI_i64 (by omega) (by omega)
    have q6 : abI .add (I 0) (.lit (.int .i64 1))=some (I 1):=rfl
    have q7 : abI .rem (I (z.toNat : Int)) (I 1)=some (I 0):=by rw [abI_rem (by omega) (by omega),Int.emod_one]
    have q8 : abl [(.lit (.int .i64 0)),(.lit (.int .i64 0))] [(0,1,I ((y.toNat % 34 : Nat) : Int)),(1,1,I 0)]=some (.agg [I ((y.toNat % 34 : Nat) : Int),I 0]):=rfl
    simp only [show (((i + 1 : Nat) : Int) < (sl.length : Int)) by omega,show ((i : Int) < 20) by omega,abI_lss,zeZ,decide_true,beq_self_eq_true,gO_true,bO_some,ztZ,if_true,bB_bool,bI_true,ald_ptr st.o2,List.getElem?_cons_succ,List.getElem?_cons_zero,vs.idx encU_len hx rfl,vs.idx encU_len hz rfl,q0,q3,q1,q4,q5,q6,q7,q8,absf_two,p1,bH_some,p2,bS_some,q9]
    exact hT (m - 2) _ _ _ _ _ _ (by omega) ⟨i + 2,S ++ [(((y.toNat % 34 : Nat) : Int),0)],r,by omega,rfl,rfl,rfl,rfl,rfl,by simp; omega,by omega,by simp; omega,fun x hx => by
     simp only [List.mem_append,List.mem_singleton] at hx
     rcases hx with hx | rfl
     ·exact hS0 x hx
     ·exact ⟨by simp only; omega,rfl⟩,p3⟩
   ·simp only [show (((i + 1 : Nat) : Int) < (sl.length : Int)) by omega,show ¬ ((i : Int) < 20) by omega,abI_lss,decide_true,decide_false,beq_self_eq_true,gO_true,bO_some,ztZ,if_true,bB_bool,zlZ]
    exact next3 H3 s S (by omega) hS0 st
  ·simp only [show ¬ (((i + 1 : Nat) : Int) < (sl.length : Int)) by omega,decide_false,show ((false == true)=false) from rfl,gO_false,bO_some,ztZ,if_false,Bool.false_eq_true,bB_bool,zlZ]
   exact next3 H3 s S (by omega) hS0 st
 by_cases ca : i < bl.length
 ·have cb : ¬ (i : Int) < 20:=fun z => c ⟨ca,by omega⟩
  simp only [show ((i : Int) < (bl.length : Int)) by omega,abI_lss,cb,decide_true,decide_false,beq_self_eq_true,gO_true,bO_some,ztZ,if_true,bB_bool,zlZ]
  exact next
 ·simp only [show ¬ ((i : Int) < (bl.length : Int)) by omega,decide_false,show ((false == true)=false) from rfl,gO_false,bO_some,ztZ,if_false,Bool.false_eq_true,bB_bool,zlZ]
  exact next)
end Go.Proofs.YtlbilcpnjgkpjaaGreat.Av
end
section
end
