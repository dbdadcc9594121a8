/- Texts of this proof, one behind the other, packed into one file by a program of this session. No condition. -/
import Derived.Test.YtlbilcpnjgkpjaaGreatMwF
import Derived.KernelRfl
set_option linter.unusedVariables false
set_option linter.unusedSimpArgs false
set_option maxRecDepth 100000
section
namespace Go.Proofs.YtlbilcpnjgkpjaaGreat.Av
open Go Go.RowKit
def renOk (ns : List Nm) (s t : List UInt8) : Prop:=hasK Nm.name ns s∧mayN t∧s ≠ t
instance (ns : List Nm) (s t : List UInt8) : Decidable (renOk ns s t):=by unfold renOk; infer_instance
def renNs (ns : List Nm) (s t : List UInt8) : List Nm:=if renOk ns s t then insK cmpN Nm.name (remNs (delK cmpN Nm.name ns s) t) ⟨t,nameI ns s⟩ else ns
def renDv (ns : List Nm) (dv : List NdV) (s t : List UInt8) : List NdV:=if renOk ns s t then remDv (delK cmpN Nm.name ns s) dv t else dv
theorem remNs_srt {ns : List Nm} {t : List UInt8} (h : srtK cmpN Nm.name ns) : srtK cmpN Nm.name (remNs ns t):=by
 unfold remNs
 split
 ·exact srtK_del h
 ·exact h
theorem remNs_len {ns : List Nm} {t : List UInt8} : (remNs ns t).length≤ns.length:=by
 unfold remNs
 split
 ·exact delK_sub.length_le
 ·exact Nat.le_refl _
theorem rename_c {L oi : Nat} {ns : List Nm} {dv : List NdV} {a b : AV} {H : AH} {s t : List UInt8} (h : ImH L oi ns dv a b H) (hs : srtK cmpN Nm.name ns) (hd : srtK cmpI NdV.ino dv) (hx : ∀ x ∈ ns,hasK NdV.ino dv x.ino) (hn : ns.length≤100000) (hm : dv.length≤100000) (ht : t.length≤1000000000) :
  ∃ r H',ImP L oi H (renNs ns s t) (renDv ns dv s t) r H'∧BCall Tryz.prog 57 [.ptr oi 0,S (bstr s),S (bstr t)] H r H':=image_rename_ok (by
 obtain ⟨Ra,Rb,sa,sb,fz⟩:=h.lend
 have c0:=h.obj
 unfold image_rename
 have b0 : ∀ a b : AV,rdCells true 2 [a,b] 0=some (.agg [a,b]):=fun _ _ => rfl
 have hno : ¬ renOk ns s t→ImP L oi H (renNs ns s t) (renDv ns dv s t) (.tup []) H:=fun hc => by
  unfold renNs renDv
  rw [if_neg hc,if_neg hc]
  exact ⟨rfl,a,b,h,FrL.refl _ _ _⟩
 simp [c0,b0]
 refine bC_of (PCall.lend (FZs.cons fz (FZs.cons (FZ.lit _) FZs.nil)) rfl (named_p sa sb hs (by omega) s)).call ?_
 by_cases q1 : hasK Nm.name ns s
 ·simp [q1]
  refine bP_pure (MayName_p (s:=t) (by omega)) ?_
  by_cases q2 : mayN t
  ·by_cases q3 : s=t
   ·simp [q2,abT_eql,q3]
    rw [← q3] at hno ⊢
    exact hno fun hc => hc.2.2 rfl
   ·have hc : renOk ns s t:=⟨q1,q2,q3⟩
    unfold renNs renDv
    rw [if_pos hc,if_pos hc]
    obtain ⟨x,hx1,hx2,hx3⟩:=posK_atK koN hs q1
    obtain ⟨o,off,cells,u1,u2,u3,u4,u5,-⟩:=own_at encN_len (by omega) h.sa h.oa hx1
    have u51:=u5 1 (by omega)
    have hpl:=(List.getElem?_eq_some_iff.1 hx1).1
    have e1 : nameI ns s=x.ino:=by unfold nameI; rw [hx2]
    simp [q2,abT_eql,q3,c0,b0,u1,u3,u51,encN,abI_add (a:=(posK cmpN Nm.name ns s : Nat)) (b:=1) (by omega) (by omega)]
    obtain ⟨r1,H2,⟨d1,d2,d3,d4,d5,d6⟩,d7⟩:=delN_c h.sa h.oa h.ca hpl (by omega)
    refine bC_of d7 ?_
    have l1:=delK_len (c:=cmpN) (key:=Nm.name) (k:=s) hpl
    obtain ⟨H3,e3,n1,n2⟩:=h.newA (ms:=delK cmpN Nm.name ns s) (Nat.le_of_eq d3.symm) (fun i _ hi => d4 i hi) (by rw [show (delK cmpN Nm.name ns s).length=ns.length - 1 by omega]; exact d2) d1 (by rw [show (delK cmpN Nm.name ns s).length=ns.length - 1 by omega]; exact d6) (fun i hi => .inl (d5 ▸ hi))
    simp [e3]
    have hs1 : srtK cmpN Nm.name (delK cmpN Nm.name ns s):=srtK_del hs
    obtain ⟨r4,H4,⟨rfl,a4,b4,m1,m2⟩,m3⟩:=remove_c (s:=t) n1 hs1 hd (fun y hy => hx y (delK_sub.subset hy)) (by omega) hm
    refine bC_of m3 ?_
    have c4:=m1.obj
    obtain ⟨Sa,Sb,ta,tb,gz⟩:=m1.lend
    have hs2:=remNs_srt (t:=t) hs1
    have hl2:=remNs_len (ns:=delK cmpN Nm.name ns s) (t:=t)
    simp [c4,b0]
    refine bC_of (PCall.lend (FZs.cons gz (FZs.cons (FZ.lit _) FZs.nil)) rfl (named_p ta tb hs2 (by omega) t)).call ?_
    have g5:=Grew.app H4 [some (.cells (encN ⟨t,x.ino⟩))]
    have m5:=m1.grew g5
    have e5 : absl H4 2 1 (zrow [(.lit (.string ⟨#[]⟩)),(.lit (.int .i64 0))] 1) [(0,2,.agg (encN ⟨t,x.ino⟩))]=some (.sl H4.length 0 1 2 (.ex 1),H4 ++ [some (.cells (encN ⟨t,x.ino⟩))]):=rfl
    have e6 : abl [(.lit (.string ⟨#[]⟩)),(.lit (.int .i64 0))] [(0,1,S (bstr t)),(1,1,I x.ino)]=some (.agg (encN ⟨t,x.ino⟩)):=rfl
    simp [c4,e5,e6]
    obtain ⟨r7,H7,⟨k1,k2,k3,k4,k5,k6⟩,k7⟩:=insN_c (x:=⟨t,x.ino⟩) (oj:=H4.length) m5.sa m5.oa m5.ca (posK_le (c:=cmpN) (key:=Nm.name) _ t) (by omega) (by simp) (fun hh => by have:=zcZ m1.sa _ hh; omega)
    refine bC_of k7 ?_
    have el:=insK_len (c:=cmpN) (key:=Nm.name) (l:=remNs (delK cmpN Nm.name ns s) t) (x:=⟨t,x.ino⟩)
    obtain ⟨H8,e8,p1,p2⟩:=m5.newA (ms:=insK cmpN Nm.name (remNs (delK cmpN Nm.name ns s) t) ⟨t,x.ino⟩) k3 k4 (by rw [el]; exact k2) k1 (by rw [el]; exact k6) k5
    simp [e8]
    rw [e1]
    have hle:=m1.len
    exact ⟨rfl,_,_,p1,n2.trans (m2.trans ⟨Nat.le_trans g5.1 p2.1,fun j h1 h2 => (p2.2 j h1 h2).trans (g5.2 j (by omega))⟩)⟩
  ·simp [q2]
   exact hno fun hc => q2 hc.2.1
 ·simp [q1]
  exact hno fun hc => q1 hc.1)
def chgC (o : OpM) (d : Nd) : Option Cont:=if o.kind=2 then writeC (d.size,d.l) o.pos o.b else if o.kind=3 then truncC (d.size,d.l) o.size else if o.kind=4 then allocC (d.size,d.l) o.pos o.size o.keep else if o.kind=5 then punchC (d.size,d.l) o.pos o.size else none
def chgD (ds : List Nd) (o : OpM) : List Nd:=match atK Nd.ino ds o.ino with
 | some d => match chgC o d with
  | some c => ds.set (posK cmpI Nd.ino ds o.ino) ⟨d.ino,c.1,c.2⟩
  | none => ds
 | none => ds
theorem change_tail {L oi k q : Nat} {ns : List Nm} {dv : List NdV} {a b R : AV} {H : AH} {x : NdV} {sz : Int} {l : List Ext} (h : ImH L oi ns dv a b H) (hx : dv[k]? = some x) (hR : SV encE 9 l R) (hq : H[q]? = some (some (.cells [I sz,R]))) (ok : Bool) :
  ∃ H',ImH L oi ns (if ok=true then dv.set k ⟨⟨x.nd.ino,sz,l⟩,R,hR⟩ else dv) a b H'∧FrL L oi H H'∧∀ K : AV→AH→Prop,K (.tup []) H'→zdkZ (.ptr oi 0) (I k) (B ok) (.ptr q 0) H K:=by
 cases ok with
 | false =>
  refine ⟨H,h,FrL.refl _ _ _,fun K hK => ?_⟩
  rw [znhZ]; unfold zjvZ
  rw [zmbZ]; unfold zjaZ
  simpa using hK
 | true =>
  obtain ⟨o,off,cells,u1,u2,u3,u4,u5,u6⟩:=own_at encD_len (by omega) h.sb h.ob hx
  have oL:=h.ib o u2
  have hoo : o ≠ oi:=fun e => h.noB (e ▸ u2)
  have hle:=h.len
  have o2:=SV.oneA hR
  have c0:=h.obj
  have hol:=(List.getElem?_eq_some_iff.1 u3).1
  have e1 : ast 2 H (.ptr o (off + 1)) (.agg [I sz,R])=some (H.set o (some (.cells (splice cells (off + 1) [I sz,R])))):=by
   rw [ast_ptr (n:=2) (xs:=[I sz,R]) (by simp [o2]) u3 rfl (by omega)]
  refine ⟨H.set o (some (.cells (splice cells (off + 1) [I sz,R]))),⟨?_,h.lo,by simp; omega, ?_,h.oa,h.ca,h.ia, ?_,h.ob,by simpa using h.cb,h.ib,h.ab⟩,⟨by simp,fun j h1 h2 => List.getElem?_set_ne (by omega)⟩,fun K hK => ?_⟩
  ·rw [List.getElem?_set_ne (by omega)]; exact c0
  ·exact zbZ h.sa fun i hi => List.getElem?_set_ne (fun (e : o=i) => h.ab i hi (e ▸ u2))
  ·have:=u6 ⟨⟨x.nd.ino,sz,l⟩,R,hR⟩ 1 [I sz,R] rfl (by simp)
   simpa using this
  ·rw [znhZ]; unfold zjvZ
   rw [zmbZ]; unfold zjaZ
   have b0 : rdCells true 2 [I sz,R] 0=some (.agg [I sz,R]):=rfl
   simp only [bB_bool,bI_true]
   have e3 : ald false 1 H (.ptr oi 1)=some b:=by rw [ald_ptr c0]; rfl
   have e4 : ald true 2 H (.ptr q 0)=some (.agg [I sz,R]):=by rw [ald_ptr hq]; rfl
   show bO (some (AV.ptr oi 0)) _
   simp only [bO_some]
   show bO (some (AV.ptr oi 1)) _
   simp only [bO_some,e3,e4,u1]
   show bO (some (AV.ptr o (off + 1))) _
   simp only [bO_some,e1,bS_some]
   exact hK
def ChP (L oi : Nat) (H : AH) (ns : List Nm) (ds : List Nd) (r : AV) (H' : AH) : Prop:=r = .tup []∧∃ a b dv,dv.map NdV.nd=ds∧ImH L oi ns dv a b H'∧FrL L oi H H'
theorem change_c {L oi : Nat} {ns : List Nm} {dv : List NdV} {a b bv : AV} {H : AH} {o : OpM} (h : ImH L oi ns dv a b H) (hs : srtK cmpN Nm.name ns) (hd : srtK cmpI NdV.ino dv) (hb : SV encU 1 o.b bv) (hm : dv.length≤100000) (hbl : o.b.length≤281474976710656) (hl : ∀ d ∈ dv,d.nd.l.length≤1000000) (hk : o.kind=2∨o.kind=3∨o.kind=4∨o.kind=5) :
  ∃ r H',ChP L oi H ns (chgD (dv.map NdV.nd) o) r H'∧BCall Tryz.prog 56 [.ptr oi 0,.agg (opA o bv)] H r H':=image_change_ok (by
 obtain ⟨H1,e1,hp,h1,f1⟩:=op_new h o (SV.oneA hb)
 obtain ⟨Ra,Rb,sa,sb,fz⟩:=h1.lend
 have c0:=h1.obj
 unfold image_change
 simp only [e1,bH_some]
 have b0 : rdCells true 2 [a,b] 0=some (.agg [a,b]):=rfl
 simp [hp,c0,b0,opA]
 refine bC_of (PCall.lend (FZs.cons fz (FZs.cons (FZ.lit _) FZs.nil)) rfl (node_p sa sb hd (by omega) o.ino)).call ?_
 by_cases q1 : hasK NdV.ino dv o.ino
 ·obtain ⟨x,hx1,hx2,hx3⟩:=posK_atK koI hd q1
  obtain ⟨oo,off,cells,u1,u2,u3,u4,u5,u6⟩:=own_at encD_len (by omega) h1.sb h1.ob hx1
  have hxl:=hl x (List.mem_of_getElem? hx1)
  have rd1 : rdCells true 2 cells (off + 1)=some (.agg [I x.nd.size,x.R]):=by
   have e51:=u5 1 (by omega)
   have e52:=u5 2 (by omega)
   have l2 : off + 1 + 2≤cells.length:=by omega
   have : (cells.drop (off + 1)).take 2=[I x.nd.size,x.R]:=by
    rw [List.drop_eq_getElem_cons (by omega),List.drop_eq_getElem_cons (by omega)]
    rw [List.getElem?_eq_getElem (by omega)] at e51 e52
    simp [encD] at e51 e52
    simp [e51,e52]
   simp [rdCells,l2,this]
  have o1:=SV.oneA x.h
  have fin : ∀ (res : Option Cont) (R : AV) (Hc : AH) (sR : SV encE 9 (cL res) R),chgC o x.nd=res→ImH L oi ns dv a b Hc→FrL L oi H1 Hc→∀ q,Hc[q]? = some (some (.cells [I (cS res),R]))→zdkZ (.ptr oi 0) (I (posK cmpI NdV.ino dv o.ino)) (B res.isSome) (.ptr q 0) Hc (ChP L oi H ns (chgD (dv.map NdV.nd) o)):=by
   intro res R Hc sR hr hc fc q hq
   obtain ⟨H9,w1,w2,w3⟩:=change_tail hc hx1 sR hq res.isSome
   refine w3 _ ⟨rfl,_,_,_, ?_,w1,f1.trans (fc.trans w2)⟩
   unfold chgD
   rw [atK_map hx2]
   simp only [hr]
   cases res with
   | none => rfl
   | some c =>
    simp only [Option.isSome_some,if_true,List.map_set,posK_map]
    rfl
  simp [q1,c0,u1,u3,rd1]
  obtain ⟨H2,e2,hq2,hp2,h2,f2⟩ : ∃ H2,ast 2 (H1 ++ [some (.cells [I 0,nilSl])]) (.ptr H1.length 0) (.agg [I x.nd.size,x.R])=some H2∧H2[H1.length]? = some (some (.cells [I x.nd.size,x.R]))∧H2[H.length]? = some (some (.cells (opA o bv)))∧ImH L oi ns dv a b H2∧FrL L oi H1 H2:=by
   have g:=Grew.app H1 [some (.cells [I x.nd.size,x.R])]
   have hle:=h1.len
   exact ⟨_,by simp [ast,splice,o1,zbuZ o1],by simp,g.cells hp,h1.grew g,g.1,fun j i1 i2 => g.2 j (by omega)⟩
  have hol2:=(List.getElem?_eq_some_iff.1 hq2).1
  have hql : L≤H1.length:=h1.len
  have put : ∀ (sz : Int) (R : AV),oneA R=true→ast 2 H2 (.ptr H1.length 0) (.agg [I sz,R])=some (H2.set H1.length (some (.cells [I sz,R])))∧ImH L oi ns dv a b (H2.set H1.length (some (.cells [I sz,R])))∧FrL L oi H1 (H2.set H1.length (some (.cells [I sz,R])))∧(H2.set H1.length (some (.cells [I sz,R])))[H1.length]? = some (some (.cells [I sz,R])):=by
   intro sz R hR
   have hlo:=(List.getElem?_eq_some_iff.1 h1.obj).1
   refine ⟨?_,⟨?_,h2.lo,by simpa using h2.len, ?_,h2.oa,h2.ca,h2.ia, ?_,h2.ob,h2.cb,h2.ib,h2.ab⟩,⟨by simpa using f2.1,fun j i1 i2 => ?_⟩,by simp [hol2]⟩
   ·rw [ast_ptr (n:=2) (off:=0) (xs:=[I sz,R]) (by simp [hR]) hq2 rfl (by simp)]; rfl
   ·rw [List.getElem?_set_ne (by omega)]; exact h2.obj
   ·exact zbZ h2.sa fun i hi => List.getElem?_set_ne (by have:=zcZ h1.sa i hi; omega)
   ·exact zbZ h2.sb fun i hi => List.getElem?_set_ne (by have:=zcZ h1.sb i hi; omega)
   ·rw [List.getElem?_set_ne (by omega)]; exact f2.2 j i1 i2
  have b1 : ∀ (s : Int) (R : AV),rdCells true 2 [I s,R] 0=some (.agg [I s,R]):=fun _ _ => rfl
  simp [e2,hp2,opA]
  rcases hk with hk | hk | hk | hk
  ·simp [hk,hq2,b1,hp2,opA]
   obtain ⟨R,s1,p1⟩:=extent_Write_p x.h hxl o.pos hb hbl
   refine bP_pure p1 ?_
   obtain ⟨t1,t2,t3,t4⟩:=put (cS (writeC (x.nd.size,x.nd.l) o.pos o.b)) R (SV.oneA s1)
   simp [t1]
   exact fin _ R _ s1 (by unfold chgC; rw [if_pos hk]) t2 t3 _ t4
  ·simp [hk,hq2,b1,hp2,opA]
   obtain ⟨R,s1,p1⟩:=zpcZ (size0:=x.nd.size) x.h hxl o.size
   refine bP_pure p1 ?_
   obtain ⟨t1,t2,t3,t4⟩:=put (cS (truncC (x.nd.size,x.nd.l) o.size)) R (SV.oneA s1)
   simp [t1]
   exact fin _ R _ s1 (by unfold chgC; rw [if_neg (by omega),if_pos hk]) t2 t3 _ t4
  ·simp [hk,hq2,b1,hp2,opA]
   obtain ⟨R,s1,p1⟩:=extent_Allocate_p (size:=x.nd.size) x.h hxl o.pos o.size o.keep
   refine bP_pure p1 ?_
   obtain ⟨t1,t2,t3,t4⟩:=put (cS (allocC (x.nd.size,x.nd.l) o.pos o.size o.keep)) R (SV.oneA s1)
   simp [t1]
   exact fin _ R _ s1 (by unfold chgC; rw [if_neg (by omega),if_neg (by omega),if_pos hk]) t2 t3 _ t4
  ·simp [hk,hq2,b1,hp2,opA]
   obtain ⟨R,s1,p1⟩:=extent_Punch_p (size:=x.nd.size) x.h hxl o.pos o.size
   refine bP_pure p1 ?_
   obtain ⟨t1,t2,t3,t4⟩:=put (cS (punchC (x.nd.size,x.nd.l) o.pos o.size)) R (SV.oneA s1)
   simp [t1]
   exact fin _ R _ s1 (by unfold chgC; rw [if_neg (by omega),if_neg (by omega),if_neg (by omega),if_pos hk]) t2 t3 _ t4
 ·simp [q1]
  refine ⟨rfl,a,b,dv, ?_,h1,f1⟩
  unfold chgD
  rw [atK_none (fun hh => q1 (hasK_map.1 hh))])
end Go.Proofs.YtlbilcpnjgkpjaaGreat.Av
end
section
namespace Go.Proofs.YtlbilcpnjgkpjaaGreat.Av
open Go Go.RowKit
theorem cloneN_c {H : AH} {v : AV} {cs : List AV} {n : Nat} (h : zaZ H 2 v=some (cs,n)) (hn : n≤1000000000) :
  ∃ r H',(ownedS r=true∧zaZ H' 2 r=some (cs,n)∧Grew H H'∧(∀ i ∈ idS r,H.length≤i)∧capOk r n)∧BCall Tryz.prog 59 [v] H r H':=zhlZ (by
 unfold zchZ
 rcases nilS_slice h with ⟨rfl,rfl,rfl⟩ | hb
 ·have e : abN .eql nilS nilSl nilSl=some (B true):=rfl
  simp only [e,bO_some,bB_bool,bI_true]
  exact ⟨rfl,h,Grew.refl H,by simp [idS],by simp [capOk]⟩
 ·simp only [hb,bO_some,bB_bool,zlZ]
  have e : absl H 2 0 (zrow [(.lit (.string ⟨#[]⟩)),(.lit (.int .i64 0))] 0) []=some (.sl H.length 0 0 2 (.ex 0),H ++ [some (.cells [])]):=rfl
  simp only [e,bH_some]
  have g:=Grew.app H [some (.cells [])]
  have h0 : zaZ (H ++ [some (.cells [])]) 2 (.sl H.length 0 0 2 (.ex 0))=some ([],0):=by simp [zaZ]
  obtain ⟨r,H2,a1,a2,a3,a4,a5,a6⟩:=zjcZ (sz:=2) (bytes:=24) (H:=H ++ [some (.cells [])]) (v:=.sl H.length 0 0 2 (.ex 0)) (cs:=[]) (n:=0) h0 rfl (zjZ (g.slice h)) (by omega)
  have a7:=aap_cap h0 rfl (zjZ (g.slice h)) (by simp [capOk]) a1
  simp only [a1,bH_some]
  refine ⟨a2,by simpa using a3,⟨by simp at a4; omega,fun i hi => ?_⟩,fun i hi => ?_,by simpa using a7⟩
  ·rw [a5 i (by simp; omega) (by simp [idS]; omega)]
   exact g.2 i hi
  ·rcases a6 i hi with h | h
   ·simp [idS] at h; omega
   ·simp at h; omega)
theorem cloneD_c {H : AH} {v : AV} {cs : List AV} {n : Nat} (h : zaZ H 3 v=some (cs,n)) (hn : n≤1000000000) :
  ∃ r H',(ownedS r=true∧zaZ H' 3 r=some (cs,n)∧Grew H H'∧(∀ i ∈ idS r,H.length≤i)∧capOk r n)∧BCall Tryz.prog 60 [v] H r H':=zhkZ (by
 unfold zcjZ
 rcases nilS_slice h with ⟨rfl,rfl,rfl⟩ | hb
 ·have e : abN .eql nilS nilSl nilSl=some (B true):=rfl
  simp only [e,bO_some,bB_bool,bI_true]
  exact ⟨rfl,h,Grew.refl H,by simp [idS],by simp [capOk]⟩
 ·simp only [hb,bO_some,bB_bool,zlZ]
  have e : absl H 3 0 (zrow [(.lit (.int .i64 0)),(.lit (.int .i64 0)),(.lit (.slice none 0 0))] 0) []=some (.sl H.length 0 0 3 (.ex 0),H ++ [some (.cells [])]):=rfl
  simp only [e,bH_some]
  have g:=Grew.app H [some (.cells [])]
  have h0 : zaZ (H ++ [some (.cells [])]) 3 (.sl H.length 0 0 3 (.ex 0))=some ([],0):=by simp [zaZ]
  obtain ⟨r,H2,a1,a2,a3,a4,a5,a6⟩:=zjcZ (sz:=3) (bytes:=40) (H:=H ++ [some (.cells [])]) (v:=.sl H.length 0 0 3 (.ex 0)) (cs:=[]) (n:=0) h0 rfl (zjZ (g.slice h)) (by omega)
  have a7:=aap_cap h0 rfl (zjZ (g.slice h)) (by simp [capOk]) a1
  simp only [a1,bH_some]
  refine ⟨a2,by simpa using a3,⟨by simp at a4; omega,fun i hi => ?_⟩,fun i hi => ?_,by simpa using a7⟩
  ·rw [a5 i (by simp; omega) (by simp [idS]; omega)]
   exact g.2 i hi
  ·rcases a6 i hi with h | h
   ·simp [idS] at h; omega
   ·simp at h; omega)
structure OwI (L : Nat) (ns : List Nm) (dv : List NdV) (a b : AV) (H : AH) : Prop where
 sa : zaZ H 2 a=some (ns.flatMap encN,ns.length)
 oa : ownedS a=true
 ca : capOk a ns.length
 ia : ∀ i ∈ idS a,L≤i
 sb : zaZ H 3 b=some (dv.flatMap encD,dv.length)
 ob : ownedS b=true
 cb : capOk b dv.length
 ib : ∀ i ∈ idS b,L≤i
 ab : ∀ i ∈ idS a,i ∉ idS b
def CopyK (H : AH) (ns : List Nm) (ds : List Nd) (r : AV) (H' : AH) : Prop:=∃ a b dv,r = .agg [a,b]∧dv.map NdV.nd=ds∧Grew H H'∧OwI H.length ns dv a b H'
theorem ImH.putD {L oi k : Nat} {ns : List Nm} {dv : List NdV} {a b R : AV} {H : AH} {x : NdV} {sz : Int} {l : List Ext} (h : ImH L oi ns dv a b H) (hx : dv[k]? = some x) (hR : SV encE 9 l R) :
  ∃ o off cells H',aixS 3 b (I k)=some (.ptr o off)∧H[o]? = some (some (.cells cells))∧rdCells true 2 cells (off + 1)=some (.agg [I x.nd.size,x.R])∧ast 2 H (.ptr o (off + 1)) (.agg [I sz,R])=some H'∧ImH L oi ns (dv.set k ⟨⟨x.nd.ino,sz,l⟩,R,hR⟩) a b H'∧FrL L oi H H':=by
 obtain ⟨o,off,cells,u1,u2,u3,u4,u5,u6⟩:=own_at encD_len (by omega) h.sb h.ob hx
 have oL:=h.ib o u2
 have hoo : o ≠ oi:=fun e => h.noB (e ▸ u2)
 have hle:=h.len
 have o2:=SV.oneA hR
 have hol:=(List.getElem?_eq_some_iff.1 u3).1
 have rd1 : rdCells true 2 cells (off + 1)=some (.agg [I x.nd.size,x.R]):=by
  have e51:=u5 1 (by omega)
  have e52:=u5 2 (by omega)
  have l2 : off + 1 + 2≤cells.length:=by omega
  have : (cells.drop (off + 1)).take 2=[I x.nd.size,x.R]:=by
   rw [List.drop_eq_getElem_cons (by omega),List.drop_eq_getElem_cons (by omega)]
   rw [List.getElem?_eq_getElem (by omega)] at e51 e52
   simp [encD] at e51 e52
   simp [e51,e52]
  simp [rdCells,l2,this]
 refine ⟨o,off,cells,H.set o (some (.cells (splice cells (off + 1) [I sz,R]))),u1,u3,rd1, ?_,⟨?_,h.lo,by simp; omega, ?_,h.oa,h.ca,h.ia, ?_,h.ob,by simpa using h.cb,h.ib,h.ab⟩,⟨by simp,fun j h1 h2 => List.getElem?_set_ne (by omega)⟩⟩
 ·rw [ast_ptr (n:=2) (xs:=[I sz,R]) (by simp [o2]) u3 rfl (by omega)]
 ·rw [List.getElem?_set_ne (by omega)]; exact h.obj
 ·exact zbZ h.sa fun i hi => List.getElem?_set_ne (fun (e : o=i) => h.ab i hi (e ▸ u2))
 ·have:=u6 ⟨⟨x.nd.ino,sz,l⟩,R,hR⟩ 1 [I sz,R] rfl (by simp)
  simpa using this
theorem Copy_c {H : AH} {ns : List Nm} {dv : List NdV} {a b : AV} (sa : SV encN 2 ns a) (sb : SV encD 3 dv b) (hn : ns.length≤100000) (hm : dv.length≤100000) (hl : ∀ d ∈ dv,d.nd.l.length≤1000000) :
  ∃ r H',CopyK H ns (dv.map NdV.nd) r H'∧BCall Tryz.prog 36 [.agg [a,b]] H r H':=image_Copy_ok (by
 unfold image_Copy
 have oa:=SV.oneA sa
 have ob:=SV.oneA sb
 obtain ⟨H3,e3,c0,c1,g3,l3⟩ : ∃ H3,anew (H ++ [some (.cells [a,b])]) (.agg [nilSl,nilSl])=some (.ptr (H.length + 1) 0,H3)∧H3[H.length]? = some (some (.cells [a,b]))∧H3[H.length + 1]? = some (some (.cells [nilSl,nilSl]))∧Grew H H3∧H3.length=H.length + 2:=by
  refine ⟨H ++ [some (.cells [a,b]),some (.cells [nilSl,nilSl])],by simp,by simp,by rw [List.getElem?_append_right (by omega)]; simp,Grew.app _ _,by simp⟩
 simp [oa,ob,e3,c0]
 obtain ⟨ra,H7,⟨p1,p2,p3,p4,p5⟩,p6⟩:=cloneN_c (sa.2 H3) (by omega)
 refine bC_of p6 ?_
 have c7:=p3.cells c0
 simp [c7]
 obtain ⟨rb,H11,⟨q1,q2,q3,q4,q5⟩,q6⟩:=cloneD_c (sb.2 H7) (by omega)
 refine bC_of q6 ?_
 have c8:=q3.cells c7
 have ra1:=zpZ p1
 have rb1:=zpZ q1
 have l7:=p3.1
 have l11:=q3.1
 have i0 : ImH (H.length + 2) H.length ns dv ra rb (H11.set H.length (some (.cells [ra,rb]))):=by
  refine ⟨by rw [List.getElem?_set_self (by omega)],⟨fun q => by have:=p4 _ q; omega,fun q => by have:=q4 _ q; omega⟩,by rw [List.length_set]; omega, ?_,p1,p5,fun i hi => by have:=p4 i hi; omega, ?_,q1,q5,fun i hi => by have:=q4 i hi; omega,fun i hi hh => ?_⟩
  ·exact zbZ (q3.slice p2) fun i hi => List.getElem?_set_ne (by have:=p4 i hi; omega)
  ·exact zbZ q2 fun i hi => List.getElem?_set_ne (by have:=q4 i hi; omega)
  ·have:=q4 i hh; have:=zcZ p2 i hi; omega
 have e13 : ast 2 H11 (.ptr H.length 0) (.agg [ra,rb])=some (H11.set H.length (some (.cells [ra,rb]))):=by
  rw [ast_ptr (n:=2) (off:=0) (xs:=[ra,rb]) (by simp [ra1,rb1]) c8 rfl (by simp)]; rfl
 have g13 : Grew H (H11.set H.length (some (.cells [ra,rb]))):=⟨by simp; omega,fun i hi => by rw [List.getElem?_set_ne (by omega),(g3.trans (p3.trans q3)).2 i hi]⟩
 have c13 : (H11.set H.length (some (.cells [ra,rb])))[H.length + 1]? = some (some (.cells [nilSl,nilSl])):=by
  rw [List.getElem?_set_ne (by omega)]; exact q3.cells (p3.cells c1)
 generalize H11.set H.length (some (.cells [ra,rb]))=H13 at i0 e13 g13 c13
 have d0:=i0.obj
 simp [zbuZ ra1,zbuZ rb1,e13]
 have ln:=zbxZ i0.sb
 simp [d0,ln]
 refine image_Copy_L4_rule (fun n x1 x2 x13 x14 H' => ∃ (k : Nat) (ew : List NdV),k + n=dv.length∧x1 = .ptr H.length 0∧x2 = .ptr (H.length + 1) 0∧x13=I dv.length∧x14=I k∧ew.map NdV.nd=dv.map NdV.nd∧ImH (H.length + 2) H.length ns ew ra rb H'∧Grew H H'∧H'[H.length + 1]? = some (some (.cells [nilSl,nilSl]))) ?_ dv.length ⟨0,dv,by omega,rfl,rfl,rfl,rfl,rfl,i0,g13,c13⟩
 rintro n x1 x2 x13 x14 H' R hR ⟨k,ew,hk,rfl,rfl,rfl,rfl,hew,hi,hg,hc⟩
 unfold zmyZ
 have el : ew.length=dv.length:=by have:=congrArg List.length hew; simpa using this
 have e0:=hi.obj
 rcases Nat.lt_or_ge k dv.length with h | h
 ·have hx:=List.getElem?_eq_getElem (l:=ew) (i:=k) (by omega)
  generalize ew[k]=x at hx
  have hxl : x.nd.l.length≤1000000:=by
   have h1 : x.nd ∈ ew.map NdV.nd:=List.mem_map_of_mem (List.mem_of_getElem? hx)
   rw [hew] at h1
   obtain ⟨d,hd,e⟩:=List.mem_map.1 h1
   rw [← e]; exact hl d hd
  obtain ⟨R2,s2,p2⟩:=copied_p (size:=x.nd.size) x.h (by omega)
  obtain ⟨o,off,cells,H2,w1,w2,w3,w4,w5,w6⟩:=hi.putD (sz:=x.nd.size) hx s2
  simp [h,e0,w1,w2,w3]
  refine bP_of p2 ?_
  simp [w4,abI_add (a:=k) (b:=1) (by omega) (by omega)]
  refine hR (n - 1) _ _ _ _ _ (by omega) ⟨k + 1,_,by omega,rfl,rfl,rfl,by simp, ?_,w5,⟨by have:=hg.1; have:=w6.1; omega,fun i hi2 => by rw [w6.2 i (by omega) (by omega),hg.2 i hi2]⟩,by rw [w6.2 _ (by omega) (by omega)]; exact hc⟩
  rw [← hew,List.map_set]
  refine List.ext_getElem? fun j => ?_
  rw [List.getElem?_set]
  split
  ·rename_i hj
   subst hj
   rw [List.getElem?_map,hx]
   simp; omega
  ·rfl
 ·have b0 : rdCells true 2 [ra,rb] 0=some (.agg [ra,rb]):=rfl
  have hcl:=(List.getElem?_eq_some_iff.1 hc).1
  have e5 : ast 2 H' (.ptr (H.length + 1) 0) (.agg [ra,rb])=some (H'.set (H.length + 1) (some (.cells [ra,rb]))):=by
   rw [ast_ptr (n:=2) (off:=0) (xs:=[ra,rb]) (by simp [ra1,rb1]) hc rfl (by simp)]; rfl
  simp [show ¬ k < dv.length by omega,e0,b0,e5,hcl]
  refine ⟨ra,rb,ew,rfl,hew,⟨by simpa using hg.1,fun i hi2 => by rw [List.getElem?_set_ne (by omega),hg.2 i hi2]⟩,⟨?_,hi.oa,hi.ca,fun i q => by have:=hi.ia i q; omega, ?_,hi.ob,hi.cb,fun i q => by have:=hi.ib i q; omega,hi.ab⟩⟩
  ·exact zbZ hi.sa fun i q => List.getElem?_set_ne (by have:=hi.ia i q; omega)
  ·exact zbZ hi.sb fun i q => List.getElem?_set_ne (by have:=hi.ib i q; omega))
def creI (ns : List Nm) (ds : List Nd) (o : OpM) : Prop:=¬ hasK Nm.name ns o.name∧¬ hasK Nd.ino ds o.ino∧mayN o.name∧1≤o.ino∧o.ino≤4611686018427387904∧ns.length < 16
instance (ns : List Nm) (ds : List Nd) (o : OpM) : Decidable (creI ns ds o):=by unfold creI; infer_instance
def remD (ns : List Nm) (ds : List Nd) (s : List UInt8) : List Nd:=if hasK Nm.name ns s then delK cmpI Nd.ino ds (nameI ns s) else ds
def applyI (ns : List Nm) (ds : List Nd) (o : OpM) : List Nm × List Nd :=
 if mayI ns ds then
  if o.kind=1 then (if creI ns ds o then (insK cmpN Nm.name ns ⟨o.name,o.ino⟩,insK cmpI Nd.ino ds ⟨o.ino,0,[]⟩) else (ns,ds))
  else if o.kind=2∨o.kind=3∨o.kind=4∨o.kind=5 then (ns,chgD ds o)
  else if o.kind=6 then (if renOk ns o.name o.to then (insK cmpN Nm.name (remNs (delK cmpN Nm.name ns o.name) o.to) ⟨o.to,nameI ns o.name⟩,remD (delK cmpN Nm.name ns o.name) ds o.to) else (ns,ds))
  else if o.kind=7 then (remNs ns o.name,remD ns ds o.name)
  else (ns,ds)
 else (ns,ds)
theorem insK_map {dv : List NdV} {i : Int} : (insK cmpI NdV.ino dv (newD i)).map NdV.nd=insK cmpI Nd.ino (dv.map NdV.nd) ⟨i,0,[]⟩:=by
 unfold insK
 rw [posK_map,List.map_append,List.map_cons,List.map_take,List.map_drop]
 rfl
theorem delK_map {dv : List NdV} {k : Int} : (delK cmpI NdV.ino dv k).map NdV.nd=delK cmpI Nd.ino (dv.map NdV.nd) k:=by
 unfold delK
 rw [posK_map,List.map_append,List.map_take,List.map_drop]
theorem remDv_map {ns : List Nm} {dv : List NdV} {s : List UInt8} : (remDv ns dv s).map NdV.nd=remD ns (dv.map NdV.nd) s:=by
 unfold remDv remD
 split
 ·exact delK_map
 ·rfl
theorem creOk_map {ns : List Nm} {dv : List NdV} {o : OpM} : creI ns (dv.map NdV.nd) o ↔ creOk ns dv o:=by
 unfold creI creOk
 rw [hasK_map]
def ApK (p : List Nm × List Nd) (r : AV) (X : AH) : Prop:=∃ R,FZ X r R∧ImV p.1 p.2 R
theorem apply_fin {ns : List Nm} {dv : List NdV} {a b : AV} {H : AH} {p : List Nm × List Nd} (h : ImH 3 0 ns dv a b H) (h2 : H[2]? = some (some (.cells [nilSl,nilSl]))) (hp : p=(ns,dv.map NdV.nd)) : zekZ (.ptr 0 0) (.ptr 2 0) H (ApK p):=by
 rw [zoaZ]; unfold zkuZ
 have c0:=h.obj
 have b0 : rdCells true 2 [a,b] 0=some (.agg [a,b]):=rfl
 have ra1:=zpZ h.oa
 have rb1:=zpZ h.ob
 have hcl:=(List.getElem?_eq_some_iff.1 h2).1
 have e5 : ast 2 H (.ptr 2 0) (.agg [a,b])=some (H.set 2 (some (.cells [a,b]))):=by
  rw [ast_ptr (n:=2) (off:=0) (xs:=[a,b]) (by simp [ra1,rb1]) h2 rfl (by simp)]; rfl
 simp [c0,b0,e5,hcl]
 have h3 : ImH 3 0 ns dv a b (H.set 2 (some (.cells [a,b]))):=⟨by rw [List.getElem?_set_ne (by omega)]; exact c0,h.lo,by simpa using h.len,zbZ h.sa fun i q => List.getElem?_set_ne (by have:=h.ia i q; omega),h.oa,h.ca,h.ia,zbZ h.sb fun i q => List.getElem?_set_ne (by have:=h.ib i q; omega),h.ob,h.cb,h.ib,h.ab⟩
 obtain ⟨Ra,Rb,sa,sb,fz⟩:=h3.lend
 subst hp
 exact ⟨_,fz,Ra,Rb,dv,rfl,sa,sb,rfl⟩
theorem Apply_p {ns : List Nm} {ds : List Nd} {v bv : AV} {o : OpM} (hv : ImV ns ds v) (hb : Sm ns ds) (hbv : SV encU 1 o.b bv) (hbl : o.b.length≤281474976710656) (hn : o.name.length≤1000000000) (ht : o.to.length≤1000000000) :
  ∃ R,ImV (applyI ns ds o).1 (applyI ns ds o).2 R∧BPure Tryz.prog 35 [v,.agg (opA o bv)] R:=by
 have hids:=hv.noIds
 refine BPure.FZ (by simp [noIdss] at hids ⊢; exact ⟨hids,by simp [opA,noIds,noIdss,hbv.1]⟩) (image_Apply_ok (K:=ApK (applyI ns ds o)) ?_)
 obtain ⟨a,b,dv,rfl,sa,sb,rfl⟩:=hv
 have b1:=hb.1
 have b2:=hb.2.1
 rw [List.length_map] at b2
 have oa:=SV.oneA sa
 have ob:=SV.oneA sb
 have o3:=SV.oneA hbv
 unfold image_Apply
 obtain ⟨H5,e5,c0,c1,c2,l5⟩ : ∃ H5,anew [some (.cells [a,b]),some (.cells (opA o bv))] (.agg [nilSl,nilSl])=some (.ptr 2 0,H5)∧H5[0]? = some (some (.cells [a,b]))∧H5[1]? = some (some (.cells (opA o bv)))∧H5[2]? = some (some (.cells [nilSl,nilSl]))∧H5.length=3 :=
  ⟨[some (.cells [a,b]),some (.cells (opA o bv)),some (.cells [nilSl,nilSl])],by simp,rfl,rfl,rfl,rfl⟩
 have e4 : anew [some (.cells [a,b])] (.agg (opA o bv))=some (.ptr 1 0,[some (.cells [a,b]),some (.cells (opA o bv))]):=by simp [opA,o3]
 have b0 : ∀ x y : AV,rdCells true 2 [x,y] 0=some (.agg [x,y]):=fun _ _ => rfl
 simp [oa,ob,e4,e5,c0,b0]
 obtain ⟨r,H8,⟨a',b',ew,rfl,hew,hg,ow⟩,hc⟩:=Copy_c (H:=H5) sa sb (by omega) b2 (fun d hd => hb.2.2.2 d.nd (List.mem_map_of_mem hd))
 refine bC_of hc ?_
 have a1:=zpZ ow.oa
 have a2:=zpZ ow.ob
 have l8:=hg.1
 rw [l5] at ow
 have e9 : ast 2 H8 (.ptr 0 0) (.agg [a',b'])=some (H8.set 0 (some (.cells [a',b']))):=by
  rw [ast_ptr (n:=2) (off:=0) (xs:=[a',b']) (by simp [a1,a2]) (hg.cells c0) rfl (by simp)]; rfl
 have i9 : ImH 3 0 ns ew a' b' (H8.set 0 (some (.cells [a',b']))):=⟨by rw [List.getElem?_set_self (by omega)],⟨fun q => by have:=ow.ia _ q; omega,fun q => by have:=ow.ib _ q; omega⟩,by rw [List.length_set]; omega,zbZ ow.sa fun i q => List.getElem?_set_ne (by have:=ow.ia i q; omega),ow.oa,ow.ca,ow.ia,zbZ ow.sb fun i q => List.getElem?_set_ne (by have:=ow.ib i q; omega),ow.ob,ow.cb,ow.ib,ow.ab⟩
 have k1 : (H8.set 0 (some (.cells [a',b'])))[1]? = some (some (.cells (opA o bv))):=by rw [List.getElem?_set_ne (by omega)]; exact hg.cells c1
 have k2 : (H8.set 0 (some (.cells [a',b'])))[2]? = some (some (.cells [nilSl,nilSl])):=by rw [List.getElem?_set_ne (by omega)]; exact hg.cells c2
 simp only [e9,bS_some]
 generalize H8.set 0 (some (.cells [a',b']))=H9 at i9 k1 k2
 have d0:=i9.obj
 obtain ⟨Ra,Rb,ta,tb,fz⟩:=i9.lend
 have hsm : Sm ns (ew.map NdV.nd):=by rw [hew]; exact hb
 have keep : ∀ {H' : AH},FrL 3 0 H9 H'→H'[2]? = some (some (.cells [nilSl,nilSl])):=fun f => by rw [f.2 2 (by omega) (by omega)]; exact k2
 rw [← hew]
 have b8 : rdCells true 8 (opA o bv) 0=some (.agg (opA o bv)):=rfl
 have el : ew.length=dv.length:=by have:=congrArg List.length hew; simpa using this
 have hlw : ∀ d ∈ ew,d.nd.l.length≤1000000:=fun d hd => hsm.2.2.2 d.nd (List.mem_map_of_mem hd)
 simp [d0,b0]
 refine bP_of (PCall.lend (FZs.cons fz FZs.nil) rfl (May_p ⟨Ra,Rb,ew,rfl,ta,tb,rfl⟩ hsm)) ?_
 by_cases hm : mayI ns (ew.map NdV.nd)
 ·have hs:=hm.1.2.2.1
  have hd:=srtK_map.1 hm.2.2.1
  have hx : ∀ x ∈ ns,hasK NdV.ino ew x.ino:=fun x hx => hasK_map.1 ((mayI_doc.1 hm).2.2.2.2.1 x hx)
  simp [hm,k1,opA]
  by_cases q1 : o.kind=1
  ·have e : applyI ns (ew.map NdV.nd) o=(creNs ns ew o,(creDv ns ew o).map NdV.nd):=by
    unfold applyI creNs creDv
    rw [if_pos hm,if_pos q1]
    by_cases hc : creOk ns ew o
    ·rw [if_pos hc,if_pos hc,if_pos (creOk_map.2 hc),insK_map]
    ·rw [if_neg hc,if_neg hc,if_neg (fun h => hc (creOk_map.1 h))]
   rw [decide_eq_true q1]
   simp only [bI_true]
   obtain ⟨r2,H2,⟨rfl,a3,b3,i3,f3⟩,w3⟩:=create_c i9 hs hd o3 b1 (by omega) hn
   refine bC_of w3 ?_
   exact apply_fin i3 (keep f3) e
  ·have hJ8 : ∀ t : Bool,(t=true ↔ (o.kind=2∨o.kind=3∨o.kind=4∨o.kind=5))→zgaZ (.ptr 0 0) (.ptr 1 0) (.ptr 2 0) (I o.kind) (B t) H9 (ApK (applyI ns (ew.map NdV.nd) o)):=by
    intro t htt
    rw [image_Apply_J8_eq]; unfold zpvZ
    by_cases q2 : o.kind=2∨o.kind=3∨o.kind=4∨o.kind=5
    ·rw [htt.2 q2]
     have e : applyI ns (ew.map NdV.nd) o=(ns,chgD (ew.map NdV.nd) o):=by
      unfold applyI
      rw [if_pos hm,if_neg q1,if_pos q2]
     simp [k1,b8]
     obtain ⟨r2,H2,⟨rfl,a3,b3,dw,hdw,i3,f3⟩,w3⟩:=change_c i9 hs hd hbv (by omega) hbl hlw q2
     refine bC_of w3 ?_
     exact apply_fin i3 (keep f3) (by rw [hdw]; exact e)
    ·have : t=false:=by cases t with
      | true => exact absurd (htt.1 rfl) q2
      | false => rfl
     subst this
     simp
     rw [image_Apply_J12_eq]; unfold zobZ
     by_cases q6 : o.kind=6
     ·have e : applyI ns (ew.map NdV.nd) o=(renNs ns o.name o.to,(renDv ns ew o.name o.to).map NdV.nd):=by
       unfold applyI renNs renDv
       rw [if_pos hm,if_neg q1,if_neg q2,if_pos q6]
       by_cases hc : renOk ns o.name o.to
       ·rw [if_pos hc,if_pos hc,if_pos hc,remDv_map]
       ·rw [if_neg hc,if_neg hc,if_neg hc]
      simp [q6,k1,opA]
      obtain ⟨r2,H2,⟨rfl,a3,b3,i3,f3⟩,w3⟩:=rename_c (s:=o.name) (t:=o.to) i9 hs hd hx b1 (by omega) ht
      refine bC_of w3 ?_
      exact apply_fin i3 (keep f3) e
     ·simp [q6]
      rw [image_Apply_J13_eq]; unfold zpaZ
      by_cases q7 : o.kind=7
      ·have e : applyI ns (ew.map NdV.nd) o=(remNs ns o.name,(remDv ns ew o.name).map NdV.nd):=by
        unfold applyI
        rw [if_pos hm,if_neg q1,if_neg q2,if_neg q6,if_pos q7,remDv_map]
       simp [q7,k1,opA]
       obtain ⟨r2,H2,⟨rfl,a3,b3,i3,f3⟩,w3⟩:=remove_c (s:=o.name) i9 hs hd hx b1 (by omega)
       refine bC_of w3 ?_
       exact apply_fin i3 (keep f3) e
      ·have e : applyI ns (ew.map NdV.nd) o=(ns,ew.map NdV.nd):=by
        unfold applyI
        rw [if_pos hm,if_neg q1,if_neg q2,if_neg q6,if_neg q7]
       simp [q7]
       exact apply_fin i9 k2 e
   simp [q1]
   by_cases w2 : o.kind=2
   ·simp [w2]
    have:=hJ8 true (by simp [w2]); rwa [w2] at this
   ·by_cases w3 : o.kind=3
    ·simp [w3]
     have:=hJ8 true (by simp [w3]); rwa [w3] at this
    ·by_cases w4 : o.kind=4
     ·simp [w4]
      have:=hJ8 true (by simp [w4]); rwa [w4] at this
     ·simp [w2,w3,w4]
      exact hJ8 (decide (o.kind=5)) (by simp [w2,w3,w4])
 ·have e : applyI ns (ew.map NdV.nd) o=(ns,ew.map NdV.nd):=by unfold applyI; rw [if_neg hm]
  have:=apply_fin i9 k2 e
  rw [zoaZ] at this; unfold zkuZ at this
  simp [d0,b0] at this
  simp [hm]
  exact this
end Go.Proofs.YtlbilcpnjgkpjaaGreat.Av
end
section
namespace Go.Proofs.YtlbilcpnjgkpjaaGreat.Av
open Go Go.RowKit
end Go.Proofs.YtlbilcpnjgkpjaaGreat.Av
end
section
namespace Go.Proofs.YtlbilcpnjgkpjaaGreat.Av
open Go Go.RowKit
end Go.Proofs.YtlbilcpnjgkpjaaGreat.Av
end
section
namespace Go.Proofs.YtlbilcpnjgkpjaaGreat.Av
open Go Go.RowKit
section
variable {κ α : Type} {c : κ→κ→Int} {key : α→κ}
theorem srtK_ext (hc : KO c) : ∀ {l m : List α},srtK c key l→srtK c key m→(∀ x,x ∈ l ↔ x ∈ m)→l=m
 | [],[],_,_,_ => rfl
 | [],b :: m,_,_,h => by have:=(h b).2 (by simp); simp at this
 | a :: l,[],_,_,h => by have:=(h a).1 (by simp); simp at this
 | a :: l,b :: m,h1,h2,h => by
  have k1:=List.pairwise_cons.1 h1
  have k2:=List.pairwise_cons.1 h2
  have e : a=b:=by
   rcases List.mem_cons.1 ((h a).1 (by simp)) with e | q1
   ·exact e
   ·rcases List.mem_cons.1 ((h b).2 (by simp)) with e | q2
    ·exact e.symm
    ·exact absurd (hc.trans _ _ _ (k1.1 b q2) (k2.1 a q1)) (hc.irr _)
  subst e
  congr 1
  refine srtK_ext hc k1.2 k2.2 fun x => ?_
  have irr : ∀ y,y ∈ l∨y ∈ m→y ≠ a:=by
   rintro y (q | q) rfl
   ·exact hc.irr _ (k1.1 y q)
   ·exact hc.irr _ (k2.1 y q)
  constructor
  ·intro q
   rcases List.mem_cons.1 ((h x).1 (by simp [q])) with e | q2
   ·exact absurd e (irr x (.inl q))
   ·exact q2
  ·intro q
   rcases List.mem_cons.1 ((h x).2 (by simp [q])) with e | q2
   ·exact absurd e (irr x (.inr q))
   ·exact q2
theorem hasK_del (hc : KO c) {l : List α} (h : srtK c key l) {k k2 : κ} (hk : hasK key l k) (hne : k2 ≠ k) : hasK key (delK c key l k) k2 ↔ hasK key l k2:=by
 constructor
 ·rintro ⟨x,hx,e⟩
  exact ⟨x,delK_sub.subset hx,e⟩
 ·rintro ⟨x,hx,e⟩
  exact ⟨x,(mem_delK hc h hk).2 ⟨hx,by rw [e]; exact hne⟩,e⟩
theorem delK_comm (hc : KO c) {l : List α} (h : srtK c key l) {k k2 : κ} (hk : hasK key l k) (hk2 : hasK key l k2) (hne : k ≠ k2) : delK c key (delK c key l k) k2=delK c key (delK c key l k2) k:=by
 refine srtK_ext hc (srtK_del (srtK_del h)) (srtK_del (srtK_del h)) fun x => ?_
 rw [mem_delK hc (srtK_del h) ((hasK_del hc h hk (Ne.symm hne)).2 hk2),mem_delK hc h hk,mem_delK hc (srtK_del h) ((hasK_del hc h hk2 hne).2 hk),mem_delK hc h hk2,and_right_comm]
end
theorem nameI_del {ns : List Nm} (hs : srtK cmpN Nm.name ns) {s t : List UInt8} (hk : hasK Nm.name ns s) (ht : hasK Nm.name ns t) (hne : t ≠ s) : nameI (delK cmpN Nm.name ns s) t=nameI ns t:=by
 obtain ⟨x,h1,h2,rfl⟩:=atK_has ht
 unfold nameI
 rw [h1,atK_eq koN (srtK_del hs) ((mem_delK koN hs hk).2 ⟨h2,hne⟩)]
end Go.Proofs.YtlbilcpnjgkpjaaGreat.Av
end
section
namespace Go.Proofs.YtlbilcpnjgkpjaaGreat.Av
open Go Go.RowKit
end Go.Proofs.YtlbilcpnjgkpjaaGreat.Av
end
section
namespace Go.Proofs.YtlbilcpnjgkpjaaGreat.Av
open Go Go.RowKit
theorem wr_len12 : ∀ {bs : List UInt8} {l : List Ext} {p : Int},(writeL l p bs).length≤l.length + bs.length
 | [],l,p => Nat.le_refl _
 | b :: r,l,p => by
  show (writeL (needPut l p [b]) (p + 1) r).length≤_
  have ih:=wr_len12 (bs:=r) (l:=needPut l p [b]) (p:=p + 1)
  have h : (needPut l p [b]).length≤l.length + 1:=by
   unfold needPut
   have:=need_len l (p / 8)
   simp [putL]
   omega
  simp only [List.length_cons]; omega
theorem chg_len {o : OpM} {d : Nd} : (cL (chgC o d)).length≤d.l.length + o.b.length + 4098:=by
 unfold chgC
 split
 ·unfold writeC
  split
  ·split
   ·simp only [cL,Option.getD_some]; omega
   ·simp only [cL,Option.getD_some]
    have:=wr_len12 (bs:=o.b) (l:=d.l) (p:=o.pos)
    omega
  ·simp [cL]
 ·split
  ·unfold truncC
   split
   ·simp only [cL,Option.getD_some,truncL,wipeL,List.length_map]
    exact Nat.le_trans (List.length_filter_le _ _) (by omega)
   ·simp [cL]
  ·split
   ·unfold allocC
    split
    ·simp only [cL,Option.getD_some,allocL]
     have:=(ns_len (k:=allocN o.pos o.size) (l:=d.l) (no:=o.pos / 8)).1
     have hN : allocN o.pos o.size≤4098:=by unfold allocN; omega
     omega
    ·simp [cL]
   ·split
    ·unfold punchC
     split
     ·simp only [cL,Option.getD_some,punchL,wipeL,List.length_map]
      exact Nat.le_trans (List.length_filter_le _ _) (by omega)
     ·simp [cL]
    ·simp [cL]
end Go.Proofs.YtlbilcpnjgkpjaaGreat.Av
end
section
namespace Go.Proofs.YtlbilcpnjgkpjaaGreat.Av
open Go Go.RowKit
end Go.Proofs.YtlbilcpnjgkpjaaGreat.Av
end
section
namespace Go.Proofs.YtlbilcpnjgkpjaaGreat.Av
open Go Go.RowKit
def FewI (ns : List Nm) (ds : List Nd) : Prop:=ns.length≤30∧ds.length≤30∧(∀ d ∈ ds,d.l.length≤60)∧sumL ds≤300
instance (ns : List Nm) (ds : List Nd) : Decidable (FewI ns ds):=by unfold FewI; infer_instance
end Go.Proofs.YtlbilcpnjgkpjaaGreat.Av
end
section
namespace Go.Proofs.YtlbilcpnjgkpjaaGreat.Av
open Go Go.RowKit
structure OpV where
 o : OpM
 bv : AV
 h : SV encU 1 o.b bv
def encO (x : OpV) : List AV:=opA x.o x.bv
theorem encO_len (x : OpV) : (encO x).length=8:=rfl
theorem op_at {H : AH} {w : AV} {l : List OpV} {k : Nat} {x : OpV} (hw : zaZ H 8 w=some (l.flatMap encO,l.length)) (hx : l[k]? = some x) : ∃ p,aixS 8 w (I k)=some p∧ald true 8 H p=some (.agg (opA x.o x.bv)):=by
 have hk:=(List.getElem?_eq_some_iff.1 hx).1
 obtain ⟨p,c,h1,h2,h3,h4⟩:=aixS_spec hw (i:=(k : Int)) rfl hk
 have hc : c.take 8=encO x:=by
  rw [h3,zelZ encO_len hx,List.take_append_of_le_length (by rw [encO_len]; omega),List.take_of_length_le (by rw [encO_len]; omega)]
 exact ⟨p,h1,by rw [ald_at h2 (by omega) h4,rdCells_agg (by omega),List.drop_zero,hc]; rfl⟩
end Go.Proofs.YtlbilcpnjgkpjaaGreat.Av
end
section
namespace Go.Proofs.YtlbilcpnjgkpjaaGreat.Av
open Go Go.RowKit
section
variable {α κ ι : Type} {c : κ→κ→Int} {key : α→κ}
theorem hasK_ins {f : α→ι} {l : List α} {x : α} {i : ι} : hasK f (insK c key l x) i ↔ f x=i∨hasK f l i:=by
 unfold hasK
 constructor
 ·rintro ⟨y,hy,e⟩
  rcases mem_insK.1 hy with rfl | hy
  ·exact .inl e
  ·exact .inr ⟨y,hy,e⟩
 ·rintro (e | ⟨y,hy,e⟩)
  ·exact ⟨x,mem_insK.2 (.inl rfl),e⟩
  ·exact ⟨y,mem_insK.2 (.inr hy),e⟩
theorem hasK_delf (hc : KO c) {f : α→ι} {l : List α} (h : srtK c key l) {k : κ} (hk : hasK key l k) {i : ι} : hasK f (delK c key l k) i ↔ ∃ y ∈ l,key y ≠ k∧f y=i:=by
 unfold hasK
 constructor
 ·rintro ⟨y,hy,e⟩
  obtain ⟨h1,h2⟩:=(mem_delK hc h hk).1 hy
  exact ⟨y,h1,h2,e⟩
 ·rintro ⟨y,hy,h2,e⟩
  exact ⟨y,(mem_delK hc h hk).2 ⟨hy,h2⟩,e⟩
theorem nodup_inj {β : Type} {f : α→β} : ∀ {l : List α},l.Nodup→((l.map f).Nodup ↔ ∀ x ∈ l,∀ y ∈ l,f x=f y→x=y)
 | [],_ => by simp
 | a :: l,h => by
  obtain ⟨h1,h2⟩:=List.nodup_cons.1 h
  rw [List.map_cons,List.nodup_cons,nodup_inj h2]
  constructor
  ·rintro ⟨h3,h4⟩ x hx y hy e
   rcases List.mem_cons.1 hx with hx1 | hx1 <;> rcases List.mem_cons.1 hy with hy1 | hy1
   ·rw [hx1,hy1]
   ·rw [hx1] at e; exact absurd (List.mem_map.2 ⟨y,hy1,e.symm⟩) h3
   ·rw [hy1] at e; exact absurd (List.mem_map.2 ⟨x,hx1,e⟩) h3
   ·exact h4 x hx1 y hy1 e
  ·intro h3
   refine ⟨fun hm => ?_,fun x hx y hy => h3 x (by simp [hx]) y (by simp [hy])⟩
   obtain ⟨y,hy,e⟩:=List.mem_map.1 hm
   have:=h3 y (by simp [hy]) a (by simp) e
   exact h1 (this ▸ hy)
theorem srtK_nodup (hc : KO c) {l : List α} (h : srtK c key l) : l.Nodup:=by
 refine List.Pairwise.imp ?_ h
 rintro a b hab rfl
 exact hc.irr _ hab
end
structure MayW (ns : List Nm) (ds : List Nd) : Prop where
 len : ns.length≤16
 nm : ∀ x ∈ ns,mayN x.name∧1≤x.ino∧x.ino≤4611686018427387904
 srt : srtK cmpN Nm.name ns
 inj : ∀ x ∈ ns,∀ y ∈ ns,x.ino=y.ino→x=y
 sd : srtK cmpI Nd.ino ds
 mc : ∀ d ∈ ds,mayC d.size d.l
 ino : ∀ i,hasK Nd.ino ds i ↔ hasK Nm.ino ns i
theorem inos_nodup {ds : List Nd} (h : srtK cmpI Nd.ino ds) : (ds.map Nd.ino).Nodup:=by
 rw [List.Nodup,List.pairwise_map]
 exact h.imp fun h => by rw [cmpI_lt] at h; omega
theorem mayI_w {ns : List Nm} {ds : List Nd} : mayI ns ds ↔ MayW ns ds:=by
 constructor
 ·intro h
  have h2:=mayI_doc.1 h
  obtain ⟨h21,h22,⟨h23,h24,h25⟩,h26,h27,h28⟩:=h2
  refine ⟨h21,h23,h24,(nodup_inj (srtK_nodup koN h24)).1 h25,h26,h28,fun i => ⟨?_, ?_⟩⟩
  ·rintro ⟨d,hd,rfl⟩
   exact (h.2.2.2 d hd).1
  ·rintro ⟨x,hx,rfl⟩
   exact h27 x hx
 ·intro h
  refine ⟨⟨h.len,h.nm,h.srt,(nodup_inj (srtK_nodup koN h.srt)).2 h.inj⟩, ?_,h.sd,fun d hd => ⟨(h.ino d.ino).1 ⟨d,hd,rfl⟩,h.mc d hd⟩⟩
  have hp:=(List.perm_ext_iff_of_nodup (inos_nodup h.sd) ((nodup_inj (srtK_nodup koN h.srt)).2 h.inj)).2 fun i => by
   have:=h.ino i
   unfold hasK at this
   simpa [List.mem_map] using this
  have:=hp.length_eq
  simpa using this
theorem nameI_mem {ns : List Nm} (hs : srtK cmpN Nm.name ns) {x : Nm} (hx : x ∈ ns) : nameI ns x.name=x.ino:=by
 unfold nameI
 rw [atK_eq koN hs hx]
theorem nameI_no {ns : List Nm} {s : List UInt8} (h : ¬ hasK Nm.name ns s) : nameI ns s=0:=by
 unfold nameI
 rw [atK_none h]
theorem MayW.rem {ns : List Nm} {ds : List Nd} {s : List UInt8} (h : MayW ns ds) (hk : hasK Nm.name ns s) : MayW (delK cmpN Nm.name ns s) (delK cmpI Nd.ino ds (nameI ns s)):=by
 obtain ⟨x,hx,rfl⟩:=hk
 have hk : hasK Nm.name ns x.name:=⟨x,hx,rfl⟩
 rw [nameI_mem h.srt hx]
 have hd : hasK Nd.ino ds x.ino:=(h.ino _).2 ⟨x,hx,rfl⟩
 have sub : ∀ y,y ∈ delK cmpN Nm.name ns x.name→y ∈ ns:=fun y hy => delK_sub.subset hy
 have hl:=delK_len (hasK_pos koN h.srt hk)
 have:=h.len
 refine ⟨by omega,fun y hy => h.nm y (sub y hy),srtK_del h.srt,fun y hy z hz => h.inj y (sub y hy) z (sub z hz),srtK_del h.sd,fun d hd => h.mc d (delK_sub.subset hd),fun i => ?_⟩
 rw [hasK_delf koI h.sd hd,hasK_delf koN h.srt hk]
 constructor
 ·rintro ⟨d,hd1,hd2,rfl⟩
  obtain ⟨y,hy,e⟩:=(h.ino d.ino).1 ⟨d,hd1,rfl⟩
  exact ⟨y,hy,fun e2 => hd2 (by rw [← e,srtK_uniq koN h.srt hy hx e2]),e⟩
 ·rintro ⟨y,hy,hne,rfl⟩
  obtain ⟨d,hd1,e⟩:=(h.ino y.ino).2 ⟨y,hy,rfl⟩
  exact ⟨d,hd1,fun e2 => hne (by rw [h.inj y hy x hx (by rw [← e,e2])]),e⟩
theorem MayW.ren {ns : List Nm} {ds : List Nd} {s t : List UInt8} (h : MayW ns ds) (hk : hasK Nm.name ns s) (ht : ¬ hasK Nm.name ns t) (hm : mayN t) : MayW (insK cmpN Nm.name (delK cmpN Nm.name ns s) ⟨t,nameI ns s⟩) ds:=by
 obtain ⟨x,hx,rfl⟩:=hk
 have hk : hasK Nm.name ns x.name:=⟨x,hx,rfl⟩
 rw [nameI_mem h.srt hx]
 have mem : ∀ y,y ∈ insK cmpN Nm.name (delK cmpN Nm.name ns x.name) ⟨t,x.ino⟩ ↔ y=⟨t,x.ino⟩∨(y ∈ ns∧y.name ≠ x.name):=fun y => by rw [mem_insK,mem_delK koN h.srt hk]
 have hl:=delK_len (hasK_pos koN h.srt hk)
 have:=h.len
 refine ⟨by rw [insK_len]; omega, ?_,srtK_ins koN (srtK_del h.srt) (fun hh => ht ?_), ?_,h.sd,h.mc,fun i => ?_⟩
 ·intro y hy
  rcases (mem y).1 hy with rfl | ⟨hy,-⟩
  ·exact ⟨hm,(h.nm x hx).2⟩
  ·exact h.nm y hy
 ·obtain ⟨y,hy,e⟩:=hh
  exact ⟨y,delK_sub.subset hy,e⟩
 ·intro y hy z hz e
  rcases (mem y).1 hy with rfl | ⟨hy,hny⟩ <;> rcases (mem z).1 hz with rfl | ⟨hz,hnz⟩
  ·rfl
  ·exact absurd (by rw [h.inj x hx z hz e]) hnz
  ·exact absurd (by rw [h.inj y hy x hx e]) hny
  ·exact h.inj y hy z hz e
 ·rw [h.ino i,hasK_ins,hasK_delf koN h.srt hk]
  constructor
  ·rintro ⟨y,hy,rfl⟩
   by_cases c : y.name=x.name
   ·exact .inl (by rw [srtK_uniq koN h.srt hy hx c])
   ·exact .inr ⟨y,hy,c,rfl⟩
  ·rintro (rfl | ⟨y,hy,-,rfl⟩)
   ·exact ⟨x,hx,rfl⟩
   ·exact ⟨y,hy,rfl⟩
theorem mayC_nil : mayC 0 []:=by decide
theorem MayW.cre {ns : List Nm} {ds : List Nd} {o : OpM} (h : MayW ns ds) (hc : creI ns ds o) : MayW (insK cmpN Nm.name ns ⟨o.name,o.ino⟩) (insK cmpI Nd.ino ds ⟨o.ino,0,[]⟩):=by
 obtain ⟨h1,h2,h3,h4,h5,h6⟩:=hc
 have hn : ¬ hasK Nm.ino ns o.ino:=fun hh => h2 ((h.ino _).2 hh)
 refine ⟨by rw [insK_len]; omega, ?_,srtK_ins koN h.srt h1, ?_,srtK_ins koI h.sd h2, ?_,fun i => by rw [hasK_ins,hasK_ins,h.ino]⟩
 ·intro y hy
  rcases mem_insK.1 hy with rfl | hy
  ·exact ⟨h3,h4,h5⟩
  ·exact h.nm y hy
 ·intro y hy z hz e
  rcases mem_insK.1 hy with rfl | hy <;> rcases mem_insK.1 hz with rfl | hz
  ·rfl
  ·exact absurd ⟨z,hz,e.symm⟩ hn
  ·exact absurd ⟨y,hy,e⟩ hn
  ·exact h.inj y hy z hz e
 ·intro d hd
  rcases mem_insK.1 hd with rfl | hd
  ·exact mayC_nil
  ·exact h.mc d hd
theorem chgC_may {o : OpM} {d : Nd} {c : Cont} (hk : o.kind=2∨o.kind=3∨o.kind=4∨o.kind=5) (h : chgC o d=some c) : mayC c.1 c.2:=by
 unfold chgC at h
 split at h
 ·exact may_write h
 ·split at h
  ·exact may_trunc h
  ·split at h
   ·exact may_alloc h
   ·split at h
    ·exact may_punch h
    ·omega
theorem chgD_inos {ds : List Nd} {o : OpM} (hs : srtK cmpI Nd.ino ds) : (chgD ds o).map Nd.ino=ds.map Nd.ino:=by
 unfold chgD
 split
 ·rename_i d hd
  split
  ·rename_i c hc
   have hk : hasK Nd.ino ds o.ino:=⟨d,List.mem_of_find?_eq_some hd,by simpa using List.find?_some hd⟩
   obtain ⟨y,h1,h2,h3⟩:=posK_atK koI hs hk
   have e : y=d:=by rw [hd] at h2; injection h2 with h2; exact h2.symm
   rw [List.map_set,← e]
   apply List.ext_getElem?
   intro j
   rw [List.getElem?_set]
   split
   ·rename_i hj
    subst hj
    split
    ·rw [List.getElem?_map,h1]; rfl
    ·rename_i hl
     rw [List.getElem?_map,h1]
     have:=(List.getElem?_eq_some_iff.1 h1).1
     simp at hl; omega
   ·rfl
  ·rfl
 ·rfl
theorem srt_inos {ds es : List Nd} (e : ds.map Nd.ino=es.map Nd.ino) (h : srtK cmpI Nd.ino es) : srtK cmpI Nd.ino ds:=by
 unfold srtK at h ⊢
 have h1 : (es.map Nd.ino).Pairwise fun a b => cmpI a b < 0:=List.pairwise_map.2 h
 rw [← e] at h1
 exact List.pairwise_map.1 h1
theorem has_inos {ds es : List Nd} (e : ds.map Nd.ino=es.map Nd.ino) (i : Int) : hasK Nd.ino ds i ↔ hasK Nd.ino es i:=by
 have a : ∀ l : List Nd,hasK Nd.ino l i ↔ i ∈ l.map Nd.ino:=fun l => by unfold hasK; simp [List.mem_map]
 rw [a,a,e]
theorem mem_chgD {ds : List Nd} {o : OpM} (hs : srtK cmpI Nd.ino ds) {d : Nd} (h : d ∈ chgD ds o) : d ∈ ds∨(d.ino=o.ino∧∃ e ∈ ds,e.ino=o.ino∧chgC o e=some (d.size,d.l)):=by
 unfold chgD at h
 split at h
 ·rename_i e he
  split at h
  ·rename_i c hc
   have e1:=List.mem_of_find?_eq_some he
   have e2 : e.ino=o.ino:=by simpa using List.find?_some he
   rcases List.mem_or_eq_of_mem_set h with h | h
   ·exact .inl h
   ·exact .inr ⟨by rw [h]; exact e2,e,e1,e2,by rw [h]; exact hc⟩
  ·exact .inl h
 ·exact .inl h
theorem MayW.chg {ns : List Nm} {ds : List Nd} {o : OpM} (h : MayW ns ds) (hk : o.kind=2∨o.kind=3∨o.kind=4∨o.kind=5) : MayW ns (chgD ds o):=by
 have hi:=chgD_inos (o:=o) h.sd
 refine ⟨h.len,h.nm,h.srt,h.inj,srt_inos hi h.sd,fun d hd => ?_,fun i => by rw [has_inos hi,h.ino]⟩
 rcases mem_chgD h.sd hd with hd | ⟨-,e,-,-,he⟩
 ·exact h.mc d hd
 ·exact chgC_may hk he
theorem ren_eq {ns : List Nm} {ds : List Nd} {s t : List UInt8} (h : MayW ns ds) (hk : hasK Nm.name ns s) (hne : s ≠ t) :
  (insK cmpN Nm.name (remNs (delK cmpN Nm.name ns s) t) ⟨t,nameI ns s⟩,remD (delK cmpN Nm.name ns s) ds t)=(insK cmpN Nm.name (delK cmpN Nm.name (remNs ns t) s) ⟨t,nameI (remNs ns t) s⟩,remD ns ds t):=by
 unfold remNs remD
 by_cases c : hasK Nm.name ns t
 ·have c1 : hasK Nm.name (delK cmpN Nm.name ns s) t:=(hasK_del koN h.srt hk (Ne.symm hne)).2 c
  rw [if_pos c1,if_pos c,if_pos c1,if_pos c,delK_comm koN h.srt hk c hne,nameI_del h.srt hk c (Ne.symm hne),nameI_del h.srt c hk hne]
 ·have c1 : ¬ hasK Nm.name (delK cmpN Nm.name ns s) t:=fun hh => c ((hasK_del koN h.srt hk (Ne.symm hne)).1 hh)
  rw [if_neg c1,if_neg c,if_neg c1,if_neg c]
theorem MayW.remN {ns : List Nm} {ds : List Nd} (h : MayW ns ds) (t : List UInt8) : MayW (remNs ns t) (remD ns ds t)∧¬ hasK Nm.name (remNs ns t) t:=by
 unfold remNs remD
 by_cases c : hasK Nm.name ns t
 ·rw [if_pos c,if_pos c]
  refine ⟨h.rem c, ?_⟩
  rintro ⟨y,hy,e⟩
  exact ((mem_delK koN h.srt c).1 hy).2 e
 ·rw [if_neg c,if_neg c]; exact ⟨h,c⟩
theorem has_remN {ns : List Nm} (hs : srtK cmpN Nm.name ns) {s t : List UInt8} (hne : s ≠ t) : hasK Nm.name (remNs ns t) s ↔ hasK Nm.name ns s:=by
 unfold remNs
 split
 ·rename_i c; exact hasK_del koN hs c hne
 ·rfl
theorem applyI_w {ns : List Nm} {ds : List Nd} (h : MayW ns ds) (o : OpM) : MayW (applyI ns ds o).1 (applyI ns ds o).2:=by
 unfold applyI
 rw [if_pos (mayI_w.2 h)]
 split
 ·split
  ·rename_i hc; exact h.cre hc
  ·exact h
 ·split
  ·rename_i hk; exact h.chg hk
  ·split
   ·split
    ·rename_i hr
     obtain ⟨h1,h2,h3⟩:=hr
     rw [ren_eq h h1 h3]
     obtain ⟨g1,g2⟩:=h.remN o.to
     exact g1.ren ((has_remN h.srt h3).2 h1) g2 h2
    ·exact h
   ·split
    ·exact (h.remN o.name).1
    ·exact h
theorem findI_w {ns : List Nm} {ds : List Nd} (h : MayW ns ds) (s : List UInt8) : findI ns ds s=nameI ns s∧(hasI ns ds s ↔ hasK Nm.name ns s):=by
 have hm:=mayI_w.2 h
 have hi : hasI ns ds s ↔ hasK Nm.name ns s:=⟨fun hh => hh.2,fun hh => ⟨hm,hh⟩⟩
 refine ⟨?_,hi⟩
 unfold findI
 by_cases c : hasI ns ds s
 ·rw [if_pos c]
 ·rw [if_neg c,nameI_no (fun hh => c (hi.2 hh))]
theorem getN_w {ns : List Nm} {ds : List Nd} (h : MayW ns ds) {d : Nd} (hd : d ∈ ds) : getN ns ds d.ino=d∧hasG ns ds d.ino:=by
 have hg : hasG ns ds d.ino:=⟨mayI_w.2 h,d,hd,rfl⟩
 refine ⟨?_,hg⟩
 unfold getN
 rw [if_pos hg,atK_eq koI h.sd hd]; rfl
theorem usedI_w {ns : List Nm} {ds : List Nd} (h : MayW ns ds) : usedI ns ds=sumL ds:=by unfold usedI; rw [if_pos (mayI_w.2 h)]
end Go.Proofs.YtlbilcpnjgkpjaaGreat.Av
end
section
namespace Go.Proofs.YtlbilcpnjgkpjaaGreat.Av
open Go Go.RowKit
def old (N : Nat) (X : AH) : AH:=List.replicate N none ++ X.drop N
theorem old_get {N : Nat} {X : AH} {o : Nat} {x : AObj} (h : (old N X)[o]? = some (some x)) : N≤o∧X[o]? = some (some x):=by
 unfold old at h
 rcases Nat.lt_or_ge o N with hlt | hge
 ·rw [List.getElem?_append_left (by simpa using hlt),List.getElem?_replicate,if_pos hlt] at h
  cases h
 ·rw [List.getElem?_append_right (by simpa using hge),List.length_replicate,List.getElem?_drop] at h
  rw [show N + (o - N)=o by omega] at h
  exact ⟨hge,h⟩
def Cfg.less (G : Cfg) (L : Nat→Prop) : Cfg:={ G with L:=L }
theorem HR.less {G : Cfg} {H : AH} (hr : HR G H) (L : Nat→Prop) (hL : ∀ b,L b→G.L b) (hl : ∀ (o : Nat) (x : AObj),H[o]? = some (some x)→L (G.μ o).1) : HR (G.less L) H:=by
 have ht : Tr G (G.less L):=⟨Nat.le_refl _,fun _ _ => rfl,fun ad vs hh => hh.imp id fun h => ⟨fun hh => h.1 (hh.imp (hL _) id),h.2⟩⟩
 exact ⟨hr.n,fun o x ho => OR.tr ht (hr.lt_n ho) rfl (hr.obj o x ho),hr.inj,hl,fun b hb => hr.lt b (hb.imp (hL _) id),fun b hb => hr.dis b (hL b hb)⟩
theorem HR.fewer {G : Cfg} {H H2 : AH} (hr : HR G H) (hlen : H2.length=H.length) (h : ∀ (o : Nat) (x : AObj),H2[o]? = some (some x)→H[o]? = some (some x)) : HR G H2 :=
 ⟨by rw [hlen]; exact hr.n,fun o x ho => hr.obj o x (h o x ho),fun o o' x x' ho ho' => hr.inj o o' x x' (h o x ho) (h o' x' ho'),fun o x ho => hr.live o x (h o x ho),hr.lt,hr.dis⟩
section
variable {P : Program}
theorem ACalls.fzNew {f : FuncId} {args : List AV} {H : AH} {R : AV→AH→Prop} {R' : AV→Prop} (h : ACalls P f args H R)
  (hR : ∀ r H1,R r H1→H.length≤H1.length∧(∀ o,o < H.length→H1[o]? = H[o]?)∧∃ n r',frz (old H.length H1) n r=some r'∧R' r') : ACalls P f args H fun r' H' => R' r'∧H'=H:=by
 intro G vs hH hv
 refine (h G vs hH hv).mono ?_
 rintro e w' ⟨r,H1,G',v,rfl,rfl,hE,hx,hX,hq⟩
 obtain ⟨hlen,hpre,n,r',hf,hr'⟩:=hR r H1 hq
 have e1 : H1=H ++ H1.drop H.length:=by
  apply List.ext_getElem?
  intro o
  rcases Nat.lt_or_ge o H.length with hlt | hge
  ·rw [List.getElem?_append_left hlt,hpre o hlt]
  ·rw [List.getElem?_append_right hge,List.getElem?_drop,show H.length + (o - H.length)=o by omega]
 have hX1 : HR G' (H ++ H1.drop H.length):=by rw [← e1]; exact hX
 have hF : HR { G' with n:=H.length } H:=hX1.forget fun o x ho => by
  have:=(hH.obj o x ho).bel
  rwa [hH.n] at this
 let L2 : Nat→Prop:=fun b => G.L b∧G'.L b∧∀ (o : Nat) (x : AObj),H.length≤o→H1[o]? = some (some x)→b ≠ (G'.μ o).1
 have hF2:=hF.less L2 (fun b hb => hb.2.1) (fun o x ho => by
  have hlt:=(List.getElem?_eq_some_iff.1 ho).1
  have ho1 : H1[o]? = some (some x):=by rw [hpre o hlt]; exact ho
  have hμ : G'.μ o=G.μ o:=hE.μ o (by rw [hH.n]; exact hlt)
  refine ⟨?_,hX.live o x ho1,fun o' x' hge ho' he => ?_⟩
  ·show G.L (G'.μ o).1
   rw [hμ]; exact hH.live o x ho
  ·have:=hX.inj o o' x x' ho1 ho' he
   omega)
 have hE2 : Evo G (Cfg.less { G' with n:=H.length } L2):=⟨hE.os,hE.tape,hE.output,hE.size,fun k hk hL => ⟨(hE.keep k hk hL).1,fun hh => hL hh.1⟩,by show G.n≤H.length; rw [hH.n]; exact Nat.le_refl _,fun o ho => hE.μ o ho,hE.K⟩
 have hK : HR G' (old H.length H1):=hX.fewer (by unfold old; simp; omega) fun o x ho => (old_get ho).2
 refine ⟨r',H,Cfg.less { G' with n:=H.length } L2,v,rfl,rfl,hE2, ?_,hF2,hr',rfl⟩
 refine frz_ok (G':=G') (G'':=Cfg.less { G' with n:=H.length } L2) rfl (fun b hn hh => hn (hh.imp (fun h => h.2.1) id)) hK ?_ n r v r' hx hf
 intro o x ho hh
 obtain ⟨h1,h2⟩:=old_get ho
 rcases hh with hh | hh
 ·exact hh.2.2 o x h1 h2 rfl
 ·exact hX.dis _ (hX.live o x h2) hh
end
end Go.Proofs.YtlbilcpnjgkpjaaGreat.Av
end
section
namespace Go.Proofs.YtlbilcpnjgkpjaaGreat.Av
open Go Go.RowKit
abbrev Img:=List Nm × List Nd
structure StS where
 cap : Int
 now : Img
 kept : Img
 pend : List OpM
 made : Int
 armed : Int
 off : Bool
def newS (room : Int) : StS:=⟨min (max room 0) 4096,([],[]),([],[]),[],0,-1,false⟩
def wt (o : OpM) : Nat:=1 + o.b.length + if o.kind=4 then 4098 else 0
def wts (l : List OpM) : Nat:=(l.map wt).sum
theorem chg_wt {o : OpM} {d : Nd} {c : Cont} (h : chgC o d=some c) : c.2.length≤d.l.length + wt o:=by
 have h4:=chg_len (o:=o) (d:=d)
 rw [h] at h4
 simp only [cL,Option.getD_some] at h4
 unfold wt
 by_cases c4 : o.kind=4
 ·rw [if_pos c4]; omega
 ·rw [if_neg c4]
  unfold chgC at h
  split at h
  ·unfold writeC at h
   split at h
   ·injection h with h
    subst h
    split
    ·simp
    ·have:=wr_len12 (bs:=o.b) (l:=d.l) (p:=o.pos)
     simp only; omega
   ·cases h
  ·split at h
   ·unfold truncC at h
    split at h
    ·injection h with h
     subst h
     simp only [truncL,wipeL,List.length_map]
     exact Nat.le_trans (List.length_filter_le _ _) (by omega)
    ·cases h
   ·split at h
    ·unfold punchC at h
     split at h
     ·injection h with h
      subst h
      simp only [punchL,wipeL,List.length_map]
      exact Nat.le_trans (List.length_filter_le _ _) (by omega)
     ·cases h
    ·cases h
def Few1 (M : Nat) (i : Img) : Prop:=MayW i.1 i.2∧∀ d ∈ i.2,d.l.length≤M
theorem remD_mem {ns : List Nm} {ds : List Nd} {s : List UInt8} {d : Nd} (h : d ∈ remD ns ds s) : d ∈ ds:=by
 unfold remD at h
 split at h
 ·exact delK_sub.subset h
 ·exact h
theorem Few1.step {M : Nat} {i : Img} (h : Few1 M i) (o : OpM) : Few1 (M + wt o) (applyI i.1 i.2 o):=by
 refine ⟨applyI_w h.1 o,fun d hd => ?_⟩
 have old : d ∈ i.2→d.l.length≤M + wt o:=fun hd => Nat.le_trans (h.2 d hd) (by omega)
 unfold applyI at hd
 rw [if_pos (mayI_w.2 h.1)] at hd
 split at hd
 ·split at hd
  ·rcases mem_insK.1 hd with rfl | hd
   ·simp
   ·exact old hd
  ·exact old hd
 ·split at hd
  ·rcases mem_chgD h.1.sd hd with hd | ⟨-,e,he,-,hc⟩
   ·exact old hd
   ·have:=chg_wt hc
    have:=h.2 e he
    simp only at *
    omega
  ·split at hd
   ·split at hd
    ·exact old (remD_mem hd)
    ·exact old hd
   ·split at hd
    ·exact old (remD_mem hd)
    ·exact old hd
theorem Few1.mono {M M' : Nat} {i : Img} (h : Few1 M i) (hm : M≤M') : Few1 M' i:=⟨h.1,fun d hd => Nat.le_trans (h.2 d hd) hm⟩
theorem MayW.len2 {ns : List Nm} {ds : List Nd} (h : MayW ns ds) : ds.length≤16:=by
 have:=(mayI_w.2 h).2.1
 have:=h.len
 omega
theorem Few1.sm {M : Nat} {i : Img} (h : Few1 M i) (hm : M≤1000000) : Sm i.1 i.2 :=
 ⟨by have:=h.1.len; omega,by have:=h.1.len2; omega,fun x hx => by have:=(h.1.nm x hx).1.2.1; omega,fun d hd => Nat.le_trans (h.2 d hd) hm⟩
def OpB (o : OpM) : Prop:=o.b.length≤5000∧o.name.length≤20∧o.to.length≤20
structure SW (N : Nat) (s : StS) : Prop where
 now : Few1 N s.now
 kept : ∃ a,Few1 a s.kept∧a + wts s.pend≤N
 ob : ∀ o ∈ s.pend,OpB o
 made : 0≤s.made∧s.made≤N
 cap : 0≤s.cap∧s.cap≤4096
 armed : -1≤s.armed∧s.armed≤9223372036854775807
theorem wts_len {l : List OpM} : l.length≤wts l:=by
 unfold wts
 induction l with
 | nil => simp
 | cons o l ih => simp only [List.map_cons,List.sum_cons,List.length_cons]; unfold wt at *; omega
theorem wts_snoc {l : List OpM} {o : OpM} : wts (l ++ [o])=wts l + wt o:=by simp [wts]
theorem SW.plen {N : Nat} {s : StS} (h : SW N s) : s.pend.length≤N:=by
 obtain ⟨a,-,h2⟩:=h.kept
 have:=wts_len (l:=s.pend)
 omega
theorem SW.mono {N N' : Nat} {s : StS} (h : SW N s) (hn : N≤N') : SW N' s :=
 ⟨h.now.mono hn,by obtain ⟨a,h1,h2⟩:=h.kept; exact ⟨a,h1,by omega⟩,h.ob,by have:=h.made; omega,h.cap,h.armed⟩
theorem mayW_nil : MayW [] []:=⟨by simp,by simp,by simp [srtK],by simp,by simp [srtK],by simp,fun i => by simp [hasK]⟩
theorem newS_w (room : Int) : SW 0 (newS room) :=
 ⟨⟨mayW_nil,by simp [newS]⟩,⟨0,⟨mayW_nil,by simp [newS]⟩,by simp [newS,wts]⟩,by simp [newS],by simp [newS],by simp [newS]; omega,by simp [newS]⟩
def deedS (s : StS) : Bool × StS :=
 if s.off=true∨s.armed=0 then (false,{ s with off:=true })
 else if 0 < s.armed then (true,{ s with armed:=s.armed - 1 })
 else (true,s)
def doS (s : StS) (o : OpM) : Int × StS :=
 if (deedS s).1=true then (0,{ (deedS s).2 with now:=applyI s.now.1 s.now.2 o,pend:=s.pend ++ [o] }) else (8,(deedS s).2)
theorem deedS_w {N : Nat} {s : StS} (h : SW N s) : SW N (deedS s).2:=by
 unfold deedS
 split
 ·exact ⟨h.now,h.kept,h.ob,h.made,h.cap,h.armed⟩
 ·split
  ·exact ⟨h.now,h.kept,h.ob,h.made,h.cap,by have:=h.armed; simp only; omega⟩
  ·exact h
theorem zmmZ (s : StS) : (deedS s).2.now=s.now∧(deedS s).2.kept=s.kept∧(deedS s).2.pend=s.pend∧(deedS s).2.made=s.made∧(deedS s).2.cap=s.cap:=by
 unfold deedS
 split
 ·exact ⟨rfl,rfl,rfl,rfl,rfl⟩
 ·split <;> exact ⟨rfl,rfl,rfl,rfl,rfl⟩
theorem doS_w {N : Nat} {s : StS} {o : OpM} (h : SW N s) (ho : OpB o) : SW (N + wt o) (doS s o).2:=by
 have hd:=deedS_w h
 obtain ⟨e1,e2,e3,e4,e5⟩:=zmmZ s
 unfold doS
 split
 ·obtain ⟨a,h1,h2⟩:=h.kept
  refine ⟨h.now.step o,⟨a,by simp only [e2]; exact h1,by simp only [wts_snoc]; omega⟩, ?_,by simp only [e4]; have:=h.made; omega,by simp only [e5]; exact h.cap,hd.armed⟩
  intro x hx
  simp only [List.mem_append,List.mem_singleton] at hx
  rcases hx with hx | rfl
  ·exact h.ob x hx
  ·exact ho
 ·exact hd.mono (by omega)
structure StC (s : StS) (os : Nat) (a b c d p : AV) (pv : List OpV) (H : AH) : Prop where
 obj : H[os]? = some (some (.cells [I s.cap,a,b,c,d,p,I s.made,I s.armed,B s.off]))
 now : ImV s.now.1 s.now.2 (.agg [a,b])
 kept : ImV s.kept.1 s.kept.2 (.agg [c,d])
 pm : pv.map OpV.o=s.pend
 ps : zaZ H 8 p=some (pv.flatMap encO,pv.length)
 po : ownedS p=true
 pi : os ∉ idS p
 pc : capOk p pv.length
def StAt (s : StS) (os : Nat) (p : AV) (H : AH) : Prop:=∃ a b c d pv,StC s os a b c d p pv H
structure StF (os : Nat) (p p' : AV) (H H' : AH) : Prop where
 len : H.length≤H'.length
 same : ∀ j,j < H.length→j ≠ os→j ∉ idS p→H'[j]? = H[j]?
 ids : ∀ j ∈ idS p',j ∈ idS p∨H.length≤j
theorem StF.refl (os : Nat) (p : AV) (H : AH) : StF os p p H H:=⟨Nat.le_refl _,fun _ _ _ _ => rfl,fun _ h => .inl h⟩
theorem StF.trans {os : Nat} {p p' p'' : AV} {A B C : AH} (h : StF os p p' A B) (k : StF os p' p'' B C) : StF os p p'' A C :=
  ⟨Nat.le_trans h.len k.len,fun j hj hne hp => by
    rw [k.same j (Nat.lt_of_lt_of_le hj h.len) hne (fun hp' => (h.ids j hp').elim hp (fun q => by omega)),h.same j hj hne hp],
   fun j hj => (k.ids j hj).elim (h.ids j) (fun q => .inr (Nat.le_trans h.len q))⟩
theorem StF.of_grew {os : Nat} {p : AV} {H H' : AH} (g : Grew H H') : StF os p p H H':=⟨g.1,fun j hj _ _ => g.2 j hj,fun _ h => .inl h⟩
theorem StF.grew {os : Nat} {p p' : AV} {H H' H'' : AH} (h : StF os p p' H H') (g : Grew H' H'') : StF os p p' H H'':=h.trans (.of_grew g)
theorem StC.lt {s : StS} {os : Nat} {a b c d p : AV} {pv : List OpV} {H : AH} (h : StC s os a b c d p pv H) : os < H.length:=(List.getElem?_eq_some_iff.1 h.obj).1
theorem StC.grew {s : StS} {os : Nat} {a b c d p : AV} {pv : List OpV} {H H' : AH} (h : StC s os a b c d p pv H) (g : Grew H H') : StC s os a b c d p pv H' :=
 ⟨g.cells h.obj,h.now,h.kept,h.pm,g.slice h.ps,h.po,h.pi,h.pc⟩
theorem StAt.grew {s : StS} {os : Nat} {p : AV} {H H' : AH} (h : StAt s os p H) (g : Grew H H') : StAt s os p H':=by
 obtain ⟨a,b,c,d,pv,h⟩:=h
 exact ⟨a,b,c,d,pv,h.grew g⟩
theorem StC.set {s s' : StS} {os : Nat} {a b c d a' b' c' d' p : AV} {pv : List OpV} {H : AH} (h : StC s os a b c d p pv H) (hn : ImV s'.now.1 s'.now.2 (.agg [a',b'])) (hk : ImV s'.kept.1 s'.kept.2 (.agg [c',d'])) (hp : s'.pend=s.pend) :
  StC s' os a' b' c' d' p pv (H.set os (some (.cells [I s'.cap,a',b',c',d',p,I s'.made,I s'.armed,B s'.off])))∧StF os p p H (H.set os (some (.cells [I s'.cap,a',b',c',d',p,I s'.made,I s'.armed,B s'.off]))):=by
 refine ⟨⟨List.getElem?_set_self h.lt,hn,hk,by rw [hp]; exact h.pm,zbZ h.ps fun i q => List.getElem?_set_ne (fun e => h.pi (by rw [e]; exact q)),h.po,h.pi,h.pc⟩,by simp,fun j _ hne _ => List.getElem?_set_ne (Ne.symm hne),fun _ q => .inl q⟩
theorem ImV.agg2 {ns : List Nm} {ds : List Nd} {v : AV} (h : ImV ns ds v) : ∃ a b,v = .agg [a,b]∧oneA a=true∧oneA b=true:=by
 obtain ⟨a,b,dv,rfl,h1,h2,-⟩:=h
 exact ⟨a,b,rfl,SV.oneA h1,SV.oneA h2⟩
theorem fld {H : AH} {os k : Nat} {cs : List AV} {x : AV} (h : H[os]? = some (some (.cells cs))) (hk : k < cs.length) (hx : oneA x=true) : ast 1 H (.ptr os k) x=some (H.set os (some (.cells (cs.set k x)))):=by
 rw [ast_ptr (n:=1) (xs:=[x]) (cs:=cs) (zbuZ hx) h rfl hk]; rfl
end Go.Proofs.YtlbilcpnjgkpjaaGreat.Av
end
section
namespace Go.Proofs.YtlbilcpnjgkpjaaGreat.Av
open Go Go.RowKit
theorem rd2 (x y : AV) : rdCells true 2 [x,y] 0=some (.agg [x,y]):=rfl
theorem nwC (H : AH) : anew H (.agg [(.lit (.int .i64 0)),(.lit (.slice none 0 0))])=some (.ptr H.length 0,H ++ [some (.cells [I 0,nilSl])]):=by simp
theorem stC' (H : AH) (s : Int) {R : AV} (hR : oneA R=true) : ast 2 (H ++ [some (.cells [I 0,nilSl])]) (.ptr H.length 0) (.agg [I s,R])=some (H ++ [some (.cells [I s,R])]):=by
 rw [ast_ptr (n:=2) (xs:=[I s,R]) (cs:=[I 0,nilSl]) (by simp [hR]) (by simp) rfl (by simp)]
 simp [splice]
theorem top1 {H : AH} {x : AObj} : (H ++ [some x])[H.length]? = some (some x):=by simp
theorem New_c (room : Int) (H : AH) (hr : room≤9223372036854775807) : ∃ r H',(∃ p,r = .ptr H.length 0∧H'.length=H.length + 1∧StAt (newS room) H.length p H'∧Grew H H'∧idS p=[])∧BCall Tryz.prog 9 [I room] H r H':=store_New_ok (by
 unfold store_New
 have e1 : amm imx [I room,(.lit (.int .i64 0))]=some (I (max room 0)):=by rw [amm_two,imx_eq,Int.max_comm]
 have e2 : amm imn [I (max room 0),(.lit (.int .i64 4096))]=some (I (min (max room 0) 4096)):=by rw [amm_two,imn_eq,Int.min_comm]
 have e3 : abl [(.lit (.int .i64 0)),(.lit (.slice none 0 0)),(.lit (.slice none 0 0)),(.lit (.slice none 0 0)),(.lit (.slice none 0 0)),(.lit (.slice none 0 0)),(.lit (.int .i64 0)),(.lit (.int .i64 0)),(.lit (.bool false))] [(0,1,I (min (max room 0) 4096)),(7,1,(.lit (.int .i64 (-1))))]=some (.agg [I (min (max room 0) 4096),nilSl,nilSl,nilSl,nilSl,nilSl,I 0,I (-1),B false]):=rfl
 have e4 : anew H (.agg [I (min (max room 0) 4096),nilSl,nilSl,nilSl,nilSl,nilSl,I 0,I (-1),B false])=some (.ptr H.length 0,H ++ [some (.cells [I (min (max room 0) 4096),nilSl,nilSl,nilSl,nilSl,nilSl,I 0,I (-1),B false])]):=by simp
 rw [e1,bO_some,e2,bO_some,e3,bO_some,e4,bH_some]
 have hI : ImV [] [] (.agg [nilSl,nilSl]):=⟨nilSl,nilSl,[],rfl,SV.nil,SV.nil,rfl⟩
 exact ⟨nilSl,rfl,by simp,⟨nilSl,nilSl,nilSl,nilSl,[],⟨top1,hI,hI,rfl,rfl,rfl,by simp [idS],by simp [capOk]⟩⟩,Grew.app _ _,rfl⟩)
theorem deed_c {s : StS} {os : Nat} {p : AV} {H : AH} (h : StAt s os p H) (hb : -1≤s.armed∧s.armed≤9223372036854775807) : ∃ r H',(r=B (deedS s).1∧StAt (deedS s).2 os p H'∧StF os p p H H')∧BCall Tryz.prog 49 [.ptr os 0] H r H':=store_Store_deed_ok (by
 obtain ⟨a,b,c,d,pv,h⟩:=h
 unfold zkwZ
 simp only [zxZ,bO_some,znZ,Nat.zero_add,ald_ptr h.obj,zeZ,List.getElem?_cons_succ,List.getElem?_cons_zero,bG_bool]
 have stop : s.off=true∨s.armed=0→bS (ast 1 H (.ptr os 8) (.lit (.bool true))) fun H17 => B false=B (deedS s).1∧StAt (deedS s).2 os p H17∧StF os p p H H17:=by
  intro hc
  have e : deedS s=(false,{ s with off:=true }):=by unfold deedS; rw [if_pos hc]
  rw [e]
  obtain ⟨h2,h3⟩:=h.set (s':={ s with off:=true }) h.now h.kept rfl
  have e2 : ast 1 H (.ptr os 8) (B true)=some (H.set os (some (.cells [I s.cap,a,b,c,d,p,I s.made,I s.armed,B true]))):=fld h.obj (by simp) rfl
  simp only [e2,bS_some]
  exact ⟨by trivial,⟨a,b,c,d,pv,h2⟩,h3⟩
 cases ho : s.off with
 | true =>
  simp only [show ((true == false)=false) from rfl,gO_false,bO_some,ztZ,if_true,bB_bool,bI_true,zxZ,znZ,Nat.zero_add]
  exact stop (.inl ho)
 | false =>
  simp only [beq_self_eq_true,gO_true,bO_some,zxZ,znZ,Nat.zero_add,ald_ptr h.obj,zeZ,List.getElem?_cons_succ,List.getElem?_cons_zero,abI_eql,ztZ,if_false,Bool.false_eq_true,bB_bool]
  by_cases h0 : s.armed=0
  ·simp only [h0,decide_true,bI_true]
   exact stop (.inr h0)
  ·simp only [h0,decide_false,zlZ,abI_gtr,bB_bool]
   have hn : ¬ (s.off=true∨s.armed=0):=by rintro (q | q); rw [ho] at q; cases q; exact h0 q
   by_cases hp : 0 < s.armed
   ·have e : deedS s=(true,{ s with armed:=s.armed - 1 }):=by unfold deedS; rw [if_neg hn,if_pos hp]
    rw [e]
    obtain ⟨h2,h3⟩:=h.set (s':={ s with armed:=s.armed - 1 }) h.now h.kept rfl
    have e1 : abI .sub (I s.armed) (.lit (.int .i64 1))=some (I (s.armed - 1)):=abI_sub (by omega) (by omega)
    have e2 : ast 1 H (.ptr os 7) (I (s.armed - 1))=some (H.set os (some (.cells [I s.cap,a,b,c,d,p,I s.made,I (s.armed - 1),B s.off]))):=fld h.obj (by simp) rfl
    simp only [hp,decide_true,bI_true,e1,bO_some,e2,bS_some]
    rw [zjdZ]; unfold zfzZ
    exact ⟨rfl,⟨a,b,c,d,pv,h2⟩,h3⟩
   ·have e : deedS s=(true,s):=by unfold deedS; rw [if_neg hn,if_neg hp]
    rw [e]
    simp only [hp,decide_false,zlZ]
    rw [zjdZ]; unfold zfzZ
    exact ⟨rfl,⟨a,b,c,d,pv,h⟩,.refl _ _ _⟩)
theorem rd9 (c a b d e f g h i : AV) : rdCells true 2 [c,a,b,d,e,f,g,h,i] 1=some (.agg [a,b])∧rdCells true 2 [c,a,b,d,e,f,g,h,i] 3=some (.agg [d,e]):=⟨rfl,rfl⟩
theorem st9 {H : AH} {os : Nat} {x0 x1 x2 x3 x4 x5 x6 x7 x8 a b : AV} (h : H[os]? = some (some (.cells [x0,x1,x2,x3,x4,x5,x6,x7,x8]))) (ha : oneA a=true) (hb : oneA b=true) :
  ast 2 H (.ptr os 1) (.agg [a,b])=some (H.set os (some (.cells [x0,a,b,x3,x4,x5,x6,x7,x8])))∧ast 2 H (.ptr os 3) (.agg [a,b])=some (H.set os (some (.cells [x0,x1,x2,a,b,x5,x6,x7,x8]))):=by
 constructor
 ·rw [ast_ptr (n:=2) (off:=1) (xs:=[a,b]) (by simp [ha,hb]) h rfl (by simp)]; rfl
 ·rw [ast_ptr (n:=2) (off:=3) (xs:=[a,b]) (by simp [ha,hb]) h rfl (by simp)]; rfl
theorem idS_lt {s : StS} {os : Nat} {a b c d p : AV} {pv : List OpV} {H : AH} (h : StC s os a b c d p pv H) : ∀ j ∈ idS p,j < H.length:=fun j q => zcZ h.ps j q
theorem do_c {N : Nat} {s : StS} {os : Nat} {p bv : AV} {H : AH} {o : OpM} (h : StAt s os p H) (hw : SW N s) (hN : N≤900000) (hb : SV encU 1 o.b bv) (ho : OpB o) :
  ∃ r H',(r=I (doS s o).1∧∃ p',StAt (doS s o).2 os p' H'∧StF os p p' H H')∧BCall Tryz.prog 38 [.ptr os 0,.agg (opA o bv)] H r H':=store_Store_do_ok (by
 have h0:=h
 obtain ⟨a0,b0,c0,d0,pv0,hc0⟩:=h
 unfold zosZ
 have obv:=SV.oneA hb
 have e1 : anew H (.agg (opA o bv))=some (.ptr H.length 0,H ++ [some (.cells (opA o bv))]):=by simp [opA,obv]
 have g:=Grew.app H [some (.cells (opA o bv))]
 obtain ⟨r,H3,⟨rfl,h3,f3⟩,hc⟩:=deed_c (h0.grew g) hw.armed
 rw [e1,bH_some]
 refine bC_of hc ?_
 have sm:=hw.now.sm (by omega)
 obtain ⟨q1,q2,q3,q4,q5⟩:=zmmZ s
 simp only [aun_not,bO_some,bB_bool]
 cases hd : (deedS s).1 with
 | false =>
  have e : doS s o=(8,(deedS s).2):=by unfold doS; rw [if_neg (by rw [hd]; simp)]
  rw [e]
  simp only [Bool.not_false,bI_true]
  exact ⟨by trivial,p,h3,(StF.of_grew g).trans f3⟩
 | true =>
  have e : doS s o=(0,{ (deedS s).2 with now:=applyI s.now.1 s.now.2 o,pend:=s.pend ++ [o] }):=by unfold doS; rw [if_pos hd]
  rw [e]
  have hos : os < H.length:=hc0.lt
  have hid:=idS_lt hc0
  obtain ⟨a,b,c,d,pv,h3⟩:=h3
  have c3 : H3[H.length]? = some (some (.cells (opA o bv))):=by
   rw [f3.same H.length (by simp) (by omega) (fun q => by have:=hid _ q; omega)]; exact top1
  obtain ⟨R,hR,hp⟩:=Apply_p (o:=o) (bv:=bv) h3.now (by rw [q1]; exact sm) hb (by have:=ho.1; omega) (by have:=ho.2.1; omega) (by have:=ho.2.2; omega)
  rw [q1] at hR
  obtain ⟨a',b',rfl,oa,ob⟩:=hR.agg2
  have rd8 : rdCells true 8 (opA o bv) 0=some (.agg (opA o bv)):=rfl
  simp only [Bool.not_true,zlZ,zxZ,bO_some,znZ,Nat.zero_add,ald_ptr h3.obj,(rd9 _ _ _ _ _ _ _ _ _).1,ald_ptr c3,rd8]
  refine bP_of hp ?_
  obtain ⟨h4,f4⟩:=h3.set (s':={ (deedS s).2 with now:=applyI s.now.1 s.now.2 o }) hR h3.kept rfl
  simp only [zxZ,bO_some,znZ,Nat.zero_add,(st9 h3.obj oa ob).1,bS_some]
  have c4 : (H3.set os (some (AObj.cells [I (deedS s).2.cap,a',b',c,d,p,I (deedS s).2.made,I (deedS s).2.armed,B (deedS s).2.off])))[H.length]? = some (some (.cells (opA o bv))):=by rw [List.getElem?_set_ne (by omega)]; exact c3
  simp only at h4 f4
  generalize hH4 : H3.set os (some (AObj.cells [I (deedS s).2.cap,a',b',c,d,p,I (deedS s).2.made,I (deedS s).2.armed,B (deedS s).2.off]))=H4 at *
  have e6 : absf 8 1 (zrow [(.lit (.int .i64 0)),(.lit (.int .i64 0)),(.lit (.int .i64 0)),(.lit (.int .i64 0)),(.lit (.bool false)),(.lit (.string ⟨#[]⟩)),(.lit (.string ⟨#[]⟩)),(.lit (.slice none 0 0))] 1) [(0,8,.agg (opA o bv))]=some (.imm (encO ⟨o,bv,hb⟩) 1 8):=by
   simp [absf,zrow,encO,opA,cellsA_agg,obv,splice]
  have x1 : zddZ H4 8 (.imm (encO ⟨o,bv,hb⟩) 1 8)=some (encO ⟨o,bv,hb⟩,1):=zjZ (by simp [zaZ,encO,opA])
  have hpl : pv.length=s.pend.length:=by rw [← q3,← h3.pm,List.length_map]
  have hplN:=hw.plen
  obtain ⟨r,H5,a1,a2,a3,a4,a5,a6⟩:=zjcZ (bytes:=96) h4.ps h4.po x1 (by omega)
  have a7:=aap_cap h4.ps h4.po x1 h4.pc a1
  have c5 : H5[os]? = some (some (.cells [I (deedS s).2.cap,a',b',c,d,p,I (deedS s).2.made,I (deedS s).2.armed,B (deedS s).2.off])):=by rw [a5 os h4.lt h4.pi]; exact h4.obj
  have hor : os ∉ idS r:=fun q => (a6 os q).elim h4.pi (fun q => by have:=h4.lt; omega)
  have e7 : ast 1 H5 (.ptr os 5) r=some (H5.set os (some (.cells [I (deedS s).2.cap,a',b',c,d,r,I (deedS s).2.made,I (deedS s).2.armed,B (deedS s).2.off]))):=fld c5 (by simp) (zpZ a2)
  simp only [ald_ptr h4.obj,zeZ,List.getElem?_cons_succ,List.getElem?_cons_zero,bO_some,ald_ptr c4,rd8,e6,a1,bH_some,e7,bS_some,znZ,Nat.zero_add,zxZ]
  have hl5 : os < H5.length:=(List.getElem?_eq_some_iff.1 c5).1
  refine ⟨by trivial,r,⟨a',b',c,d,pv ++ [⟨o,bv,hb⟩],⟨List.getElem?_set_self hl5,hR,h3.kept, ?_, ?_,a2,hor,by simpa using a7⟩⟩, ?_⟩
  ·rw [List.map_append,h3.pm,q3]; rfl
  ·have:=zbZ a3 (H':=H5.set os (some (.cells [I (deedS s).2.cap,a',b',c,d,r,I (deedS s).2.made,I (deedS s).2.armed,B (deedS s).2.off]))) fun i q => List.getElem?_set_ne (fun e => hor (by rw [e]; exact q))
   simpa using this
  ·have f5 : StF os p r H4 (H5.set os (some (.cells [I (deedS s).2.cap,a',b',c,d,r,I (deedS s).2.made,I (deedS s).2.armed,B (deedS s).2.off]))):=⟨by simpa using a4,fun j hj hne hjp => by rw [List.getElem?_set_ne (Ne.symm hne),a5 j hj hjp],a6⟩
   exact ((StF.of_grew g).trans f3).trans (f4.trans f5))
def freeS (s : StS) : Int:=max 0 (s.cap - sumL s.now.2)
theorem sumL_few {M : Nat} {i : Img} (h : Few1 M i) : sumL i.2≤16 * M:=by
 have h1:=sumL_le h.2
 have h2:=h.1.len2
 exact Nat.le_trans h1 (Nat.mul_le_mul_right _ h2)
theorem Free_c {N : Nat} {s : StS} {os : Nat} {p : AV} {H : AH} (h : StAt s os p H) (hw : SW N s) (hN : N≤900000) : BCall Tryz.prog 76 [.ptr os 0] H (I (freeS s)) H:=by
 obtain ⟨r,H',⟨rfl,rfl⟩,hc⟩:=store_Store_Free_ok (a0:=.ptr os 0) (H:=H) (K:=fun r H' => r=I (freeS s)∧H'=H) (by
  obtain ⟨a,b,c,d,pv,h⟩:=h
  unfold zlhZ
  have hu:=Used_p h.now (hw.now.sm (by omega))
  rw [usedI_w hw.now.1] at hu
  have hs:=sumL_few hw.now
  have hcap:=hw.cap
  have e1 : abI .sub (I s.cap) (I (sumL s.now.2 : Int))=some (I (s.cap - sumL s.now.2)):=abI_sub (by omega) (by omega)
  have e2 : amm imx [(.lit (.int .i64 0)),I (s.cap - sumL s.now.2)]=some (I (freeS s)):=by rw [amm_two,imx_eq,Int.max_comm]; rfl
  simp only [zxZ,bO_some,znZ,Nat.zero_add,ald_ptr h.obj,zeZ,List.getElem?_cons_zero,(rd9 _ _ _ _ _ _ _ _ _).1]
  refine bP_of hu ?_
  simp only [e1,bO_some,e2]
  exact ⟨by trivial,by trivial⟩)
 exact hc
def zbzZ (s : StS) (ino : Int) : Cont × Int :=
 if s.off=true then ((0,[]),8) else if hasG s.now.1 s.now.2 ino then (((getN s.now.1 s.now.2 ino).size,(getN s.now.1 s.now.2 ino).l),0) else ((0,[]),3)
theorem content_c {N : Nat} {s : StS} {os : Nat} {p : AV} {H : AH} (h : StAt s os p H) (hw : SW N s) (hN : N≤900000) (ino : Int) :
  ∃ R,SV encE 9 (zbzZ s ino).1.2 R∧∃ r H',(r = .tup [.agg [I (zbzZ s ino).1.1,R],I (zbzZ s ino).2]∧Grew H H')∧BCall Tryz.prog 45 [.ptr os 0,I ino] H r H':=by
 obtain ⟨a,b,c,d,pv,h⟩:=h
 have e0 : abl [(.lit (.int .i64 0)),(.lit (.slice none 0 0))] []=some (.agg [I 0,nilSl]):=rfl
 have g:=Grew.app H [some (.cells [I 0,nilSl])]
 cases ho : s.off with
 | true =>
  have e : zbzZ s ino=((0,[]),8):=by unfold zbzZ; rw [if_pos ho]
  rw [e]
  refine ⟨nilSl,SV.nil,zezZ ?_⟩
  unfold zdwZ
  simp only [nwC,bH_some,zxZ,bO_some,znZ,Nat.zero_add,ald_ptr (g.cells h.obj),zeZ,List.getElem?_cons_succ,List.getElem?_cons_zero,ho,bB_bool,bI_true,e0,stC' H 0 (R:=nilSl) rfl,bS_some,ald_ptr top1,rd2]
  exact ⟨by trivial,Grew.app _ _⟩
 | false =>
  have sm:=hw.now.sm (by omega)
  obtain ⟨R,hR,hp⟩:=Get_p h.now sm ino
  have oR:=SV.oneA hR
  by_cases hg : hasG s.now.1 s.now.2 ino
  ·have e : zbzZ s ino=(((getN s.now.1 s.now.2 ino).size,(getN s.now.1 s.now.2 ino).l),0):=by unfold zbzZ; rw [if_neg (by rw [ho]; simp),if_pos hg]
   rw [e]
   refine ⟨R,hR,zezZ ?_⟩
   unfold zdwZ
   simp only [nwC,bH_some,zxZ,bO_some,znZ,Nat.zero_add,ald_ptr (g.cells h.obj),zeZ,List.getElem?_cons_succ,List.getElem?_cons_zero,ho,bB_bool,zlZ,(rd9 _ _ _ _ _ _ _ _ _).1]
   refine bP_pure hp ?_
   have g2:=Grew.app (H ++ [some (AObj.cells [I 0,nilSl])]) [some (AObj.cells [I (getN s.now.1 s.now.2 ino).size,R])]
   have e5 : ast 2 (H ++ [some (AObj.cells [I 0,nilSl])] ++ [some (AObj.cells [I (getN s.now.1 s.now.2 ino).size,R])]) (.ptr H.length 0) (.agg [I (getN s.now.1 s.now.2 ino).size,R])=some (H ++ [some (AObj.cells [I (getN s.now.1 s.now.2 ino).size,R])] ++ [some (AObj.cells [I (getN s.now.1 s.now.2 ino).size,R])]):=by
    rw [ast_ptr (n:=2) (xs:=[I (getN s.now.1 s.now.2 ino).size,R]) (cs:=[I 0,nilSl]) (by simp [oR]) (g2.cells top1) rfl (by simp)]
    simp [splice]
   have g3:=Grew.app (H ++ [some (AObj.cells [I (getN s.now.1 s.now.2 ino).size,R])]) [some (AObj.cells [I (getN s.now.1 s.now.2 ino).size,R])]
   simp only [zbcZ,List.getElem?_cons_succ,List.getElem?_cons_zero,bO_some,nwC,bH_some,stC' _ _ oR,bS_some,hg,decide_true,aun_not,Bool.not_true,bB_bool,zlZ,ald_ptr top1,rd2,e5,ald_ptr (g3.cells top1)]
   exact ⟨by trivial,(Grew.app H _).trans g3⟩
  ·have e : zbzZ s ino=((0,[]),3):=by unfold zbzZ; rw [if_neg (by rw [ho]; simp),if_neg hg]
   rw [e]
   refine ⟨nilSl,SV.nil,zezZ ?_⟩
   unfold zdwZ
   simp only [nwC,bH_some,zxZ,bO_some,znZ,Nat.zero_add,ald_ptr (g.cells h.obj),zeZ,List.getElem?_cons_succ,List.getElem?_cons_zero,ho,bB_bool,zlZ,(rd9 _ _ _ _ _ _ _ _ _).1]
   refine bP_pure hp ?_
   have g2:=Grew.app (H ++ [some (AObj.cells [I 0,nilSl])]) [some (AObj.cells [I (getN s.now.1 s.now.2 ino).size,R])]
   have e5 : ast 2 (H ++ [some (AObj.cells [I 0,nilSl])] ++ [some (AObj.cells [I (getN s.now.1 s.now.2 ino).size,R])]) (.ptr H.length 0) (.agg [I 0,nilSl])=some (H ++ [some (AObj.cells [I 0,nilSl])] ++ [some (AObj.cells [I (getN s.now.1 s.now.2 ino).size,R])]):=by
    rw [ast_ptr (n:=2) (xs:=[I 0,nilSl]) (cs:=[I 0,nilSl]) rfl (g2.cells top1) rfl (by simp)]
    simp [splice]
   simp only [zbcZ,List.getElem?_cons_succ,List.getElem?_cons_zero,bO_some,nwC,bH_some,stC' _ _ oR,bS_some,hg,decide_false,aun_not,Bool.not_false,bB_bool,bI_true,e0,e5,ald_ptr (g2.cells top1),rd2]
   exact ⟨by trivial,g.trans g2⟩
def findS (s : StS) (name : List UInt8) : Int × Int :=
 if s.off=true then (0,8) else if ¬ mayN name then (0,5) else if hasK Nm.name s.now.1 name then (nameI s.now.1 name,0) else (0,3)
theorem find_c {N : Nat} {s : StS} {os : Nat} {p : AV} {H : AH} (h : StAt s os p H) (hw : SW N s) (hN : N≤900000) {name : List UInt8} (hn : name.length≤9223372036854775807) :
  BCall Tryz.prog 37 [.ptr os 0,S (bstr name)] H (.tup [I (findS s name).1,I (findS s name).2]) H:=by
 obtain ⟨r,H',⟨rfl,rfl⟩,hc⟩:=store_Store_find_ok (a0:=.ptr os 0) (a1:=S (bstr name)) (H:=H) (K:=fun r H' => r = .tup [I (findS s name).1,I (findS s name).2]∧H'=H) (by
  obtain ⟨a,b,c,d,pv,h⟩:=h
  unfold zkxZ
  unfold findS
  simp only [zxZ,bO_some,znZ,Nat.zero_add,ald_ptr h.obj,zeZ,List.getElem?_cons_succ,List.getElem?_cons_zero,bB_bool]
  cases ho : s.off with
  | true => simp only [if_true,bI_true]; exact ⟨by trivial,by trivial⟩
  | false =>
   simp only [zlZ,Bool.false_eq_true,if_false]
   refine bP_pure (MayName_p hn) ?_
   by_cases hm : mayN name
   ·simp only [hm,decide_true,aun_not,Bool.not_true,bO_some,bB_bool,zlZ,not_true_eq_false,if_false]
    have hf:=Find_p h.now (hw.now.sm (by omega)) name
    obtain ⟨w1,w2⟩:=findI_w hw.now.1 name
    rw [w1,show decide (hasI s.now.1 s.now.2 name)=decide (hasK Nm.name s.now.1 name) from decide_eq_decide.2 w2] at hf
    simp only [zxZ,bO_some,znZ,Nat.zero_add,ald_ptr h.obj,(rd9 _ _ _ _ _ _ _ _ _).1]
    refine bP_pure hf ?_
    by_cases hk : hasK Nm.name s.now.1 name
    ·simp only [zbcZ,List.getElem?_cons_succ,List.getElem?_cons_zero,bO_some,hk,decide_true,aun_not,Bool.not_true,bB_bool,zlZ,if_true]
     exact ⟨by trivial,by trivial⟩
    ·simp only [zbcZ,List.getElem?_cons_succ,List.getElem?_cons_zero,bO_some,hk,decide_false,aun_not,Bool.not_false,bB_bool,bI_true,if_false]
     exact ⟨by trivial,by trivial⟩
   ·simp only [hm,decide_false,aun_not,Bool.not_false,bO_some,bB_bool,bI_true,not_false_eq_true,if_true]
    exact ⟨by trivial,by trivial⟩)
 exact hc
end Go.Proofs.YtlbilcpnjgkpjaaGreat.Av
end
section
namespace Go.Proofs.YtlbilcpnjgkpjaaGreat.Av
open Go Go.RowKit
def opCre (name : List UInt8) (i : Int) : OpM:=⟨1,i,0,0,false,name,[],[]⟩
def opTr (ino size : Int) : OpM:=⟨3,ino,0,size,false,[],[],[]⟩
theorem opTr_b (ino size : Int) : OpB (opTr ino size):=⟨by simp [opTr],by simp [opTr],by simp [opTr]⟩
def openS (s : StS) (name : List UInt8) (make : Bool) : (Int × Int) × StS :=
 if (findS s name).2 ≠ 3∨make=false then (findS s name,s)
 else if 16≤s.now.1.length then ((0,4),s)
 else if (doS s (opCre name (s.made + 1))).1 ≠ 0 then ((0,(doS s (opCre name (s.made + 1))).1),(doS s (opCre name (s.made + 1))).2)
 else ((s.made + 1,0),{ (doS s (opCre name (s.made + 1))).2 with made:=s.made + 1 })
theorem findS_3 {s : StS} {name : List UInt8} (h : (findS s name).2=3) : mayN name∧¬ hasK Nm.name s.now.1 name∧s.off=false:=by
 unfold findS at h
 split at h
 ·simp at h
 ·split at h
  ·simp at h
  ·split at h
   ·simp at h
   ·rename_i h1 h2 h3
    exact ⟨Decidable.byContradiction h2,h3,by simpa using h1⟩
theorem openS_w {N : Nat} {s : StS} (h : SW N s) (name : List UInt8) (make : Bool) : SW (N + 1) (openS s name make).2:=by
 unfold openS
 split
 ·exact h.mono (by omega)
 ·rename_i hf
  have hn : mayN name:=(findS_3 (Decidable.byContradiction fun q => hf (.inl q))).1
  have ho : OpB (opCre name (s.made + 1)):=⟨by simp [opCre],hn.2.1,by simp [opCre]⟩
  have hd:=doS_w h ho
  have hwt : wt (opCre name (s.made + 1))=1:=rfl
  rw [hwt] at hd
  split
  ·exact h.mono (by omega)
  ·split
   ·exact hd
   ·exact ⟨hd.now,hd.kept,hd.ob,by simp only; have:=h.made; omega,hd.cap,hd.armed⟩
theorem Open_c {N : Nat} {s : StS} {os : Nat} {p : AV} {H : AH} (h : StAt s os p H) (hw : SW N s) (hN : N < 900000) {name : List UInt8} (hn : name.length≤9223372036854775807) (make : Bool) :
  ∃ r H',(r = .tup [I (openS s name make).1.1,I (openS s name make).1.2]∧∃ p',StAt (openS s name make).2 os p' H'∧StF os p p' H H')∧BCall Tryz.prog 23 [.ptr os 0,S (bstr name),B make] H r H':=store_Store_Open_ok (by
 unfold zljZ
 refine bC_of (find_c h hw (by omega) hn) ?_
 have hmade:=hw.made
 simp only [zbcZ,List.getElem?_cons_succ,List.getElem?_cons_zero,bO_some,abI_neq,bG_bool]
 by_cases h3 : (findS s name).2=3
 ·obtain ⟨hm,hk,hoff⟩:=findS_3 h3
  simp only [h3,ne_eq,not_true_eq_false,decide_false,beq_self_eq_true,gO_true,bO_some,aun_not,ztZ,if_false,Bool.false_eq_true,bB_bool]
  cases make with
  | false =>
   have e : openS s name false=(findS s name,s):=by unfold openS; rw [if_pos (.inr rfl)]
   rw [e]
   simp only [Bool.not_false,bI_true]
   exact ⟨by rw [h3],p,h,.refl _ _ _⟩
  | true =>
   have hn0 : ¬ ((findS s name).2 ≠ 3∨true=false):=by rintro (q | q); exact q h3; cases q
   have h':=h
   obtain ⟨a,b,c,d,pv,hc⟩:=h
   obtain ⟨a',b',dv,eab,sa,sb,-⟩:=hc.now
   injection eab with eab; injection eab with ea eb
   subst ea
   simp only [Bool.not_true,zlZ,zxZ,bO_some,znZ,Nat.zero_add,Nat.add_zero,ald_ptr hc.obj,zeZ,List.getElem?_cons_succ,List.getElem?_cons_zero,sa.len,abI_geq,bB_bool]
   by_cases h16 : 16≤s.now.1.length
   ·have h16I : (16 : Int)≤(s.now.1.length : Int):=by omega
    have e : openS s name true=((0,4),s):=by unfold openS; rw [if_neg hn0,if_pos h16]
    rw [e]
    simp only [h16I,decide_true,bI_true]
    exact ⟨by trivial,p,h',.refl _ _ _⟩
   ·have h16I : ¬ (16 : Int)≤(s.now.1.length : Int):=by omega
    have ho : OpB (opCre name (s.made + 1)):=⟨by simp [opCre],hm.2.1,by simp [opCre]⟩
    have e1 : abI .add (I s.made) (.lit (.int .i64 1))=some (I (s.made + 1)):=abI_add (by omega) (by omega)
    have e2 : abl [(.lit (.int .i64 0)),(.lit (.int .i64 0)),(.lit (.int .i64 0)),(.lit (.int .i64 0)),(.lit (.bool false)),(.lit (.string ⟨#[]⟩)),(.lit (.string ⟨#[]⟩)),(.lit (.slice none 0 0))] [(0,1,(.lit (.int .i64 1))),(5,1,S (bstr name)),(1,1,I (s.made + 1))]=some (.agg (opA (opCre name (s.made + 1)) nilSl)):=rfl
    simp only [h16I,decide_false,zlZ,zxZ,bO_some,znZ,Nat.zero_add,ald_ptr hc.obj,zeZ,List.getElem?_cons_succ,List.getElem?_cons_zero,e1,e2]
    obtain ⟨r,H2,⟨rfl,p2,h2,f2⟩,hcall⟩:=do_c (bv:=nilSl) h' hw (by omega) SV.nil ho
    refine bC_of hcall ?_
    simp only [abI_neq,bO_some,bB_bool]
    by_cases hd : (doS s (opCre name (s.made + 1))).1=0
    ·have e : openS s name true=((s.made + 1,0),{ (doS s (opCre name (s.made + 1))).2 with made:=s.made + 1 }):=by unfold openS; rw [if_neg hn0,if_neg h16,if_neg (by rw [hd]; simp)]
     rw [e]
     have emade : (doS s (opCre name (s.made + 1))).2.made=s.made:=by
      obtain ⟨-,-,-,q4,-⟩:=zmmZ s
      unfold doS; split <;> exact q4
     obtain ⟨a2,b2,c2,d2,pv2,hc2⟩:=h2
     obtain ⟨h3',f3⟩:=hc2.set (s':={ (doS s (opCre name (s.made + 1))).2 with made:=s.made + 1 }) hc2.now hc2.kept rfl
     have e3 : ast 1 H2 (.ptr os 6) (I (s.made + 1))=some (H2.set os (some (.cells [I (doS s (opCre name (s.made + 1))).2.cap,a2,b2,c2,d2,p2,I (s.made + 1),I (doS s (opCre name (s.made + 1))).2.armed,B (doS s (opCre name (s.made + 1))).2.off]))):=fld hc2.obj (by simp) rfl
     have hob:=hc2.obj
     rw [emade] at hob
     simp only [hd,ne_eq,not_true_eq_false,decide_false,zlZ,zxZ,bO_some,znZ,Nat.zero_add,ald_ptr hob,zeZ,List.getElem?_cons_succ,List.getElem?_cons_zero,e1,e3,bS_some,ald_ptr h3'.obj]
     exact ⟨by trivial,p2,⟨a2,b2,c2,d2,pv2,h3'⟩,f2.trans f3⟩
    ·have e : openS s name true=((0,(doS s (opCre name (s.made + 1))).1),(doS s (opCre name (s.made + 1))).2):=by unfold openS; rw [if_neg hn0,if_neg h16,if_pos hd]
     rw [e]
     simp only [hd,ne_eq,not_false_eq_true,decide_true,bI_true]
     exact ⟨by trivial,p2,h2,f2⟩
 ·have e : openS s name make=(findS s name,s):=by unfold openS; rw [if_pos (.inl h3)]
  rw [e]
  simp only [h3,ne_eq,not_false_eq_true,decide_true,show ((true == false)=false) from rfl,gO_false,bO_some,ztZ,if_true,bB_bool,bI_true]
  exact ⟨by trivial,p,h,.refl _ _ _⟩)
def truncS (s : StS) (ino size : Int) : Int × StS :=
 if (zbzZ s ino).2 ≠ 0 then ((zbzZ s ino).2,s) else if truncC (zbzZ s ino).1 size=none then (5,s) else doS s (opTr ino size)
theorem truncS_w {N : Nat} {s : StS} (h : SW N s) (ino size : Int) : SW (N + 1) (truncS s ino size).2:=by
 unfold truncS
 split
 ·exact h.mono (by omega)
 ·split
  ·exact h.mono (by omega)
  ·exact doS_w h (opTr_b ino size)
theorem content_len {N : Nat} {s : StS} (h : SW N s) (ino : Int) : (zbzZ s ino).1.2.length≤N:=by
 unfold zbzZ
 split
 ·simp
 ·split
  ·rename_i hg
   obtain ⟨d,hd,rfl⟩:=hg.2
   rw [(getN_w h.now.1 hd).1]
   exact h.now.2 d hd
  ·simp
theorem Trunc_c {N : Nat} {s : StS} {os : Nat} {p : AV} {H : AH} (h : StAt s os p H) (hw : SW N s) (hN : N < 900000) (ino size : Int) :
  ∃ r H',(r=I (truncS s ino size).1∧∃ p',StAt (truncS s ino size).2 os p' H'∧StF os p p' H H')∧BCall Tryz.prog 28 [.ptr os 0,I ino,I size] H r H':=zouZ (by
 unfold zgwZ
 obtain ⟨R,hR,r,H1,⟨rfl,g1⟩,hc⟩:=content_c h hw (by omega) ino
 have hlen:=content_len hw ino
 refine bC_of hc ?_
 unfold truncS
 generalize zbzZ s ino=ct at *
 have oR:=SV.oneA hR
 have h1:=h.grew g1
 have g2:=Grew.app H1 [some (.cells [I ct.1.1,R])]
 have h2:=h1.grew g2
 simp only [zbcZ,List.getElem?_cons_succ,List.getElem?_cons_zero,bO_some,nwC,bH_some,stC' _ _ oR,bS_some,abI_neq,bB_bool]
 by_cases hc0 : ct.2=0
 ·simp only [hc0,ne_eq,not_true_eq_false,decide_false,zlZ,if_false,ald_ptr top1,rd2,bO_some]
  obtain ⟨R2,hR2,hp⟩:=zpcZ (size0:=ct.1.1) hR (by omega) size
  refine bP_pure hp ?_
  have oR2:=SV.oneA hR2
  have g3:=Grew.app (H1 ++ [some (AObj.cells [I ct.1.1,R])]) [some (.cells [I (cS (truncC (ct.1.1,ct.1.2) size)),R2])]
  have h3:=h2.grew g3
  have ff : StF os p p H (H1 ++ [some (AObj.cells [I ct.1.1,R])] ++ [some (.cells [I (cS (truncC (ct.1.1,ct.1.2) size)),R2])]):=.of_grew ((g1.trans g2).trans g3)
  simp only [zbcZ,List.getElem?_cons_succ,List.getElem?_cons_zero,bO_some,nwC,bH_some,stC' _ _ oR2,bS_some,aun_not,bB_bool]
  cases ht : truncC (ct.1.1,ct.1.2) size with
  | none =>
   have ht' : truncC ct.1 size=none:=ht
   rw [ht] at h3 ff
   simp only [Option.isSome_none,Bool.not_false,bI_true,ht',if_true]
   exact ⟨by trivial,p,h3,ff⟩
  | some c2 =>
   have ht' : ¬ truncC ct.1 size=none:=by rw [show truncC ct.1 size=some c2 from ht]; simp
   rw [ht] at h3 ff
   have e2 : abl [(.lit (.int .i64 0)),(.lit (.int .i64 0)),(.lit (.int .i64 0)),(.lit (.int .i64 0)),(.lit (.bool false)),(.lit (.string ⟨#[]⟩)),(.lit (.string ⟨#[]⟩)),(.lit (.slice none 0 0))] [(0,1,(.lit (.int .i64 3))),(1,1,I ino),(3,1,I size)]=some (.agg (opA (opTr ino size) nilSl)):=rfl
   simp only [Option.isSome_some,Bool.not_true,zlZ,ht',if_false,e2,bO_some]
   obtain ⟨r,H2,⟨rfl,p2,h4,f4⟩,hcall⟩:=do_c (bv:=nilSl) (o:=opTr ino size) h3 hw (by omega) SV.nil (opTr_b ino size)
   exact bC_of hcall ⟨rfl,p2,h4,ff.trans f4⟩
 ·simp only [hc0,ne_eq,not_false_eq_true,decide_true,bI_true,if_true]
  exact ⟨by trivial,p,h2,.of_grew (g1.trans g2)⟩)
def readS (s : StS) (ino pos n : Int) : List UInt8 × Int :=
 if (zbzZ s ino).2 ≠ 0 then ([],(zbzZ s ino).2) else if pos < 0∨n < 0∨4096 < n then ([],5) else (readC (zbzZ s ino).1.1 (zbzZ s ino).1.2 pos n,0)
theorem content_may {N : Nat} {s : StS} (h : SW N s) {ino : Int} (h0 : (zbzZ s ino).2=0) : ∃ d ∈ s.now.2,d.ino=ino∧(zbzZ s ino).1=(d.size,d.l)∧s.off=false:=by
 unfold zbzZ at h0 ⊢
 split at h0
 ·simp at h0
 ·rename_i h1
  split at h0
  ·rename_i hg
   obtain ⟨d,hd,rfl⟩:=hg.2
   rw [if_neg h1,if_pos hg,(getN_w h.now.1 hd).1]
   exact ⟨d,hd,rfl,rfl,by simpa using h1⟩
  ·simp at h0
theorem Read_c {N : Nat} {s : StS} {os : Nat} {p : AV} {H : AH} (h : StAt s os p H) (hw : SW N s) (hN : N < 900000) (ino pos n : Int) :
  ∃ R,SV encU 1 (readS s ino pos n).1 R∧∃ r H',(r = .tup [R,I (readS s ino pos n).2]∧Grew H H')∧BCall Tryz.prog 32 [.ptr os 0,I ino,I pos,I n] H r H':=by
 obtain ⟨R,hR,r,H1,⟨rfl,g1⟩,hc⟩:=content_c h hw (by omega) ino
 have hlen:=content_len hw ino
 have oR:=SV.oneA hR
 have g2:=Grew.app H1 [some (.cells [I (zbzZ s ino).1.1,R])]
 by_cases hc0 : (zbzZ s ino).2=0
 ·obtain ⟨d,hd,hdi,hdc,hoff⟩:=content_may hw hc0
  by_cases hb : pos < 0∨n < 0∨4096 < n
  ·have e : readS s ino pos n=([],5):=by unfold readS; rw [if_neg (by rw [hc0]; simp),if_pos hb]
   rw [e]
   refine ⟨nilSl,SV.nil,ziaZ ?_⟩
   unfold zfjZ
   refine bC_of hc ?_
   simp only [zbcZ,List.getElem?_cons_succ,List.getElem?_cons_zero,bO_some,nwC,bH_some,stC' _ _ oR,bS_some,abI_neq,hc0,ne_eq,not_true_eq_false,decide_false,bB_bool,zlZ,abI_lss,bG_bool]
   have done : True∧Grew H (H1 ++ [some (AObj.cells [I (zbzZ s ino).1.1,R])]):=⟨trivial,g1.trans g2⟩
   by_cases c1 : pos < 0
   ·simp only [c1,decide_true,show ((true == false)=false) from rfl,gO_false,bO_some,ztZ,if_true,bG_bool,bB_bool,bI_true]
    exact done
   ·by_cases c2 : n < 0
    ·simp only [c1,decide_false,beq_self_eq_true,gO_true,bO_some,abI_lss,c2,decide_true,ztZ,if_false,Bool.false_eq_true,bG_bool,show ((true == false)=false) from rfl,gO_false,if_true,bB_bool,bI_true]
     exact done
    ·have c3 : 4096 < n:=by omega
     simp only [c1,decide_false,beq_self_eq_true,gO_true,bO_some,abI_lss,c2,ztZ,if_false,Bool.false_eq_true,bG_bool,abI_gtr,c3,decide_true,bB_bool,bI_true]
     exact done
  ·have e : readS s ino pos n=(readC (zbzZ s ino).1.1 (zbzZ s ino).1.2 pos n,0):=by unfold readS; rw [if_neg (by rw [hc0]; simp),if_neg hb]
   rw [e]
   have hmc:=hw.now.1.mc d hd
   obtain ⟨R2,hR2,hp⟩:=extent_Read_p hR (by omega) pos n
   refine ⟨R2,hR2,ziaZ ?_⟩
   unfold zfjZ
   refine bC_of hc ?_
   have c1 : ¬ pos < 0:=by omega
   have c2 : ¬ n < 0:=by omega
   have c3 : ¬ 4096 < n:=by omega
   simp only [zbcZ,List.getElem?_cons_succ,List.getElem?_cons_zero,bO_some,nwC,bH_some,stC' _ _ oR,bS_some,abI_neq,hc0,ne_eq,not_true_eq_false,decide_false,bB_bool,zlZ,abI_lss,bG_bool,c1,c2,abI_gtr,c3,beq_self_eq_true,gO_true,ztZ,if_false,Bool.false_eq_true,ald_ptr top1,rd2]
   exact bP_pure hp ⟨rfl,g1.trans g2⟩
 ·have e : readS s ino pos n=([],(zbzZ s ino).2):=by unfold readS; rw [if_pos hc0]
  rw [e]
  refine ⟨nilSl,SV.nil,ziaZ ?_⟩
  unfold zfjZ
  refine bC_of hc ?_
  simp only [zbcZ,List.getElem?_cons_succ,List.getElem?_cons_zero,bO_some,nwC,bH_some,stC' _ _ oR,bS_some,abI_neq,hc0,ne_eq,not_false_eq_true,decide_true,bB_bool,bI_true]
  exact ⟨by trivial,g1.trans g2⟩
end Go.Proofs.YtlbilcpnjgkpjaaGreat.Av
end
section
namespace Go.Proofs.YtlbilcpnjgkpjaaGreat.Av
open Go Go.RowKit
theorem old_eq {N : Nat} {X : AH} {o : Nat} (hN : N≤o) : (old N X)[o]? = X[o]?:=by
 unfold old
 rw [List.getElem?_append_right (by simpa using hN),List.length_replicate,List.getElem?_drop,show N + (o - N)=o by omega]
theorem BCall.fzS {P : Program} {f : FuncId} {args : List AV} {H X : AH} {r : AV} {sz m : Nat} {cs : List AV} (h : BCall P f args H r X) (g : Grew H X) (hs : zaZ X sz r=some (cs,m)) (hi : ∀ i ∈ idS r,H.length≤i) (hn : noIdss cs=true) :
  ∃ R,(noIds R=true∧∀ H,zaZ H sz R=some (cs,m))∧BCall P f args H R H:=by
 have hs2 : zaZ (old H.length X) sz r=some (cs,m):=zbZ hs fun i q => old_eq (hi i q)
 obtain ⟨R,n0,h1,h2,h3⟩:=frz_slice hs2 hn
 refine ⟨R,⟨h1,h2⟩,ACalls.fzNew (R':=fun r' => r'=R) h ?_⟩
 rintro r1 H1 ⟨rfl,rfl⟩
 exact ⟨g.1,g.2,n0,R,h3 n0 (Nat.le_refl _),rfl⟩
theorem cloneB_z {H : AH} {v : AV} {l : List UInt8} (h : zaZ H 1 v=some (encB l,l.length)) (hl : l.length≤1000000000) : ∃ R,SV encU 1 l R∧BCall Tryz.prog 25 [v] H R H:=by
 obtain ⟨r,X,⟨hs,g,hi⟩,hc⟩:=zgbZ (a0:=v) (H:=H) (K:=fun r X => zaZ X 1 r=some (encB l,l.length)∧Grew H X∧∀ i ∈ idS r,H.length≤i) (by
  unfold zdjZ
  rcases nilS_slice h with ⟨rfl,e1,e2⟩ | hb
  ·have e : abN .eql nilS nilSl nilSl=some (B true):=rfl
   simp only [e,bO_some,bB_bool,bI_true]
   exact ⟨h,Grew.refl H,by simp [idS]⟩
  ·simp only [hb,bO_some,bB_bool,zlZ]
   have e : absl H 1 0 (zrow [(.lit (.int .u8 0))] 0) []=some (.sl H.length 0 0 1 (.ex 0),H ++ [some (.cells [])]):=rfl
   simp only [e,bH_some]
   have g:=Grew.app H [some (.cells [])]
   have h0 : zaZ (H ++ [some (.cells [])]) 1 (.sl H.length 0 0 1 (.ex 0))=some ([],0):=by simp [zaZ]
   obtain ⟨r,H2,a1,a2,a3,a4,a5,a6⟩:=zjcZ (sz:=1) (bytes:=1) (H:=H ++ [some (.cells [])]) (v:=.sl H.length 0 0 1 (.ex 0)) (cs:=[]) (n:=0) h0 rfl (zjZ (g.slice h)) (by omega)
   simp only [a1,bH_some]
   refine ⟨by simpa using a3,⟨by simp at a4; omega,fun i hi => ?_⟩,fun i hi => ?_⟩
   ·rw [a5 i (by simp; omega) (by simp [idS]; omega)]
    exact g.2 i hi
   ·rcases a6 i hi with h | h
    ·simp [idS] at h; omega
    ·simp at h; omega)
 obtain ⟨R,⟨h1,h2⟩,h3⟩:=BCall.fzS hc g hs hi (zodZ _)
 exact ⟨R,⟨h1,fun H => by rw [h2 H,flat_encU]⟩,h3⟩
theorem goF_has : goFunc Tryz.prog 96=true:=by kernel_rfl
theorem has1_p (x : Ext) (no : Int) : BPure Tryz.prog 96 [.agg (encE x),.ip [I no]] (B (decide (x.no=no))):=BPure.val (by simp [noIdss,noIds,zluZ]) rfl (store_has_1_ok (by
 unfold store_has_1
 have e1 : anew [] (.agg (encE x))=some (.ptr 0 0,[some (.cells (encE x))]):=by simp
 have e2 : (encE x)[0]? = some (I x.no):=rfl
 have e3 : ([some (.cells (encE x))] : AH)[0]? = some (some (.cells (encE x))):=rfl
 simp only [e1,bH_some,znZ,Nat.zero_add,bO_some,ald_ptr e3,zeZ,e2,ald_ip,List.getElem?_cons_zero,abI_eql]
 try trivial))
theorem rdh_E (x : Ext) (t : List AV) : rdCells true 9 (encE x ++ t) 0=some (.agg (encE x)):=by
 have:=zcbZ x
 simp only [rdCells,if_true,List.length_append,this,List.drop_zero]
 rw [if_pos (by omega),List.take_append_of_le_length (by omega),List.take_of_length_le (by omega)]
theorem idxHas_p {l : List Ext} {v : AV} (hv : SV encE 9 l v) (hl : l.length≤281474976710656) (no : Int) : ∃ j : Int,(0≤j ↔ hasL l no)∧BPure Tryz.prog 93 [v,.fn (.func 96) [] [.ip [I no]]] (I j):=by
 have key : ∃ r X,(∃ j : Int,r=I j∧(0≤j ↔ hasL l no))∧BCall Tryz.prog 93 [v,.fn (.func 96) [] [.ip [I no]]] [] r X:=zdeZ (by
  unfold zbiZ
  simp only [hv.len,bO_some]
  refine zcdZ (fun n x0 x1 x7 x8 H' => ∃ k : Nat,k + n=l.length∧x0=v∧x1 = .fn (.func 96) [] [.ip [I no]]∧x7=I l.length∧x8=I k∧∀ (m : Nat) y,m < k→l[m]? = some y→y.no ≠ no) ?_ l.length ⟨0,by omega,rfl,rfl,rfl,rfl,by omega⟩
  rintro n x0 x1 x7 x8 H R hR ⟨k,hk,rfl,rfl,rfl,rfl,hb⟩
  unfold zuZ
  rcases Nat.lt_or_ge k l.length with h | h
  ·have hx:=List.getElem?_eq_getElem h
   generalize l[k]=y at hx
   have kI : (k : Int) < (l.length : Int):=by omega
   simp only [abI_lss,bO_some,bB_bool,kI,decide_true,bI_true,hv.idx zcbZ hx rfl,ald_ip,rdh_E,bF_fn,goF_has,Bool.true_or,bT_true,List.nil_append,List.cons_append]
   refine bC_of (has1_p y no H) ?_
   simp only [bB_bool]
   by_cases c : y.no=no
   ·simp only [c,decide_true,bI_true]
    exact ⟨k,rfl,by simp only [Int.natCast_nonneg,true_iff]; exact ⟨y,List.mem_of_getElem? hx,c⟩⟩
   ·simp only [c,decide_false,zlZ,abI_add (a:=k) (b:=1) (by omega) (by omega),bO_some]
    refine hR (n - 1) _ _ _ _ _ (by omega) ⟨k + 1,by omega,rfl,rfl,rfl,by simp, ?_⟩
    intro m z hm hz
    by_cases e : m=k
    ·rw [e,hx] at hz; injection hz with hz; rw [← hz]; exact c
    ·exact hb m z (by omega) hz
  ·have kI : ¬ (k : Int) < (l.length : Int):=by omega
   simp only [abI_lss,bO_some,bB_bool,kI,decide_false,zlZ]
   refine ⟨-1,rfl,by simp only [show ¬ (0 : Int)≤-1 by omega,false_iff]; rintro ⟨y,hy,e⟩; obtain ⟨m,hm⟩:=List.mem_iff_getElem?.1 hy; exact hb m y (by have:=(List.getElem?_eq_some_iff.1 hm).1; omega) hm e⟩)
 obtain ⟨r,X,⟨j,rfl,hj⟩,hc⟩:=key
 exact ⟨j,hj,BPure.val (by simp [noIdss,noIds,hv.1]) rfl ⟨_,_,rfl,hc⟩⟩
theorem Contains_p {l : List Ext} {v : AV} (hv : SV encE 9 l v) (hl : l.length≤281474976710656) (no : Int) : BPure Tryz.prog 95 [v,.fn (.func 96) [] [.ip [I no]]] (B (decide (hasL l no))):=by
 obtain ⟨j,hj,hp⟩:=idxHas_p hv hl no
 refine BPure.flat fun H => zfcZ ?_
 unfold zbtZ
 refine bP_pure hp ?_
 simp only [abI_geq,bO_some]
 exact ⟨by congr 3; exact propext hj,by trivial⟩
theorem has_p {size : Int} {l : List Ext} {v : AV} (hv : SV encE 9 l v) (hl : l.length≤281474976710656) (no : Int) : BPure Tryz.prog 75 [.agg [I size,v],I no] (B (decide (hasL l no))):=BPure.val (by simp [noIdss,noIds,hv.1]) rfl (store_has_ok (by
 have ov:=SV.oneA hv
 unfold store_has
 have e1 : anew [] (.agg [I size,v])=some (.ptr 0 0,[some (.cells [I size,v])]):=by simp [ov]
 have e2 : anew [some (.cells [I size,v])] (I no)=some (.ptr 1 0,[some (.cells [I size,v]),some (.cells [I no])]):=rfl
 have e3 : ([some (.cells [I size,v]),some (.cells [I no])] : AH)[0]? = some (some (.cells [I size,v])):=rfl
 simp only [e1,bH_some,e2,znZ,Nat.zero_add,bO_some,ald_ptr e3,zeZ,List.getElem?_cons_succ,List.getElem?_cons_zero]
 have hf : FZs [some (.cells [I size,v]),some (.cells [I no])] [v,.fn (.func 96) [] [.ptr 1 0]] [v,.fn (.func 96) [] [.ip [I no]]]:=by
  refine FZs.cons (FZ.same hv.1) (FZs.cons ⟨3,fun n hn => ?_⟩ FZs.nil)
  obtain ⟨n,rfl⟩ : ∃ m,n=m + 3:=⟨n - 3,by omega⟩
  rfl
 refine bP_of (PCall.lend hf rfl (Contains_p hv hl no)) ?_
 try trivial))
theorem cuts_in : ∀ {f : Nat} {p n : Int} {q : Sp},0≤p→q ∈ cutsS f p n 8→p≤q.pos∧0 < q.len∧q.len≤8∧q.pos + q.len≤p + n
 | 0,p,n,q,_,h => by simp [cutsS] at h
 | f + 1,p,n,q,hp,h => by
  unfold cutsS at h
  split at h
  ·rename_i hn
   have h1:=Int.emod_lt_of_pos p (show (0 : Int) < 8 by omega)
   have h2:=Int.emod_nonneg p (show (8 : Int) ≠ 0 by omega)
   rcases List.mem_cons.1 h with rfl | h
   ·simp only; omega
   ·have:=cuts_in (by omega) h
    omega
  ·simp at h
def opWr (ino pos : Int) (b : List UInt8) : OpM:=⟨2,ino,pos,0,false,[],[],b⟩
theorem opWr_b {ino pos : Int} {b : List UInt8} (h : b.length≤8) : OpB (opWr ino pos b):=⟨by show b.length≤_; omega,by simp [opWr],by simp [opWr]⟩
def partB (b : List UInt8) (pos : Int) (q : Sp) : List UInt8:=(b.drop (q.pos - pos).toNat).take q.len.toNat
def wrS (c : List Ext) (ino pos : Int) (b : List UInt8) : List Sp→StS→(Int × Int) × StS
 | [],s => ((b.length,0),s)
 | q :: r,s =>
  if ¬ hasL c (q.pos / 8)∧freeS s=0 then ((q.pos - pos,4),s)
  else if (doS s (opWr ino q.pos (partB b pos q))).1 ≠ 0 then ((q.pos - pos,(doS s (opWr ino q.pos (partB b pos q))).1),(doS s (opWr ino q.pos (partB b pos q))).2)
  else wrS c ino pos b r (doS s (opWr ino q.pos (partB b pos q))).2
def fitsW (pos : Int) (n : Nat) : Prop:=0≤pos∧n≤4096∧pos≤1099511627776 - n
instance (pos : Int) (n : Nat) : Decidable (fitsW pos n):=by unfold fitsW; infer_instance
def writeS (s : StS) (ino pos : Int) (b : List UInt8) : (Int × Int) × StS :=
 if (zbzZ s ino).2 ≠ 0 then ((0,(zbzZ s ino).2),s) else if ¬ fitsW pos b.length then ((0,5),s)
 else wrS (zbzZ s ino).1.2 ino pos b (partsS ⟨pos,b.length⟩ 8) s
theorem parts_in {pos : Int} {b : List UInt8} {q : Sp} (hf : fitsW pos b.length) (h : q ∈ partsS ⟨pos,b.length⟩ 8) : pos≤q.pos∧0 < q.len∧q.len≤8∧q.pos + q.len≤pos + b.length:=by
 unfold partsS at h
 split at h
 ·exact cuts_in hf.1 h
 ·simp at h
theorem partB_len {b : List UInt8} {pos : Int} {q : Sp} (h : pos≤q.pos∧0 < q.len∧q.len≤8∧q.pos + q.len≤pos + b.length) : (partB b pos q).length=q.len.toNat:=by
 unfold partB
 rw [List.length_take,List.length_drop]; omega
theorem wrS_w {c : List Ext} {ino pos : Int} {b : List UInt8} : ∀ {l : List Sp} {N : Nat} {s : StS},(∀ q ∈ l,pos≤q.pos∧0 < q.len∧q.len≤8∧q.pos + q.len≤pos + b.length)→SW N s→SW (N + 9 * l.length) (wrS c ino pos b l s).2
 | [],N,s,_,h => h
 | q :: r,N,s,hq,h => by
  have h1:=hq q (by simp)
  have hl:=partB_len h1
  have hd:=doS_w (o:=opWr ino q.pos (partB b pos q)) h (opWr_b (by omega))
  have hwt : wt (opWr ino q.pos (partB b pos q))≤9:=by
   show 1 + (partB b pos q).length + (if (2 : Int)=4 then 4098 else 0)≤9
   rw [if_neg (by omega)]; omega
  unfold wrS
  simp only [List.length_cons]
  split
  ·exact h.mono (by omega)
  ·split
   ·exact hd.mono (by omega)
   ·exact (wrS_w (fun x hx => hq x (by simp [hx])) hd).mono (by omega)
theorem parts_len {pos : Int} {b : List UInt8} (hf : fitsW pos b.length) : (partsS ⟨pos,b.length⟩ 8).length≤b.length:=by
 unfold partsS
 split
 ·have : ∀ (f : Nat) (p n : Int),(cutsS f p n 8).length≤f:=by
   intro f
   induction f with
   | zero => intro p n; simp [cutsS]
   | succ f ih =>
    intro p n
    unfold cutsS
    split
    ·simp only [List.length_cons]; have:=ih (p + min n (8 - p % 8)) (n - min n (8 - p % 8)); omega
    ·simp
  have h2:=this (b.length : Int).toNat pos b.length
  have e : ((b.length : Int)).toNat=b.length:=by omega
  simp only
  omega
 ·simp
theorem writeS_w {N : Nat} {s : StS} (h : SW N s) (ino pos : Int) (b : List UInt8) : SW (N + 9 * b.length) (writeS s ino pos b).2:=by
 unfold writeS
 split
 ·exact h.mono (by omega)
 ·split
  ·exact h.mono (by omega)
  ·rename_i hf
   have hf:=Decidable.byContradiction hf
   exact (wrS_w (fun q hq => parts_in hf hq) h).mono (by have:=parts_len hf; omega)
theorem Write_c {N : Nat} {s : StS} {os : Nat} {p v : AV} {H : AH} (h : StAt s os p H) (hw : SW N s) (ino pos : Int) {b : List UInt8} (hN : N + 9 * b.length < 900000) (hv : zaZ H 1 v=some (encB b,b.length)) (hvi : ∀ j ∈ idS v,j ≠ os∧j ∉ idS p) :
  ∃ r H',(r = .tup [I (writeS s ino pos b).1.1,I (writeS s ino pos b).1.2]∧∃ p',StAt (writeS s ino pos b).2 os p' H'∧StF os p p' H H')∧BCall Tryz.prog 48 [.ptr os 0,I ino,I pos,v] H r H':=store_Store_Write_ok (by
 unfold zjqZ
 obtain ⟨R,hR,r,H1,⟨rfl,g1⟩,hc⟩:=content_c h hw (by omega) ino
 have hlen:=content_len hw ino
 refine bC_of hc ?_
 unfold writeS
 generalize zbzZ s ino=ct at *
 have oR:=SV.oneA hR
 have h1:=h.grew g1
 have g2:=Grew.app H1 [some (.cells [I ct.1.1,R])]
 have h2:=h1.grew g2
 have hv2:=g2.slice (g1.slice hv)
 have alv : alnS v=some (I b.length):=zbxZ hv
 simp only [zbcZ,List.getElem?_cons_succ,List.getElem?_cons_zero,bO_some,nwC,bH_some,stC' _ _ oR,bS_some,abI_neq,bB_bool]
 by_cases hc0 : ct.2=0
 ·simp only [hc0,ne_eq,not_true_eq_false,decide_false,zlZ,if_false,alv,bO_some]
  refine bP_pure (extent_Fits_p pos b.length (by omega)) ?_
  by_cases hf : fitsW pos b.length
  ·have hf' : 0≤pos∧b.length≤4096∧pos≤1099511627776 - b.length:=hf
   have e1 : abl [(.lit (.int .i64 0)),(.lit (.int .i64 0))] [(0,1,I pos),(1,1,I (b.length : Int))]=some (.agg (encSp ⟨pos,b.length⟩)):=rfl
   simp only [hf,hf',and_self,decide_true,aun_not,Bool.not_true,bO_some,bB_bool,zlZ,not_true_eq_false,if_false,alv,e1]
   obtain ⟨V,hV,hp⟩:=off_Parts_p ⟨pos,b.length⟩ (unit:=8) (by omega)
   refine bP_pure hp ?_
   simp only [hV.len,bO_some]
   have hin : ∀ q ∈ partsS ⟨pos,b.length⟩ 8,pos≤q.pos∧0 < q.len∧q.len≤8∧q.pos + q.len≤pos + b.length:=fun q hq => parts_in hf hq
   have hpl:=parts_len hf
   generalize partsS ⟨pos,b.length⟩ 8=L at hV hin hpl
   have c0 : (H1 ++ [some (AObj.cells [I ct.1.1,R])])[H1.length]? = some (some (.cells [I ct.1.1,R])):=top1
   have f0 : StF os p p H (H1 ++ [some (AObj.cells [I ct.1.1,R])]):=.of_grew (g1.trans g2)
   have hosH : os < H.length:=by obtain ⟨a,b',c,d,pv,hx⟩:=h; exact hx.lt
   have hpH : ∀ j ∈ idS p,j < H.length:=by obtain ⟨a,b',c,d,pv,hx⟩:=h; exact idS_lt hx
   have hvH : ∀ j ∈ idS v,j < H.length:=fun j q => zcZ hv j q
   have hH1 : H.length≤H1.length:=g1.1
   refine zmnZ (fun m x0 x1 x2 x3 x10 x36 x37 x38 H' => ∃ (k : Nat) (s' : StS) (p' : AV),k + m=L.length∧x0 = .ptr os 0∧x1=I ino∧x2=I pos∧x3=v∧x10 = .ptr H1.length 0∧x36=V∧x37=I L.length∧x38=I k∧StAt s' os p' H'∧StF os p p' H H'∧SW (N + 9 * k) s'∧H'[H1.length]? = some (some (.cells [I ct.1.1,R]))∧H1.length ∉ idS p'∧wrS ct.1.2 ino pos b (L.drop k) s'=wrS ct.1.2 ino pos b L s) ?_ L.length ⟨0,s,p,by omega,rfl,rfl,rfl,rfl,rfl,rfl,rfl,rfl,h2,f0,hw,c0,fun q => by have:=hpH _ q; omega,rfl⟩
   rintro m x0 x1 x2 x3 x10 x36 x37 x38 H2 R2 hR2 ⟨k,s',p',hk,rfl,rfl,rfl,rfl,rfl,rfl,rfl,rfl,hs',fs',hws',cc,hcp,heq⟩
   rw [← heq]
   unfold zfeZ
   rcases Nat.lt_or_ge k L.length with hlt | hge
   ·have hx:=List.getElem?_eq_getElem hlt
    have hq:=hin L[k] (List.getElem_mem hlt)
    generalize L[k]=q at hx hq
    obtain ⟨q1,q2,q3,q4⟩:=hq
    have kI : (k : Int) < (L.length : Int):=by omega
    have hdrop : L.drop k=q :: L.drop (k + 1):=drop_cons hx
    rw [hdrop]
    generalize hW : wrS ct.1.2 ino pos b (q :: L.drop (k + 1)) s'=W
    have rdq : rdCells true 2 (encSp q ++ (L.drop (k + 1)).flatMap encSp) 0=some (.agg (encSp q)):=by simp [rdCells,encSp]
    have eA : (AV.agg (encSp q)) = .agg [I q.pos,I q.len]:=rfl
    have n2 : anew H2 (.agg [(.lit (.int .i64 0)),(.lit (.int .i64 0))])=some (.ptr H2.length 0,H2 ++ [some (.cells [I 0,I 0])]):=by simp
    have t2 : ast 2 (H2 ++ [some (.cells [I 0,I 0])]) (.ptr H2.length 0) (.agg [I q.pos,I q.len])=some (H2 ++ [some (.cells [I q.pos,I q.len])]):=by
     rw [ast_ptr (n:=2) (xs:=[I q.pos,I q.len]) (cs:=[I 0,I 0]) rfl (by simp) rfl (by simp)]
     simp [splice]
    have g3:=Grew.app H2 [some (.cells [I q.pos,I q.len])]
    have e2 : abI .sub (I q.pos) (I pos)=some (I (q.pos - pos)):=abI_sub (by omega) (by omega)
    have e3 : abI .quo (I q.pos) (.lit (.int .i64 8))=some (I (q.pos / 8)):=abI_quo (by omega) (by omega) (by omega)
    simp only [abI_lss,bO_some,bB_bool,kI,decide_true,bI_true,hV.idx encSp_len hx rfl,ald_ip,rdq,eA,n2,bH_some,t2,bS_some,znZ,Nat.zero_add,ald_ptr top1,zeZ,List.getElem?_cons_succ,List.getElem?_cons_zero,e2,ald_ptr (g3.cells cc),rd2,e3]
    refine bP_pure (has_p hR (by omega) (q.pos / 8)) ?_
    have hs3:=hs'.grew g3
    have fs3 : StF os p p' H (H2 ++ [some (.cells [I q.pos,I q.len])]):=fs'.grew g3
    have cc3:=g3.cells cc
    have tq : (H2 ++ [some (AObj.cells [I q.pos,I q.len])])[H2.length]? = some (some (.cells [I q.pos,I q.len])):=top1
    have hl3 : H2.length + 1=(H2 ++ [some (AObj.cells [I q.pos,I q.len])]).length:=by simp
    have hpid : ∀ j ∈ idS p',j < H2.length:=by obtain ⟨a,b',c,d,pv,hx⟩:=hs'; exact idS_lt hx
    have hos2 : os < H2.length:=by obtain ⟨a,b',c,d,pv,hx⟩:=hs'; exact hx.lt
    have hcl2 : H1.length < H2.length:=(List.getElem?_eq_some_iff.1 cc).1
    generalize (H2 ++ [some (AObj.cells [I q.pos,I q.len])])=H3 at hs3 fs3 cc3 tq hl3
    -- the deed
    have deed : ¬ (¬ hasL ct.1.2 (q.pos / 8)∧freeS s'=0)→bO (ashift 0 (.ptr H2.length 0)) (fun v25 => bO (ald false 1 H3 v25) fun v26 => bO (ashift 1 (.ptr H2.length 0)) fun v27 => bO (ald false 1 H3 v27) fun v28 => bO (abI .add (I (q.pos - pos)) v28) fun v29 => bO (aslS 1 x3 (some (I (q.pos - pos))) (some v29) none) fun v30 =>
      bC (BCall Tryz.prog 25 [v30] H3) fun v31 H32 => bO (abl [(.lit (.int .i64 0)),(.lit (.int .i64 0)),(.lit (.int .i64 0)),(.lit (.int .i64 0)),(.lit (.bool false)),(.lit (.string ⟨#[]⟩)),(.lit (.string ⟨#[]⟩)),(.lit (.slice none 0 0))] [(0,1,(.lit (.int .i64 2))),(1,1,I ino),(2,1,v26),(7,1,v31)]) fun v33 =>
      bC (BCall Tryz.prog 38 [.ptr os 0,v33] H32) fun v34 H35 => (ald false 1 H32 v25=some v26)∧bO (abI .neq v34 (.lit (.int .i64 0))) fun v36 => bB v36 fun t37 => bI t37
       (AV.tup [I (q.pos - pos),v34] = .tup [I W.1.1,I W.1.2] ∧
        ∃ p',StAt W.2 os p' H35∧StF os p p' H H35)
       (bO (abI .add (I k) (.lit (.int .i64 1))) fun v38 => R2 [.ptr os 0,I ino,I pos,x3,.ptr H1.length 0,x36,I L.length,v38] H35)):=by
     intro hno
     have e4 : abI .add (I (q.pos - pos)) (I q.len)=some (I (q.pos - pos + q.len)):=abI_add (by omega) (by omega)
     have hv3 : zaZ H3 1 x3=some (encB b,b.length):=zbZ hv fun j hj => by
      have hne:=hvi j hj
      exact fs3.same j (hvH j hj) hne.1 hne.2
     obtain ⟨r5,s1,s2,s3,-⟩:=aslS_spec hv3 (lo:=some (I (q.pos - pos))) (hi:=some (I (q.pos - pos + q.len))) (l:=(q.pos - pos).toNat) (k:=(q.pos - pos + q.len).toNat) (by simp only [abnd]; rw [if_pos (by omega)]) (by simp only [abnd]; rw [if_pos (by omega)]) (by omega) (by omega)
     have hpl2:=partB_len (b:=b) (pos:=pos) (q:=q) ⟨q1,q2,q3,q4⟩
     have s2' : zaZ H3 1 r5=some (encB (partB b pos q),(partB b pos q).length):=by
      rw [s2,hpl2]
      unfold partB
      rw [Nat.mul_one,Nat.mul_one,show (q.pos - pos + q.len).toNat - (q.pos - pos).toNat=q.len.toNat by omega]
      simp [encB,List.map_take,List.map_drop]
     obtain ⟨Rb,hRb,hcb⟩:=cloneB_z s2' (by omega)
     simp only [znZ,Nat.zero_add,bO_some,ald_ptr tq,zeZ,List.getElem?_cons_succ,List.getElem?_cons_zero,e4,s1]
     refine bC_of hcb ?_
     have e5 : abl [(.lit (.int .i64 0)),(.lit (.int .i64 0)),(.lit (.int .i64 0)),(.lit (.int .i64 0)),(.lit (.bool false)),(.lit (.string ⟨#[]⟩)),(.lit (.string ⟨#[]⟩)),(.lit (.slice none 0 0))] [(0,1,(.lit (.int .i64 2))),(1,1,I ino),(2,1,I q.pos),(7,1,Rb)]=some (.agg (opA (opWr ino q.pos (partB b pos q)) Rb)):=by
      have:=SV.oneA hRb
      simp [abl,opA,opWr,zbuZ this]
      rfl
     simp only [e5,bO_some]
     obtain ⟨r6,H6,⟨rfl,p6,h6,f6⟩,hcall⟩:=do_c (o:=opWr ino q.pos (partB b pos q)) hs3 hws' (by omega) hRb (opWr_b (by omega))
     have hws6:=doS_w (o:=opWr ino q.pos (partB b pos q)) hws' (opWr_b (by omega))
     refine bC_of hcall ⟨by rw [ald_ptr tq]; rfl, ?_⟩
     simp only [abI_neq,bO_some,bB_bool]
     by_cases hd : (doS s' (opWr ino q.pos (partB b pos q))).1=0
     ·simp only [hd,ne_eq,not_true_eq_false,decide_false,zlZ,abI_add (a:=k) (b:=1) (by omega) (by omega),bO_some]
      have hwt : wt (opWr ino q.pos (partB b pos q))≤9:=by
       show 1 + (partB b pos q).length + (if (2 : Int)=4 then 4098 else 0)≤9
       rw [if_neg (by omega)]; omega
      refine hR2 (m - 1) _ _ _ _ _ _ _ _ _ (by omega) ⟨k + 1,_,p6,by omega,rfl,rfl,rfl,rfl,rfl,rfl,rfl,by simp,h6,fs3.trans f6,hws6.mono (by omega), ?_, ?_, ?_⟩
      ·rw [f6.same H1.length (by omega) (by omega) hcp]; exact cc3
      ·intro hh
       rcases f6.ids _ hh with hh | hh
       ·exact hcp hh
       ·omega
      ·rw [← heq,hdrop]
       conv => rhs; unfold wrS
       rw [if_neg hno,if_neg (by rw [hd]; simp)]
     ·have eW : W=((q.pos - pos,(doS s' (opWr ino q.pos (partB b pos q))).1),(doS s' (opWr ino q.pos (partB b pos q))).2):=by
       rw [← hW]; unfold wrS; rw [if_neg hno,if_pos hd]
      rw [eW]
      simp only [hd,ne_eq,not_false_eq_true,decide_true,bI_true]
      exact ⟨by trivial,p6,h6,fs3.trans f6⟩
    by_cases hh : hasL ct.1.2 (q.pos / 8)
    ·simp only [hh,decide_true,aun_not,Bool.not_true,bO_some,bG_bool,show ((false == true)=false) from rfl,gO_false,gC_false,ztZ,if_false,Bool.false_eq_true,bB_bool,zlZ]
     exact deed (fun x => x.1 hh)
    ·simp only [hh,decide_false,aun_not,Bool.not_false,bO_some,bG_bool,beq_self_eq_true,gO_true,gC_true]
     refine bC_of (Free_c hs3 hws' (by omega)) ?_
     simp only [abI_eql,bO_some,ztZ,if_true,bB_bool]
     by_cases hfr : freeS s'=0
     ·have eW : W=((q.pos - pos,4),s'):=by
       rw [← hW]; unfold wrS; rw [if_pos ⟨hh,hfr⟩]
      rw [eW]
      simp only [hfr,decide_true,bI_true]
      exact ⟨by trivial,p',hs3,fs3⟩
     ·simp only [hfr,decide_false,zlZ]
      exact deed (fun x => hfr x.2)
   ·have kI : ¬ (k : Int) < (L.length : Int):=by omega
    have hdrop : L.drop k=[]:=List.drop_of_length_le hge
    rw [hdrop]
    unfold wrS
    simp only [abI_lss,bO_some,bB_bool,kI,decide_false,zlZ,alv]
    exact ⟨by trivial,p',hs',fs'⟩
  ·have hf' : ¬ (0≤pos∧b.length≤4096∧pos≤1099511627776 - b.length):=hf
   simp only [hf,hf',decide_false,aun_not,Bool.not_false,bO_some,bB_bool,bI_true,not_false_eq_true,if_true]
   exact ⟨by trivial,p,h2,.of_grew (g1.trans g2)⟩
 ·simp only [hc0,ne_eq,not_false_eq_true,decide_true,bI_true,if_true]
  exact ⟨by trivial,p,h2,.of_grew (g1.trans g2)⟩)
end Go.Proofs.YtlbilcpnjgkpjaaGreat.Av
end
section
namespace Go.Proofs.YtlbilcpnjgkpjaaGreat.Av
open Go Go.RowKit
def encZ (i : Int) : List AV:=[I i]
theorem encZ_len (i : Int) : (encZ i).length=1:=rfl
theorem noIdss_encZ (l : List Int) : noIdss (l.flatMap encZ)=true:=zgiZ fun x _ => rfl
theorem rdh_Z (x : Int) (t : List AV) : rdCells false 1 (encZ x ++ t) 0=some (I x):=rfl
theorem idxZ_p {l : List Int} {v : AV} (hv : SV encZ 1 l v) (hl : l.length≤281474976710656) (no : Int) : ∃ j : Int,(0≤j ↔ no ∈ l)∧BPure Tryz.prog 98 [v,I no] (I j):=by
 have key : ∃ r X,(∃ j : Int,r=I j∧(0≤j ↔ no ∈ l))∧BCall Tryz.prog 98 [v,I no] [] r X:=znwZ (by
  unfold zfrZ
  simp only [hv.len,bO_some]
  refine zkaZ (fun n x0 x1 x7 x8 H' => ∃ k : Nat,k + n=l.length∧x0=v∧x1=I no∧x7=I l.length∧x8=I k∧∀ (m : Nat) y,m < k→l[m]? = some y→no ≠ y) ?_ l.length ⟨0,by omega,rfl,rfl,rfl,rfl,by omega⟩
  rintro n x0 x1 x7 x8 H R hR ⟨k,hk,rfl,rfl,rfl,rfl,hb⟩
  unfold zdxZ
  rcases Nat.lt_or_ge k l.length with h | h
  ·have hx:=List.getElem?_eq_getElem h
   generalize l[k]=y at hx
   have kI : (k : Int) < (l.length : Int):=by omega
   simp only [abI_lss,bO_some,bB_bool,kI,decide_true,bI_true,hv.idx encZ_len hx rfl,ald_ip,rdh_Z,abI_eql]
   by_cases c : no=y
   ·simp only [c,decide_true,bI_true]
    exact ⟨k,rfl,by simp only [Int.natCast_nonneg,true_iff]; exact List.mem_of_getElem? hx⟩
   ·simp only [c,decide_false,zlZ,abI_add (a:=k) (b:=1) (by omega) (by omega),bO_some]
    refine hR (n - 1) _ _ _ _ _ (by omega) ⟨k + 1,by omega,rfl,rfl,rfl,by simp, ?_⟩
    intro m z hm hz
    by_cases e : m=k
    ·rw [e,hx] at hz; injection hz with hz; rw [← hz]; exact c
    ·exact hb m z (by omega) hz
  ·have kI : ¬ (k : Int) < (l.length : Int):=by omega
   simp only [abI_lss,bO_some,bB_bool,kI,decide_false,zlZ]
   refine ⟨-1,rfl,by simp only [show ¬ (0 : Int)≤-1 by omega,false_iff]; intro hy; obtain ⟨m,hm⟩:=List.mem_iff_getElem?.1 hy; exact hb m no (by have:=(List.getElem?_eq_some_iff.1 hm).1; omega) hm rfl⟩)
 obtain ⟨r,X,⟨j,rfl,hj⟩,hc⟩:=key
 exact ⟨j,hj,BPure.val (by simp [noIdss,noIds,hv.1]) rfl ⟨_,_,rfl,hc⟩⟩
theorem ContainsZ_p {l : List Int} {v : AV} (hv : SV encZ 1 l v) (hl : l.length≤281474976710656) (no : Int) : BPure Tryz.prog 77 [v,I no] (B (decide (no ∈ l))):=by
 obtain ⟨j,hj,hp⟩:=idxZ_p hv hl no
 refine BPure.val (by simp [noIdss,noIds,hv.1]) rfl (zkzZ ?_)
 unfold zegZ
 refine bP_pure hp ?_
 simp only [abI_geq,bO_some]
 congr 3; exact propext hj
def staysO (l : List Int) (o : OpM) : Prop:=o.kind=1∨o.kind=6∨o.kind=7∨o.ino ∈ l
instance (l : List Int) (o : OpM) : Decidable (staysO l o):=by unfold staysO; infer_instance
theorem stays_p {o : OpM} {bv : AV} (hb : SV encU 1 o.b bv) {l : List Int} {v : AV} (hv : SV encZ 1 l v) (hl : l.length≤281474976710656) : BPure Tryz.prog 50 [.agg (opA o bv),v] (B (decide (staysO l o))):=by
 have obv:=SV.oneA hb
 have e1 : anew [] (.agg (opA o bv))=some (.ptr 0 0,[some (.cells (opA o bv))]):=by simp [opA,obv]
 have e0 : ([some (.cells (opA o bv))] : AH)[0]? = some (some (.cells (opA o bv))):=rfl
 have i0 : (opA o bv)[0]? = some (I o.kind):=rfl
 have i1 : (opA o bv)[1]? = some (I o.ino):=rfl
 refine BPure.val (by simp [noIdss,noIds,hv.1,hb.1,opA]) rfl (store_stays_ok ?_)
 unfold store_stays
 simp only [e1,bH_some,znZ,Nat.zero_add,bO_some,ald_ptr e0,zeZ,i0,abI_eql,bB_bool]
 have last : ∀ c : Prop,∀ _ : Decidable c,zpdZ v (.ptr 0 0) [some (.cells (opA o bv))] (fun r H => r=B (decide (o.ino ∈ l))):=by
  intro c _
  rw [store_stays_J1_eq]; unfold zpuZ
  simp only [znZ,Nat.zero_add,bO_some,ald_ptr e0,zeZ,i1]
  exact bP_pure (ContainsZ_p hv hl o.ino) rfl
 unfold staysO
 by_cases c1 : o.kind=1
 ·simp only [c1,decide_true,bI_true,true_or]
  rw [zjpZ]; unfold zijZ
  simp only [bB_bool,bI_true]
  try trivial
 ·simp only [c1,decide_false,zlZ,false_or]
  by_cases c6 : o.kind=6
  ·simp only [c6,decide_true,bI_true,true_or]
   rw [zjpZ]; unfold zijZ
   simp only [bB_bool,bI_true]
   try trivial
  ·simp only [c6,decide_false,zlZ,false_or]
   rw [zjpZ]; unfold zijZ
   by_cases c7 : o.kind=7
   ·simp only [c7,decide_true,bB_bool,bI_true,true_or]
    try trivial
   ·simp only [c7,decide_false,bB_bool,zlZ,false_or]
    exact last True inferInstance
def syncF (l : List Int) : List OpM→Img × List OpM→Img × List OpM
 | [],x => x
 | o :: r,x => if staysO l o then syncF l r (applyI x.1.1 x.1.2 o,x.2) else syncF l r (x.1,x.2 ++ [o])
def syncS (s : StS) (l : List Int) : Int × StS :=
 if (deedS s).1=true then (0,{ (deedS s).2 with kept:=(syncF l s.pend (s.kept,[])).1,pend:=(syncF l s.pend (s.kept,[])).2 }) else (8,(deedS s).2)
theorem syncF_w {l : List Int} {N : Nat} : ∀ {r : List OpM} {x : Img × List OpM},(∃ a,Few1 a x.1∧a + wts x.2 + wts r≤N)→(∃ a,Few1 a (syncF l r x).1∧a + wts (syncF l r x).2≤N)
 | [],x,⟨a,h1,h2⟩ => ⟨a,h1,by simp only [syncF]; omega⟩
 | o :: r,x,⟨a,h1,h2⟩ => by
  have e : wts (o :: r)=wt o + wts r:=by simp [wts]
  unfold syncF
  split
  ·exact syncF_w ⟨a + wt o,h1.step o,by simp only; omega⟩
  ·exact syncF_w ⟨a,h1,by simp only [wts_snoc]; omega⟩
theorem syncF_b {l : List Int} : ∀ {r : List OpM} {x : Img × List OpM},(∀ o ∈ x.2,OpB o)→(∀ o ∈ r,OpB o)→∀ o ∈ (syncF l r x).2,OpB o
 | [],x,h1,h2,o,ho => h1 o ho
 | q :: r,x,h1,h2,o,ho => by
  unfold syncF at ho
  split at ho
  ·exact syncF_b (x:=(applyI x.1.1 x.1.2 q,x.2)) h1 (fun z hz => h2 z (by simp [hz])) o ho
  ·refine syncF_b (x:=(x.1,x.2 ++ [q])) ?_ (fun z hz => h2 z (by simp [hz])) o ho
   intro z hz
   simp only [List.mem_append,List.mem_singleton] at hz
   rcases hz with hz | rfl
   ·exact h1 z hz
   ·exact h2 _ (by simp)
theorem syncS_w {N : Nat} {s : StS} (h : SW N s) (l : List Int) : SW N (syncS s l).2:=by
 have hd:=deedS_w h
 obtain ⟨e1,e2,e3,e4,e5⟩:=zmmZ s
 unfold syncS
 split
 ·refine ⟨by simp only [e1]; exact h.now, ?_, ?_,hd.made,hd.cap,hd.armed⟩
  ·obtain ⟨a,h1,h2⟩:=h.kept
   exact syncF_w ⟨a,h1,by simp only [wts,List.map_nil,List.sum_nil]; unfold wts at h2; omega⟩
  ·exact syncF_b (x:=(s.kept,[])) (by simp) h.ob
 ·exact hd
theorem Sync_c {N : Nat} {s : StS} {os : Nat} {p v : AV} {H : AH} (h : StAt s os p H) (hw : SW N s) (hN : N≤900000) {l : List Int} (hv : zaZ H 1 v=some (l.flatMap encZ,l.length)) (hvi : ∀ j ∈ idS v,j ≠ os∧j ∉ idS p) (hl : l.length≤1000000) :
  ∃ r H',(r=I (syncS s l).1∧∃ p',StAt (syncS s l).2 os p' H'∧StF os p p' H H')∧BCall Tryz.prog 30 [.ptr os 0,v] H r H':=store_Store_Sync_ok (by
 unfold zlaZ
 obtain ⟨r,H1,⟨rfl,h1,f1⟩,hc⟩:=deed_c h hw.armed
 refine bC_of hc ?_
 obtain ⟨e1,e2,e3,e4,e5⟩:=zmmZ s
 have hwd:=deedS_w hw
 have hpl : (deedS s).2.pend.length≤N:=by rw [e3]; exact hw.plen
 have hob : ∀ o ∈ (deedS s).2.pend,OpB o:=by rw [e3]; exact hw.ob
 have hkw : ∃ a,Few1 a (deedS s).2.kept∧a + wts (deedS s).2.pend≤N:=by rw [e2,e3]; exact hw.kept
 unfold syncS
 rw [← e2,← e3]
 simp only [aun_not,bO_some,bB_bool]
 cases hd : (deedS s).1 with
 | false =>
  simp only [Bool.not_false,bI_true,Bool.false_eq_true,if_false]
  exact ⟨by trivial,p,h1,f1⟩
 | true =>
  have hv1 : zaZ H1 1 v=some (l.flatMap encZ,l.length):=zbZ hv fun j hj => f1.same j (zcZ hv j hj) (hvi j hj).1 (hvi j hj).2
  clear e1 e2 e3 e4 e5 hc
  generalize (deedS s).2=s1 at *
  simp only [if_true]
  obtain ⟨a,b,c,d,pv,h1⟩:=h1
  have hpn : pv.length=s1.pend.length:=by rw [← h1.pm,List.length_map]
  have alv : alnS p=some (I (s1.pend.length : Nat)):=by rw [← hpn]; exact zbxZ h1.ps
  simp only [Bool.not_true,zlZ,zxZ,bO_some,znZ,Nat.zero_add,ald_ptr h1.obj,zeZ,List.getElem?_cons_succ,List.getElem?_cons_zero,alv]
  have hos : os < H1.length:=h1.lt
  have hH : H.length≤H1.length:=f1.len
  generalize hres : syncF l s1.pend (s1.kept,[])=res
  refine znoZ (fun m x0 x1 x5 x14 x15 x16 H' => ∃ (k : Nat) (ki : Img) (c' d' : AV) (lv : List OpV),k + m=s1.pend.length∧x0 = .ptr os 0∧x1=v∧x14=p∧x15=I s1.pend.length∧x16=I k∧StC { s1 with kept:=ki } os a b c' d' p pv H'∧StF os p p H1 H'∧syncF l (s1.pend.drop k) (ki,lv.map OpV.o)=res∧(∃ a,Few1 a ki∧a + wts (lv.map OpV.o) + wts (s1.pend.drop k)≤N)∧zaZ H' 8 x5=some (lv.flatMap encO,lv.length)∧ownedS x5=true∧capOk x5 lv.length∧(∀ j ∈ idS x5,H1.length≤j)) ?_ s1.pend.length ⟨0,s1.kept,c,d,[],by omega,rfl,rfl,rfl,rfl,rfl,h1,.refl _ _ _,hres,by obtain ⟨x,y,z⟩:=hkw; exact ⟨x,y,by simp only [List.map_nil,List.drop_zero]; simp only [wts,List.map_nil,List.sum_nil] at *; omega⟩,rfl,rfl,by simp [capOk],by simp [idS]⟩
  rintro m x0 x1 x5 x14 x15 x16 H2 R hR ⟨k,ki,c',d',lv,hk,rfl,rfl,rfl,rfl,rfl,h2,f2,hsy,hfew,ls,lo,lc,li⟩
  have lvN : lv.length≤N:=by
   obtain ⟨x,-,y⟩:=hfew
   have:=wts_len (l:=lv.map OpV.o)
   rw [List.length_map] at this
   omega
  unfold zftZ
  rcases Nat.lt_or_ge k s1.pend.length with hlt | hge
  ·have hx:=List.getElem?_eq_getElem (show k < pv.length by omega)
   generalize pv[k]'(by omega)=x at hx
   have hxo : s1.pend[k]? = some x.o:=by rw [← h1.pm,List.getElem?_map,hx]; rfl
   have hdrop : s1.pend.drop k=x.o :: s1.pend.drop (k + 1):=drop_cons hxo
   have hxb:=hob x.o (List.mem_of_getElem? hxo)
   rw [hdrop] at hsy hfew
   have ox:=SV.oneA x.h
   have kI : (k : Int) < (s1.pend.length : Int):=by omega
   obtain ⟨pp,q1,q2⟩:=op_at h2.ps hx
   have n8 : anew H2 (.agg [(.lit (.int .i64 0)),(.lit (.int .i64 0)),(.lit (.int .i64 0)),(.lit (.int .i64 0)),(.lit (.bool false)),(.lit (.string ⟨#[]⟩)),(.lit (.string ⟨#[]⟩)),(.lit (.slice none 0 0))])=some (.ptr H2.length 0,H2 ++ [some (.cells [I 0,I 0,I 0,I 0,B false,S ⟨#[]⟩,S ⟨#[]⟩,nilSl])]):=by simp
   have t8 : ast 8 (H2 ++ [some (.cells [I 0,I 0,I 0,I 0,B false,S ⟨#[]⟩,S ⟨#[]⟩,nilSl])]) (.ptr H2.length 0) (.agg (opA x.o x.bv))=some (H2 ++ [some (.cells (opA x.o x.bv))]):=by
    rw [ast_ptr (n:=8) (xs:=opA x.o x.bv) (cs:=[I 0,I 0,I 0,I 0,B false,S ⟨#[]⟩,S ⟨#[]⟩,nilSl]) (by simp [opA,ox]) (by simp) rfl (by simp)]
    simp [splice,opA]
   have g3:=Grew.app H2 [some (.cells (opA x.o x.bv))]
   have rd8 : rdCells true 8 (opA x.o x.bv) 0=some (.agg (opA x.o x.bv)):=rfl
   have h3:=h2.grew g3
   have f3 : StF os x14 x14 H1 (H2 ++ [some (AObj.cells (opA x.o x.bv))]):=f2.grew g3
   have hl2:=f2.len
   have hv3 : zaZ (H2 ++ [some (AObj.cells (opA x.o x.bv))]) 1 x1=some (l.flatMap encZ,l.length):=zbZ hv fun j hj => by
    have:=zcZ hv j hj
    rw [f3.same j (by omega) (hvi j hj).1 (hvi j hj).2,f1.same j this (hvi j hj).1 (hvi j hj).2]
   obtain ⟨Rv,hRv,fRv⟩:=FZ.sv hv3 (noIdss_encZ l)
   have ls3:=g3.slice ls
   have sm : Sm ki.1 ki.2:=by obtain ⟨x,y,z⟩:=hfew; exact y.sm (by omega)
   simp only [abI_lss,bO_some,bB_bool,kI,decide_true,bI_true,q1,q2,n8,bH_some,t8,bS_some,ald_ptr top1,rd8]
   refine bP_of (PCall.lend (FZs.cons (FZ.same (by simp [noIds,opA,noIdss,x.h.1])) (FZs.cons fRv FZs.nil)) rfl (stays_p x.h hRv (by omega))) ?_
   have topx : (H2 ++ [some (AObj.cells (opA x.o x.bv))])[H2.length]? = some (some (.cells (opA x.o x.bv))):=top1
   have hl3 : (H2 ++ [some (AObj.cells (opA x.o x.bv))]).length=H2.length + 1:=by simp
   generalize (H2 ++ [some (AObj.cells (opA x.o x.bv))])=H3 at *
   simp only [bB_bool]
   by_cases hst : staysO l x.o
   ·obtain ⟨RA,hRA,hpA⟩:=Apply_p (o:=x.o) (bv:=x.bv) h3.kept sm x.h (by have:=hxb.1; omega) (by have:=hxb.2.1; omega) (by have:=hxb.2.2; omega)
    obtain ⟨a',b',rfl,oa,ob⟩:=hRA.agg2
    simp only [hst,decide_true,bI_true,zxZ,bO_some,znZ,Nat.zero_add,ald_ptr h3.obj,(rd9 _ _ _ _ _ _ _ _ _).2,ald_ptr topx,rd8]
    refine bP_of hpA ?_
    obtain ⟨h4,f4⟩:=h3.set (s':={ s1 with kept:=applyI ki.1 ki.2 x.o }) h3.now hRA rfl
    simp only [zxZ,bO_some,znZ,Nat.zero_add,(st9 h3.obj oa ob).2,bS_some]
    rw [zinZ]; unfold zfdZ
    simp only [abI_add (a:=k) (b:=1) (by omega) (by omega),bO_some]
    refine hR (m - 1) _ _ _ _ _ _ _ (by omega) ⟨k + 1,_,a',b',lv,by omega,rfl,rfl,rfl,rfl,by simp,h4,f3.trans f4, ?_, ?_, ?_,lo,lc,li⟩
    ·rw [← hsy]; conv => rhs; unfold syncF
     rw [if_pos hst]
    ·obtain ⟨y,z,w⟩:=hfew
     have e : wts (x.o :: s1.pend.drop (k + 1))=wt x.o + wts (s1.pend.drop (k + 1)):=by simp [wts]
     exact ⟨y + wt x.o,z.step x.o,by omega⟩
    ·exact zbZ ls3 fun j hj => by
      have:=li j hj
      exact f4.same j (by have:=zcZ ls3 j hj; omega) (by omega) (fun q => by have:=idS_lt h1 j q; omega)
   ·have eA : absl H3 8 1 (zrow [(.lit (.int .i64 0)),(.lit (.int .i64 0)),(.lit (.int .i64 0)),(.lit (.int .i64 0)),(.lit (.bool false)),(.lit (.string ⟨#[]⟩)),(.lit (.string ⟨#[]⟩)),(.lit (.slice none 0 0))] 1) [(0,8,.agg (opA x.o x.bv))]=some (.sl H3.length 0 1 8 (.ex 1),H3 ++ [some (.cells (encO x))]):=by
     simp [absl,absf,zrow,encO,opA,cellsA_agg,ox,splice]
    have g4:=Grew.app H3 [some (.cells (encO x))]
    have x1' : zddZ (H3 ++ [some (AObj.cells (encO x))]) 8 (.sl H3.length 0 1 8 (.ex 1))=some (encO x,1):=zjZ (by simp [zaZ,encO,opA])
    obtain ⟨r,H5,a1,a2,a3,a4,a5,a6⟩:=zjcZ (bytes:=96) (g4.slice ls3) lo x1' (by omega)
    have a7:=aap_cap (g4.slice ls3) lo x1' lc a1
    simp only [hst,decide_false,zlZ,ald_ptr topx,rd8,bO_some,eA,bH_some,a1]
    rw [zinZ]; unfold zfdZ
    simp only [abI_add (a:=k) (b:=1) (by omega) (by omega),bO_some]
    have h4:=h3.grew g4
    have f4:=f3.grew g4
    have lt4 : ∀ j,j < H1.length→j ∉ idS x5:=fun j hj q => by have:=li j q; omega
    have len4 : (H3 ++ [some (AObj.cells (encO x))]).length=H3.length + 1:=by simp
    have k5 : ∀ j,j < H1.length→H5[j]? = (H3 ++ [some (AObj.cells (encO x))])[j]?:=fun j hj => a5 j (by omega) (lt4 j hj)
    refine hR (m - 1) _ _ _ _ _ _ _ (by omega) ⟨k + 1,ki,c',d',lv ++ [x],by omega,rfl,rfl,rfl,rfl,by simp, ?_, ?_, ?_, ?_, ?_,a2,by simpa using a7, ?_⟩
    ·exact ⟨by rw [k5 os hos]; exact h4.obj,h4.now,h4.kept,h4.pm,zbZ h4.ps fun j hj => k5 j (idS_lt h1 j hj),h4.po,h4.pi,h4.pc⟩
    ·exact ⟨by omega,fun j hj hne hjp => by rw [k5 j hj]; exact f4.same j hj hne hjp,fun _ q => .inl q⟩
    ·rw [← hsy]; conv => rhs; unfold syncF
     rw [if_neg hst]
     simp
    ·obtain ⟨y,z,w⟩:=hfew
     have e : wts (x.o :: s1.pend.drop (k + 1))=wt x.o + wts (s1.pend.drop (k + 1)):=by simp [wts]
     exact ⟨y,z,by rw [List.map_append]; simp only [List.map_cons,List.map_nil,wts_snoc]; omega⟩
    ·simpa using a3
    ·intro j hj
     rcases a6 j hj with q | q
     ·exact li j q
     ·omega
  ·have kI : ¬ (k : Int) < (s1.pend.length : Int):=by omega
   have hdrop : s1.pend.drop k=[]:=List.drop_of_length_le hge
   rw [hdrop] at hsy hfew
   unfold syncF at hsy
   rw [← hsy]
   have e7 : ast 1 H2 (.ptr os 5) x5=some (H2.set os (some (.cells [I s1.cap,a,b,c',d',x5,I s1.made,I s1.armed,B s1.off]))):=fld h2.obj (by simp) (zpZ lo)
   have hnx : os ∉ idS x5:=fun q => by have:=li os q; omega
   simp only [abI_lss,bO_some,bB_bool,kI,decide_false,zlZ,zxZ,znZ,Nat.zero_add,e7,bS_some]
   have hl2:=f2.len
   refine ⟨by trivial,x5,⟨a,b,c',d',lv,⟨List.getElem?_set_self h2.lt,h2.now,h2.kept,rfl,zbZ ls fun j hj => List.getElem?_set_ne (fun e => hnx (by rw [e]; exact hj)),lo,hnx,lc⟩⟩, ?_⟩
   refine ⟨by rw [List.length_set]; omega,fun j hj hne hjp => ?_,fun j hj => .inr (by have:=li j hj; omega)⟩
   rw [List.getElem?_set_ne (Ne.symm hne),f2.same j (by omega) hne hjp,f1.same j hj hne hjp])
theorem one_at {α : Type} {enc : α→List AV} {f : α→AV} (he : ∀ x,enc x=[f x]) {H : AH} {w : AV} {l : List α} {k : Nat} {x : α} (hw : zaZ H 1 w=some (l.flatMap enc,l.length)) (hx : l[k]? = some x) : ∃ p,aixS 1 w (I k)=some p∧ald false 1 H p=some (f x):=by
 have hk:=(List.getElem?_eq_some_iff.1 hx).1
 obtain ⟨p,c,h1,h2,h3,h4⟩:=aixS_spec hw (i:=(k : Int)) rfl hk
 have el : ∀ x,(enc x).length=1:=fun x => by rw [he]; rfl
 have hc : c.take 1=[f x]:=by
  rw [h3,zelZ el hx,List.take_append_of_le_length (by rw [el]; exact Nat.le_refl 1),List.take_of_length_le (by rw [el]; exact Nat.le_refl 1),he]
 refine ⟨p,h1, ?_⟩
 rw [ald_at h2 (by omega) h4]
 cases c with
 | nil => simp at hc
 | cons y t => simp at hc; rw [hc]; rfl
end Go.Proofs.YtlbilcpnjgkpjaaGreat.Av
end
section
namespace Go.Proofs.YtlbilcpnjgkpjaaGreat.Av
open Go Go.RowKit
theorem aslS_max {H : AH} {v : AV} {cs : List AV} {n l k : Nat} (h : zaZ H 1 v=some (cs,n)) (hlk : l < k) (hkn : k≤n) :
  ∃ r,aslS 1 v (some (I l)) (some (I k)) (some (I k))=some r∧(∀ H,zaZ H 1 v=some (cs,n)→zaZ H 1 r=some ((cs.drop l).take (k - l),k - l))∧∀ i ∈ idS r,i ∈ idS v:=by
 have b1 : abnd (some (I l)) 0=some l:=by simp [abnd]
 have b2 : ∀ d,abnd (some (I k)) d=some k:=fun d => by simp [abnd]
 have hcl:=zbwZ h
 unfold zaZ at h
 unfold aslS
 split at h
 ·rename_i c len esz
  split at h
  ·rename_i hb
   obtain ⟨rfl,hb⟩:=hb
   injection h with h; injection h with h1 h2
   subst h1; subst h2
   simp only [b1,b2,Option.isSome_some]
   rw [if_pos ⟨by omega,by omega,by omega,by trivial⟩,if_neg (by omega)]
   refine ⟨_,rfl,fun H _ => ?_,fun i hi => hi⟩
   simp only [zaZ,true_and,Nat.mul_one]
   rw [if_pos (by rw [List.length_take,List.length_drop]; omega)]
  ·cases h
 ·rename_i o off len esz cap
  split at h
  ·rename_i c hoc
   split at h
   ·rename_i hb
    obtain ⟨rfl,hb⟩:=hb
    injection h with h; injection h with h1 h2
    subst h2
    simp only [ne_eq,not_true_eq_false,if_false,b1,b2,Option.isSome_some]
    rw [if_pos ⟨by omega,by omega,by omega,by trivial⟩]
    refine ⟨_,rfl,fun H h2 => ?_,fun i hi => hi⟩
    unfold zaZ at h2
    simp only [true_and] at h2
    split at h2
    ·rename_i c2 hoc2
     split at h2
     ·rename_i hb2
      injection h2 with h2; injection h2 with h3 h4
      rw [zbdZ hoc2 (by omega),← h3]
      simp only [Nat.mul_one]
      rw [List.drop_take,List.drop_drop,List.take_take]
      congr 3
      omega
     ·cases h2
    ·cases h2
   ·cases h
  ·cases h
 all_goals (try (injection h with h; injection h with h1 h2; omega))
 all_goals cases h
noncomputable abbrev chB : Code:=bodyOf Tryz.f72
noncomputable abbrev chO : Array Oper:=opsOf (sub [true,true,true,true,false,true,true,false] chB)
noncomputable abbrev chY : Oper := chO.toList.getD 10 ⟨none, .nilCheck (.tmp 0), 0, "", #[], none⟩
theorem ch_body : Tryz.f72.body=some (.seq (sub [false] chB) (.block 0 (.loop (.seq (.seq (sub [true,true,true,false,false] chB) (.cond (.tmp 9) .skip (.exit 0)))
  (.seq (.block 1 (.seq (sub [true,true,true,true,false,true,false] chB) (.seq (.region 4 chO false) (.cond (.tmp 30) .ret .skip)))) (sub [true,true,true,true,true] chB)))))):=by kernel_rfl
noncomputable abbrev chS (p : List Bool) (T : List AV) (H : AH) (K : Kf) : Prop:=sCode Tryz.prog (flOf []) none0 none0 none0 (kpOf []) (sub p chB) 0 T H K
theorem ch_p0 (x0 x1 x2 : AV) (H : AH) (Q : Exit→List AV→AH→Prop) : chS [false] ([x0,x1,x2] ++ List.replicate 28 undefA) H (fun e T H => fP (mk 31 0 [0,1,2,4]) T fun X => Q e X H)=Q .normal [x0,x1,x2,I 0] H:=by kernel_rfl
theorem ch_p1 (x0 x1 x2 x4 : AV) (H : AH) (Q : Exit→List AV→AH→Prop) : chS [true,true,true,false,false] (expand (mk 31 0 [0,1,2,4]) [x0,x1,x2,x4]) H (fun e T H => fP (mk 31 0 [0,1,2,4,9]) T fun X => Q e X H) =
  bO (ald false 1 H x1) fun v7 => bO (alnS v7) fun v8 => bO (abI .lss x4 v8) fun v9 => Q .normal [x0,x1,x2,x4,v9] H:=by kernel_rfl
theorem ch_p3 (x0 x1 x2 x4 x9 : AV) (H : AH) (Q : Exit→List AV→AH→Prop) : chS [true,true,true,true,false,true,false] (expand (mk 31 0 [0,1,2,4,9]) [x0,x1,x2,x4,x9]) H (fun e T H => fP (mk 31 0 [0,1,2,4,5]) T fun X => Q e X H) =
  bO (ald false 1 H x2) fun v13 => bO (ald false 1 H x1) fun v14 => bO (aslS 1 v14 (some x4) none none) fun v16 => bO (alnS v16) fun v17 => bO (amm imn [v13,v17]) fun v18 => Q .normal [x0,x1,x2,x4,v18] H:=by kernel_rfl
theorem ch_p4 (x0 x1 x2 x4 x5 : AV) (H : AH) (Q : List AV→AH→Prop) : sOps Tryz.prog none0 none0 false chO (chO.toList.take 10) (expand (mk 31 0 [0,1,2,4,5]) [x0,x1,x2,x4,x5]) H (fun T H => fP (mk 31 0 [0,1,2,4,19,28]) T fun X => Q X H) =
  bO (ald false 1 H x1) fun v20 => bO (abI .add x4 x5) fun v24 => bO (abI .add x4 x5) fun v27 => bO (aslS 1 v20 (some x4) (some v24) (some v27)) fun v28 => Q [x0,x1,x2,x4,x0,v28] H:=by kernel_rfl
theorem ch_p5 (x0 x1 x2 x4 x19 x28 x29 : AV) (H : AH) (Q : List AV→AH→Prop) : sOps Tryz.prog none0 none0 false chO (chO.toList.drop 11) (aput (expand (mk 31 0 [0,1,2,4,19,28]) [x0,x1,x2,x4,x19,x28]) (some 29) x29) H (fun T H => fP (mk 31 0 [0,1,2,4,30]) T fun X => Q X H) =
  bO (aun .not x29) fun v30 => Q [x0,x1,x2,x4,v30] H:=by kernel_rfl
theorem ch_p2 (x0 x1 x2 x4 x30 : AV) (H : AH) (Q : Exit→List AV→AH→Prop) : chS [true,true,true,true,true] (expand (mk 31 0 [0,1,2,4,30]) [x0,x1,x2,x4,x30]) H (fun e T H => fP (mk 31 0 [0,1,2,4]) T fun X => Q e X H) =
  bO (ald false 1 H x2) fun v11 => bO (abI .add x4 v11) fun v12 => Q .normal [x0,x1,x2,v12] H:=by kernel_rfl
theorem ch_ops : chO.toList=chO.toList.take 10 ++ chY :: chO.toList.drop 11:=by kernel_rfl
noncomputable abbrev chA : Array TypeId:=match chY.op with
 | .call c => c.argTypes
 | _ => #[]
theorem ch_y : chY.op = .call { callee:=.value (.tmp 19),args:=#[.tmp 28],argTypes:=chA }∧chY.guard=none∧chY.dst=some 29:=⟨by kernel_rfl,by kernel_rfl,by kernel_rfl⟩
theorem ch_ok : codeOkU (flOf []) none0 none0 (sub [false] chB)=true∧codeOkU (flOf []) none0 none0 (sub [true,true,true,false,false] chB)=true∧codeOkU (flOf []) none0 none0 (sub [true,true,true,true,false,true,false] chB)=true∧codeOkU (flOf []) none0 none0 (sub [true,true,true,true,true] chB)=true:=⟨by kernel_rfl,by kernel_rfl,by kernel_rfl,by kernel_rfl⟩
def chX (s : AV) (len n j : Nat) : AV:=(aslS 1 s (some (I (j * n : Nat))) (some (I (j * n + min n (len - j * n) : Nat))) (some (I (j * n + min n (len - j * n) : Nat)))).getD undefA
def chN (len n : Nat) : Nat:=(len + n - 1) / n
def chL (s : AV) (len n : Nat) : List AV:=(List.range (chN len n)).map (chX s len n)
theorem chL_len (s : AV) (len n : Nat) : (chL s len n).length=chN len n:=by simp [chL]
theorem chN_lt {len n k : Nat} (hn : 0 < n) : k < chN len n ↔ k * n < len:=by
 unfold chN
 rw [show (k < (len + n - 1) / n)=(k + 1≤(len + n - 1) / n) from rfl,Nat.le_div_iff_mul_le hn,Nat.succ_mul]
 omega
theorem abnd_nat (a d : Nat) : abnd (some (I a)) d=some a:=by simp [abnd]
theorem imn_nat (a b : Nat) : imn (a : Int) b=((min a b : Nat) : Int):=by unfold imn; split <;> omega
theorem chunk_it {o1 o2 : Nat} {s : AV} {cs : List AV} {len n : Nat} (hn : 0 < n) (hn2 : n≤1099511627776) (hlen : len≤1099511627776) : IterOk Tryz.prog 72 [.ptr o1 0,.ptr o2 0] (fun H => H[o1]? = some (some (.cells [s]))∧H[o2]? = some (some (.cells [I n]))∧zaZ H 1 s=some (cs,len)) (chL s len n):=by
 have e31 : Tryz.f72.ntmps=31:=by kernel_rfl
 refine iter_of_body Tryz.func72 ch_body (by kernel_rfl) ?_
 intro l G0 rec T p H J X hrd hpd hps hT h0 hcap hr
 rw [e31,chL_len]
 generalize hY : (AV.lit (.func (.yield l) #[] #[]))=Y
 refine XCode.seqP (fl:=flOf []) (ql:=none0) (al:=none0) (un:=none0) (kp:=kpOf []) (n:=0) (keep:=mk 31 0 [0,1,2,4]) mixP ch_ok.1 (fun e T T' H he h => by cases e <;> first | exact absurd rfl he | exact h) ?_
 refine Eq.mpr (ch_p0 Y (.ptr o1 0) (.ptr o2 0) H _) ?_
 refine (?_ : XCode _ l G0 (.block 0 _) _ _ _ _)
 refine XCode.block ?_
 refine XCode.loop (fun m T H r => ∃ k,k + m=chN len n∧r=rec∧T.length=31∧proj (mk 31 0 [0,1,2,4]) T=[Y,.ptr o1 0,.ptr o2 0,I (k * n : Nat)]∧J k H) (chN len n) ⟨0,by omega,rfl,rfl,by simp [mk,proj,expand],h0⟩ ?_
 rintro m T H r ⟨k,hk,rfl,hl,hT2,hj⟩
 refine XCode.weak (keep:=mk 31 0 [0,1,2,4]) hl ?_
 rw [hT2]
 obtain ⟨c1,c2,c3⟩:=hcap k H hj
 have hkn:=chN_lt (len:=len) (k:=k) hn
 refine XCode.seq ?_
 refine XCode.seqP (fl:=flOf []) (ql:=none0) (al:=none0) (un:=none0) (kp:=kpOf []) (n:=0) (keep:=mk 31 0 [0,1,2,4,9]) mixP ch_ok.2.1 (fun e T T' H he h => by cases e <;> first | exact absurd rfl he | exact h) ?_
 refine Eq.mpr (ch_p1 Y (.ptr o1 0) (.ptr o2 0) _ H _) ?_
 have al : alnS s=some (I (len : Nat)):=zbxZ c3
 simp only [ald_ptr c1,zeZ,List.getElem?_cons_zero,bO_some,al,abI_lss]
 refine (?_ : XCode _ l G0 (.cond (.tmp 9) .skip (.exit 0)) _ _ _ _)
 refine XCode.cond (b:=decide (((k * n : Nat) : Int) < len)) rfl ?_
 by_cases h : k * n < len
 ·have hI : ((k * n : Nat) : Int) < (len : Int):=by omega
  simp only [hI,decide_true,if_true]
  refine XCode.skip ?_
  refine (?_ : XCode _ l G0 (.seq (.block 1 _) _) _ _ _ _)
  refine XCode.seq (XCode.block ?_)
  refine XCode.seqN (fl:=flOf []) (ql:=none0) (al:=none0) (un:=none0) (kp:=kpOf []) (n:=0) (keep:=mk 31 0 [0,1,2,4,5]) mixP ch_ok.2.2.1 ?_
  refine Eq.mpr (ch_p3 Y (.ptr o1 0) (.ptr o2 0) _ _ H _) ?_
  obtain ⟨r1,s1,s2,-⟩:=aslS_spec c3 (lo:=some (I (k * n : Nat))) (hi:=none) (l:=k * n) (k:=len) (abnd_nat _ _) rfl (by omega) (Nat.le_refl _)
  have al1 : alnS r1=some (I (len - k * n : Nat)):=zbxZ s2
  have hmin : amm imn [I n,I (len - k * n : Nat)]=some (I (min n (len - k * n) : Nat)):=by rw [amm_two,imn_nat]
  simp only [ald_ptr c2,ald_ptr c1,zeZ,List.getElem?_cons_zero,bO_some,s1,al1,hmin]
  refine ⟨by trivial, ?_⟩
  refine XCode.seq (XCode.region ?_)
  refine Eq.mpr (congrArg (fun L => XOps _ l G0 chO _ L _ _ _) ch_ops) ?_
  refine XOps.preP (ql:=none0) (al:=none0) (keep:=mk 31 0 [0,1,2,4,19,28]) ?_
  refine Eq.mpr (ch_p4 Y (.ptr o1 0) (.ptr o2 0) _ _ H _) ?_
  have hadd : abI .add (I (k * n : Nat)) (I (min n (len - k * n) : Nat))=some (I (k * n + min n (len - k * n) : Nat)):=by
   rw [abI_add (by omega) (by omega)]; congr 3
  have hlt : k * n < k * n + min n (len - k * n):=by omega
  obtain ⟨r2,t1,t2,-⟩:=aslS_max c3 hlt (show k * n + min n (len - k * n)≤len by omega)
  have hx : (chL s len n)[k]? = some r2:=by
   unfold chL
   rw [List.getElem?_map,List.getElem?_range (hkn.2 h)]
   show some (chX s len n k)=some r2
   unfold chX
   rw [t1]; rfl
  simp only [ald_ptr c1,zeZ,List.getElem?_cons_zero,bO_some,hadd,t1]
  refine XOps.yield ch_y.1 ch_y.2.1 hY.symm hrd hpd hps hT (hr k r2 H hx hj) ?_ ?_
  ·intro H' hj'
   rw [ch_y.2.2]
   obtain ⟨d1,d2,d3⟩:=hcap (k + 1) H' hj'
   refine Eq.mpr (congrArg (fun L => XOps _ l G0 chO _ L _ _ _) (List.append_nil _).symm) ?_
   refine XOps.preP (ql:=none0) (al:=none0) (keep:=mk 31 0 [0,1,2,4,30]) ?_
   refine Eq.mpr (ch_p5 Y (.ptr o1 0) (.ptr o2 0) _ _ _ _ H' _) ?_
   simp only [aun_not,bO_some,Bool.not_true]
   refine XOps.nil ?_
   refine (?_ : XCode _ l G0 (.cond (.tmp 30) .ret .skip) _ _ _ _)
   refine XCode.cond (b:=false) rfl ?_
   simp only [Bool.false_eq_true,if_false]
   refine XCode.skip ?_
   refine (?_ : XCode _ l G0 (sub [true,true,true,true,true] chB) _ _ _ _)
   refine XCode.of ((sCode_wp (fl:=flOf []) (ql:=none0) (al:=none0) (un:=none0) (kp:=kpOf []) mixP _ 0 _ _ _ ch_ok.2.2.2 (Eq.mpr (ch_p2 Y (.ptr o1 0) (.ptr o2 0) _ _ H' (fun e X H2 => e = .normal∧X=[Y,.ptr o1 0,.ptr o2 0,I ((k + 1) * n : Nat)]∧H2=H')) ?_)).mono ?_)
   ·have ha : abI .add (I (k * n : Nat)) (I n)=some (I ((k + 1) * n : Nat)):=by
     rw [abI_add (by omega) (by omega)]; congr 3; rw [Nat.succ_mul]; omega
    simp only [ald_ptr d2,zeZ,List.getElem?_cons_zero,bO_some,ha]
    exact ⟨by trivial,by trivial,by trivial⟩
   ·intro e T' H2 hk2
    obtain ⟨hl2,rfl,hX,rfl⟩:=fP_iff.1 hk2
    exact ⟨m - 1,by have:=hkn.2 h; omega,k + 1,by have:=hkn.2 h; omega,rfl,hl2,hX,hj'⟩
  ·intro c H' hx'
   rw [ch_y.2.2]
   refine Eq.mpr (congrArg (fun L => XOps _ l G0 chO _ L _ _ _) (List.append_nil _).symm) ?_
   refine XOps.preP (ql:=none0) (al:=none0) (keep:=mk 31 0 [0,1,2,4,30]) ?_
   refine Eq.mpr (ch_p5 Y (.ptr o1 0) (.ptr o2 0) _ _ _ _ H' _) ?_
   simp only [aun_not,bO_some,Bool.not_false]
   refine XOps.nil ?_
   refine (?_ : XCode _ l G0 (.cond (.tmp 30) .ret .skip) _ _ _ _)
   refine XCode.cond (b:=true) rfl ?_
   simp only [if_true]
   refine XCode.ret ?_
   exact ⟨.inr rfl,.inr ⟨c,rfl,hx'⟩⟩
 ·have hI : ¬ ((k * n : Nat) : Int) < (len : Int):=by omega
  simp only [hI,decide_false,Bool.false_eq_true,if_false]
  refine XCode.exit ?_
  have hkN : k=chN len n:=by
   have:=mt hkn.1 h
   omega
  exact ⟨.inl rfl,.inl ⟨rfl,by rw [← hkN]; exact hj⟩⟩
end Go.Proofs.YtlbilcpnjgkpjaaGreat.Av
end
section
namespace Go.Proofs.YtlbilcpnjgkpjaaGreat.Av
open Go Go.RowKit
theorem StAt.keep {s : StS} {os : Nat} {p : AV} {H H' : AH} (h : StAt s os p H) (k : ∀ j,j=os∨j ∈ idS p→H'[j]? = H[j]?) : StAt s os p H':=by
 obtain ⟨a,b,c,d,pv,h⟩:=h
 exact ⟨a,b,c,d,pv,by rw [k os (.inl rfl)]; exact h.obj,h.now,h.kept,h.pm,zbZ h.ps fun i q => k i (.inr q),h.po,h.pi,h.pc⟩
theorem StAt.os_lt {s : StS} {os : Nat} {p : AV} {H : AH} (h : StAt s os p H) : os < H.length:=by obtain ⟨a,b,c,d,pv,h⟩:=h; exact h.lt
theorem StAt.p_lt {s : StS} {os : Nat} {p : AV} {H : AH} (h : StAt s os p H) : ∀ j ∈ idS p,j < H.length:=by obtain ⟨a,b,c,d,pv,h⟩:=h; exact idS_lt h
theorem Chunk_c {H : AH} {v : AV} {cs : List AV} {m : Nat} (hv : zaZ H 1 v=some (cs,m)) (ho : oneA v=true) : BCall Tryz.prog 47 [v,I 4096] H (.fn (.func 72) [] [.ptr H.length 0,.ptr (H.length + 1) 0]) (H ++ [some (.cells [v]),some (.cells [I 4096])]):=by
 obtain ⟨r,H',⟨rfl,rfl⟩,hc⟩:=zlxZ (a0:=v) (a1:=I 4096) (H:=H) (K:=fun r H' => r = .fn (.func 72) [] [.ptr H.length 0,.ptr (H.length + 1) 0]∧H'=H ++ [some (.cells [v]),some (.cells [I 4096])]) (by
  unfold zenZ
  have e1 : anew H v=some (.ptr H.length 0,H ++ [some (.cells [v])]):=by unfold anew; rw [zbuZ ho]; rfl
  have e2 : anew (H ++ [some (.cells [v])]) (I 4096)=some (.ptr (H.length + 1) 0,H ++ [some (.cells [v]),some (.cells [I 4096])]):=by unfold anew; rw [zbuZ (v:=I 4096) rfl]; simp
  have c2 : (H ++ [some (AObj.cells [v]),some (.cells [I 4096])])[H.length + 1]? = some (some (.cells [I 4096])):=by simp
  simp only [e1,bH_some,e2,ald_ptr c2,zeZ,List.getElem?_cons_zero,bO_some,abI_lss,bB_bool,show ¬ (4096 : Int) < 1 by omega,decide_false,zlZ]
  exact ⟨by trivial,by trivial⟩)
 exact hc
def chunkB (b : List UInt8) : List (List UInt8):=(List.range (chN b.length 4096)).map fun j => (b.drop (j * 4096)).take (min 4096 (b.length - j * 4096))
def pcs (ino : Int) : List (List UInt8)→StS→Int→Int→(StS × Int × Int) × Int
 | [],s,at',sum => ((s,at',sum),0)
 | b :: r,s,at',sum =>
  if (writeS s ino at' b).1.2=0 then pcs ino r (writeS s ino at' b).2 (at' + (writeS s ino at' b).1.1) (sum + (writeS s ino at' b).1.1)
  else (((writeS s ino at' b).2,at' + (writeS s ino at' b).1.1,sum + (writeS s ino at' b).1.1),(writeS s ino at' b).1.2)
def lenB (l : List (List UInt8)) : Nat:=(l.map List.length).sum
theorem wrS_n {c : List Ext} {ino pos : Int} {b : List UInt8} : ∀ {l : List Sp} {s : StS},(∀ q ∈ l,pos≤q.pos∧0 < q.len∧q.len≤8∧q.pos + q.len≤pos + b.length)→0≤(wrS c ino pos b l s).1.1∧(wrS c ino pos b l s).1.1≤b.length
 | [],s,_ => by unfold wrS; simp only; omega
 | q :: r,s,hq => by
  have h1:=hq q (by simp)
  unfold wrS
  split
  ·simp only; omega
  ·split
   ·simp only; omega
   ·exact wrS_n fun x hx => hq x (by simp [hx])
theorem writeS_n (s : StS) (ino pos : Int) (b : List UInt8) : 0≤(writeS s ino pos b).1.1∧(writeS s ino pos b).1.1≤b.length:=by
 unfold writeS
 split
 ·simp only; omega
 ·split
  ·simp only; omega
  ·rename_i hf
   have hf:=Decidable.byContradiction hf
   exact wrS_n fun q hq => parts_in hf hq
end Go.Proofs.YtlbilcpnjgkpjaaGreat.Av
end
section
namespace Go.Proofs.YtlbilcpnjgkpjaaGreat.Av
open Go Go.RowKit
abbrev fwP : List Bool:=[true,true,false,true,false,false,true,true,false,false,true,true,false]
def pieceB (b : List UInt8) (j : Nat) : List UInt8:=(b.drop (j * 4096)).take (min 4096 (b.length - j * 4096))
theorem chunkB_get {b : List UInt8} {i : Nat} (h : i < chN b.length 4096) : (chunkB b)[i]? = some (pieceB b i):=by
 unfold chunkB
 rw [List.getElem?_map,List.getElem?_range h]; rfl
theorem chunkB_len (b : List UInt8) : (chunkB b).length=chN b.length 4096:=by simp [chunkB]
theorem chX_sl {H : AH} {v : AV} {b : List UInt8} {j : Nat} (hv : zaZ H 1 v=some (encB b,b.length)) (hj : j * 4096 < b.length) :
  zaZ H 1 (chX v b.length 4096 j)=some (encB (pieceB b j),(pieceB b j).length)∧∀ i ∈ idS (chX v b.length 4096 j),i ∈ idS v:=by
 obtain ⟨r,h1,h2,h3⟩:=aslS_max hv (l:=j * 4096) (k:=j * 4096 + min 4096 (b.length - j * 4096)) (by omega) (by omega)
 have e : chX v b.length 4096 j=r:=by unfold chX; rw [h1]; rfl
 rw [e]
 refine ⟨?_,h3⟩
 rw [h2 H hv]
 unfold pieceB
 rw [Nat.add_sub_cancel_left,List.length_take,List.length_drop]
 simp only [encB,List.map_take,List.map_drop]
 congr 2
 omega
structure Bd (NN : Nat) (rest : List (List UInt8)) (s : StS) (at' sum : Int) : Prop where
 w : ∃ M,SW M s∧M + 9 * lenB rest≤NN
 a : 0≤at'∧at' + lenB rest≤4611686018427387904
 s : 0≤sum∧sum + lenB rest≤4611686018427387904
theorem lenB_cons (b : List UInt8) (r : List (List UInt8)) : lenB (b :: r)=b.length + lenB r:=by simp [lenB]
end Go.Proofs.YtlbilcpnjgkpjaaGreat.Av
end
section
namespace Go.Proofs.YtlbilcpnjgkpjaaGreat.Av
open Go Go.RowKit
end Go.Proofs.YtlbilcpnjgkpjaaGreat.Av
end
section
namespace Go.Proofs.YtlbilcpnjgkpjaaGreat.Av
open Go Go.RowKit
end Go.Proofs.YtlbilcpnjgkpjaaGreat.Av
end
section
namespace Go.Proofs.YtlbilcpnjgkpjaaGreat.Av
open Go Go.RowKit
theorem pcs_w {ino : Int} : ∀ {l : List (List UInt8)} {N : Nat} {s : StS} {a m : Int},SW N s→SW (N + 9 * lenB l) (pcs ino l s a m).1.1
 | [],N,s,a,m,h => h
 | b :: r,N,s,a,m,h => by
  have h1:=writeS_w h ino a b
  rw [lenB_cons]
  unfold pcs
  split
  ·exact (pcs_w h1).mono (by omega)
  ·exact h1.mono (by omega)
def oneN (nm : List UInt8) (size : Int) (l : List Ext) : Img:=([⟨nm,1⟩],[⟨1,size,l⟩])
theorem oneN_w {nm : List UInt8} {size : Int} {l : List Ext} (hn : mayN nm) (h : mayC size l) : MayW (oneN nm size l).1 (oneN nm size l).2:=by
 refine ⟨by simp [oneN], ?_,by simp [oneN,srtK],by simp [oneN],by simp [oneN,srtK],by simpa [oneN] using h,by simp [oneN,hasK]⟩
 intro x hx
 simp only [oneN,List.mem_singleton] at hx
 subst hx
 exact ⟨hn,by simp only; omega,by simp only; omega⟩
theorem oneN_apply {nm : List UInt8} {size : Int} {l : List Ext} {o : OpM} {c : Cont} (hn : mayN nm) (h : mayC size l) (hk : o.kind=2) (hi : o.ino=1) (hc : chgC o ⟨1,size,l⟩=some c) : applyI (oneN nm size l).1 (oneN nm size l).2 o=oneN nm c.1 c.2:=by
 unfold applyI
 rw [if_pos (mayI_w.2 (oneN_w hn h)),if_neg (by omega),if_pos (by omega)]
 have e1 : atK Nd.ino (oneN nm size l).2 o.ino=some ⟨1,size,l⟩:=by rw [hi]; rfl
 have e2 : posK cmpI Nd.ino (oneN nm size l).2 o.ino=0:=by rw [hi]; rfl
 unfold chgD
 rw [e1]
 simp only [hc,e2]
 rfl
structure ON (nm : List UInt8) (cap : Int) (size : Int) (l : List Ext) (s : StS) : Prop where
 now : s.now=oneN nm size l
 nm : mayN nm
 mc : mayC size l
 cap : s.cap=cap
 off : s.off=false
 armed : s.armed = -1
theorem ON.content {nm : List UInt8} {cap size : Int} {l : List Ext} {s : StS} (h : ON nm cap size l s) : zbzZ s 1=((size,l),0):=by
 have hg : hasG s.now.1 s.now.2 1:=by
  rw [h.now]
  exact ⟨mayI_w.2 (oneN_w h.nm h.mc),by simp [oneN,hasK]⟩
 unfold zbzZ
 rw [if_neg (by rw [h.off]; simp),if_pos hg]
 have : getN s.now.1 s.now.2 1=⟨1,size,l⟩:=by
  unfold getN
  rw [if_pos hg,h.now]; rfl
 rw [this]
theorem ON.free {nm : List UInt8} {cap size : Int} {l : List Ext} {s : StS} (h : ON nm cap size l s) (hl : (l.length : Int) < cap) : freeS s ≠ 0:=by
 unfold freeS
 rw [h.cap,h.now]
 have : sumL (oneN nm size l).2=l.length:=by simp [sumL,oneN]
 rw [this]; omega
theorem ON.do {nm : List UInt8} {cap size : Int} {l : List Ext} {s : StS} (h : ON nm cap size l s) {p : Int} {bs : List UInt8} (hb : bs ≠ []) (hp : 0≤p) (hlen : bs.length≤4096) (hf : p≤1099511627776 - bs.length) :
  (doS s (opWr 1 p bs)).1=0∧ON nm cap (max size (p + bs.length)) (writeL l p bs) (doS s (opWr 1 p bs)).2:=by
 have hw : writeC (size,l) p bs=some (max size (p + bs.length),writeL l p bs):=by
  unfold writeC
  rw [if_pos ⟨h.mc,hp,hlen,hf⟩,if_neg hb]
 have hd : deedS s=(true,s):=by
  unfold deedS
  rw [if_neg (by rw [h.off,h.armed]; simp),if_neg (by rw [h.armed]; omega)]
 unfold doS
 rw [hd]
 refine ⟨rfl, ?_,h.nm,may_write hw,h.cap,h.off,h.armed⟩
 show applyI s.now.1 s.now.2 (opWr 1 p bs)=_
 rw [h.now]
 refine oneN_apply (o:=opWr 1 p bs) (c:=(max size (p + bs.length),writeL l p bs)) h.nm h.mc rfl rfl ?_
 show (if (2 : Int)=2 then writeC (size,l) p bs else _)=_
 rw [if_pos rfl,hw]
theorem chunkB_small {b : List UInt8} (h : b.length≤4096) : chunkB b=if b=[] then [] else [b]:=by
 unfold chunkB chN
 by_cases hb : b=[]
 ·subst hb; rfl
 ·have : 0 < b.length:=List.length_pos_iff.2 hb
  rw [if_neg hb,show (b.length + 4096 - 1) / 4096=1 by omega]
  simp
  rw [List.take_of_length_le (by omega)]
theorem chunks_small : ∀ {bl : List (AV × List UInt8)},(∀ x ∈ bl,x.2.length≤4096)→(bl.flatMap fun x => chunkB x.2).flatten=(bl.map Prod.snd).flatten∧(∀ b ∈ bl.flatMap fun x => chunkB x.2,b.length≤4096)∧lenB (bl.flatMap fun x => chunkB x.2)=((bl.map Prod.snd).flatten).length
 | [],_ => by simp [lenB]
 | x :: r,h => by
  obtain ⟨i1,i2,i3⟩:=chunks_small (bl:=r) fun y hy => h y (by simp [hy])
  have hx:=h x (by simp)
  have ec:=chunkB_small hx
  simp only [List.flatMap_cons,List.map_cons,List.flatten_cons,List.flatten_append,List.length_append]
  refine ⟨?_, ?_, ?_⟩
  ·rw [i1,ec]; split
   ·rename_i e; rw [e]; rfl
   ·simp
  ·intro b hb
   rw [List.mem_append] at hb
   rcases hb with hb | hb
   ·rw [ec] at hb
    split at hb
    ·simp at hb
    ·simp at hb; rw [hb]; exact hx
   ·exact i2 b hb
  ·have : lenB (chunkB x.2)=x.2.length:=by
    rw [ec]; split
    ·rename_i e; rw [e]; rfl
    ·simp [lenB]
   rw [← i3,← this]
   simp [lenB]
end Go.Proofs.YtlbilcpnjgkpjaaGreat.Av
end
section
namespace Go.Proofs.YtlbilcpnjgkpjaaGreat.Av
open Go Go.RowKit
end Go.Proofs.YtlbilcpnjgkpjaaGreat.Av
end
section
namespace Go.Proofs.YtlbilcpnjgkpjaaGreat.Av
open Go Go.RowKit
theorem nd_len {α : Type} [DecidableEq α] : ∀ {a b : List α},a.Nodup→(∀ x ∈ a,x ∈ b)→a.length≤b.length
 | [],_,_,_ => by simp
 | x :: a,b,hn,hs => by
  rw [List.nodup_cons] at hn
  have h1:=nd_len (a:=a) (b:=b.erase x) hn.2 fun y hy => (List.mem_erase_of_ne (fun e => hn.1 (by rw [← e]; exact hy))).2 (hs y (by simp [hy]))
  rw [List.length_erase_of_mem (hs x (by simp))] at h1
  have:=List.length_pos_of_mem (hs x (by simp))
  simp only [List.length_cons]; omega
theorem room_one {l : List Ext} {cap : Nat} {q : Int} (hs : srt l) (hl : ∀ no,hasL l no→0≤no∧no < cap) (hq : ¬ hasL l q) (h0 : 0≤q) (h1 : q < cap) : l.length + 1≤cap:=by
 have hn : (q :: l.map Ext.no).Nodup:=by
  rw [List.nodup_cons]
  refine ⟨fun hm => ?_, ?_⟩
  ·obtain ⟨x,hx,e⟩:=List.mem_map.1 hm
   exact hq ⟨x,hx,e⟩
  ·unfold List.Nodup
   rw [List.pairwise_map]
   exact List.Pairwise.imp (fun h e => by rw [e] at h; omega) hs
 have:=nd_len (b:=(List.range cap).map fun (i : Nat) => (i : Int)) hn (by
  intro x hx
  have hb : 0≤x∧x < cap:=by
   rcases List.mem_cons.1 hx with rfl | hx
   ·exact ⟨h0,h1⟩
   ·obtain ⟨y,hy,rfl⟩:=List.mem_map.1 hx
    exact hl y.no ⟨y,hy,rfl⟩
  exact List.mem_map.2 ⟨x.toNat,List.mem_range.2 (by omega),by omega⟩)
 simp only [List.length_cons,List.length_map,List.length_range] at this
 exact this
theorem ON.cutsR {nm : List UInt8} {cap : Nat} {c : List Ext} {pos : Int} {b : List UInt8} (hpos : 0≤pos) (hbl : b.length≤4096) (hf : pos + b.length≤8 * cap) (hcap : cap≤100000) : ∀ (f k : Nat) {size : Int} {l : List Ext} {s : StS},k≤b.length→b.length - k≤f→ON nm cap size l s→(∀ no,hasL l no→no < cap)→(k < b.length→∀ no,hasL l no→hasL c no∨no < (pos + k) / 8)→(k < b.length→0 < k→(pos + k) % 8=0) →
  ∃ s',wrS c 1 pos b (cutsS f (pos + k) (b.length - k : Nat) 8) s=(((b.length : Int),0),s')∧∃ size' l',ON nm cap size' l' s'∧l'=writeL l (pos + k) (b.drop k)∧size'=(if b.length - k=0 then size else max size (pos + b.length))
 | 0,k,size,l,s,hk,hfk,h,hc,hcl,hm => by
  have e : b.drop k=[]:=List.drop_of_length_le (by omega)
  refine ⟨s,by simp [cutsS,wrS],size,l,h,by rw [e]; rfl,by rw [if_pos (by omega)]⟩
 | f + 1,k,size,l,s,hk,hfk,h,hc,hcl,hm => by
  by_cases h0 : b.length - k=0
  ·have e : b.drop k=[]:=List.drop_of_length_le (by omega)
   refine ⟨s, ?_,size,l,h,by rw [e]; rfl,by rw [if_pos h0]⟩
   unfold cutsS
   rw [if_neg (by omega)]
   unfold wrS
   rfl
  ·have m1:=Int.emod_lt_of_pos (pos + k) (show (0 : Int) < 8 by omega)
   have m2:=Int.emod_nonneg (pos + k) (show (8 : Int) ≠ 0 by omega)
   obtain ⟨n,hn⟩ : ∃ n : Nat,min ((b.length - k : Nat) : Int) (8 - (pos + k) % 8)=n:=⟨(min ((b.length - k : Nat) : Int) (8 - (pos + k) % 8)).toNat,by omega⟩
   have n1 : 0 < n∧n≤8∧n≤b.length - k:=by omega
   unfold cutsS
   rw [if_pos (by omega),hn]
   have hpb : partB b pos ⟨pos + k,n⟩=(b.drop k).take n:=by
    unfold partB
    simp only
    rw [show (pos + k - pos).toNat=k by omega,show ((n : Int)).toNat=n by omega]
   have hbs : ((b.drop k).take n).length=n:=by rw [List.length_take,List.length_drop]; omega
   have hne : (b.drop k).take n ≠ []:=by intro q; rw [q] at hbs; simp at hbs; omega
   obtain ⟨d1,d2⟩:=h.do hne (p:=pos + k) (by omega) (by omega) (by omega)
   have hm2:=may_at.1 h.mc
   have hgo : ¬ (¬ hasL c ((pos + k) / 8)∧freeS s=0):=by
    rintro ⟨q1,q2⟩
    have hql : ¬ hasL l ((pos + k) / 8):=fun q => (hcl (by omega) _ q).elim q1 (fun q => by omega)
    have:=room_one (cap:=cap) hm2.2.2.1 (fun no q => ⟨(hm2.2.2.2.1 no q).1,hc no q⟩) hql (by omega) (by omega)
    exact h.free (by omega) q2
   unfold wrS
   rw [if_neg hgo,hpb]
   simp only
   rw [if_neg (by rw [d1]; simp)]
   rw [hbs] at d2
   obtain ⟨s',w1,size',l',w2,w3,w4⟩:=ON.cutsR (c:=c) hpos hbl hf hcap f (k + n) (by omega) (by omega) d2 (fun no q => by
    rcases wr_has.1 q with q | ⟨z,z1,z2,z3⟩
    ·exact hc no q
    ·rw [hbs] at z2; omega) (fun hlt no q => by
    rcases wr_has.1 q with q | ⟨z,z1,z2,z3⟩
    ·rcases hcl (by omega) no q with q | q
     ·exact .inl q
     ·exact .inr (by omega)
    ·rw [hbs] at z2
     exact .inr (by omega)) (by omega)
   refine ⟨s', ?_,size',l',w2, ?_, ?_⟩
   ·rw [show pos + (k : Int) + n=pos + (k + n : Nat) by omega,show ((b.length - k : Nat) : Int) - n=(b.length - (k + n) : Nat) by omega]
    exact w1
   ·rw [w3]
    conv => rhs; rw [← List.take_append_drop n (b.drop k)]
    rw [wr_app,hbs,List.drop_drop]
    congr 1
    omega
   ·rw [w4,if_neg h0]
    split <;> omega
theorem ON.writeR {nm : List UInt8} {cap : Nat} {size pos : Int} {l : List Ext} {s : StS} {b : List UInt8} (h : ON nm cap size l s) (hpos : 0≤pos) (hbl : b.length≤4096) (hf : pos + b.length≤8 * cap) (hcap : cap≤100000) (hc : ∀ no,hasL l no→no < cap) :
  ∃ s',writeS s 1 pos b=(((b.length : Int),0),s')∧∃ size' l',ON nm cap size' l' s'∧l'=writeL l pos b∧size'=(if b.length=0 then size else max size (pos + b.length)):=by
 unfold writeS
 rw [h.content,if_neg (by simp),if_neg (fun q => q ⟨hpos,hbl,by omega⟩)]
 have e : partsS ⟨pos,b.length⟩ 8=cutsS (b.length) pos b.length 8:=by
  unfold partsS
  rw [if_pos ⟨⟨by unfold May; simp only; omega,by unfold May; simp only; omega,by simp only; omega⟩,by simp only; omega,by omega⟩]
  show cutsS ((b.length : Int)).toNat pos b.length 8=_
  rw [show ((b.length : Int)).toNat=b.length by omega]
 rw [e]
 have:=ON.cutsR (c:=l) hpos hbl hf hcap b.length 0 (by omega) (by omega) h hc (fun _ no q => .inl q) (fun _ q => by omega)
 simpa using this
structure Txr (nm : List UInt8) (cap : Nat) (t : List UInt8) (s : StS) : Prop where
 h : ∃ l,ON nm cap t.length l s∧(∀ q : Nat,q < t.length→atL l q=t.getD q 0)∧∀ no,hasL l no→no * 8 < t.length
theorem Txr.write {nm : List UInt8} {cap : Nat} {t b : List UInt8} {s : StS} (h : Txr nm cap t s) (hbl : b.length≤4096) (hcap : cap≤100000) (hc : t.length + b.length≤8 * cap) :
  ∃ s',writeS s 1 t.length b=(((b.length : Int),0),s')∧Txr nm cap (t ++ b) s':=by
 obtain ⟨l,h1,h2,h3⟩:=h.h
 obtain ⟨s',w1,size',l',w2,w3,w4⟩:=h1.writeR (pos:=t.length) (b:=b) (by omega) hbl (by omega) hcap (fun no q => by have:=h3 no q; omega)
 refine ⟨s',w1,⟨l', ?_,fun q hq => ?_,fun no q => ?_⟩⟩
 ·have : size'=((t ++ b).length : Nat):=by
   rw [w4,List.length_append]; split <;> omega
  rw [← this]; exact w2
 ·rw [List.length_append] at hq
  rw [w3,wr_at (may_at.1 h1.mc).2.2.1]
  by_cases c : q < t.length
  ·rw [if_neg (by omega),h2 q c,List.getD_eq_getElem?_getD,List.getD_eq_getElem?_getD,List.getElem?_append_left c]
  ·rw [if_pos (by omega),List.getD_eq_getElem?_getD,List.getD_eq_getElem?_getD,List.getElem?_append_right (by omega),show ((q : Int) - t.length).toNat=q - t.length by omega]
 ·rw [List.length_append]
  rw [w3] at q
  rcases wr_has.1 q with q | ⟨z,z1,z2,z3⟩
  ·have:=h3 no q; omega
  ·omega
theorem Txr.read {nm : List UInt8} {cap : Nat} {t : List UInt8} {s : StS} (h : Txr nm cap t s) {pos n : Nat} (hp : pos≤t.length) (hn : n≤4096) (hl : t.length≤1000000000) : readS s 1 pos n=((t.drop pos).take n,0):=by
 obtain ⟨l,h1,h2,h3⟩:=h.h
 unfold readS
 rw [h1.content,if_neg (by simp),if_neg (by omega)]
 simp only
 congr 1
 unfold readC
 by_cases hi : inC t.length l pos n
 ·rw [if_pos hi]
  refine List.ext_getElem? fun i => ?_
  rw [zjgZ]
  by_cases c : i < n∧pos + i < t.length
  ·rw [if_pos (by omega),List.getElem?_take,if_pos c.1,List.getElem?_drop,show (pos : Int) + i=(pos + i : Nat) by omega,h2 _ c.2,List.getD_eq_getElem?_getD,List.getElem?_eq_getElem c.2]; rfl
  ·rw [if_neg (by omega),List.getElem?_take]
   split
   ·rw [List.getElem?_drop,List.getElem?_eq_none (by omega)]
   ·rfl
 ·rw [if_neg hi]
  have hge : t.length≤pos:=by
   rcases Nat.lt_or_ge pos t.length with c | c
   ·exact absurd ⟨h1.mc,by omega,by omega,by omega,by omega⟩ hi
   ·exact c
  rw [List.drop_of_length_le hge]; simp
theorem Txr.pcs {nm : List UInt8} {cap : Nat} (hcap : cap≤100000) : ∀ {l : List (List UInt8)} {t : List UInt8} {s : StS} {m : Int},Txr nm cap t s→(∀ b ∈ l,b.length≤4096)→t.length + lenB l≤8 * cap →
  ∃ s',Av.pcs 1 l s t.length m=((s',(((t ++ l.flatten).length : Nat) : Int),m + lenB l),(0 : Int))∧Txr nm cap (t ++ l.flatten) s'
 | [],t,s,m,h,_,_ => ⟨s,by simp [Av.pcs,lenB],by simpa using h⟩
 | b :: r,t,s,m,h,hb,hc => by
  rw [lenB_cons] at hc
  obtain ⟨s1,w1,w2⟩:=h.write (hb b (by simp)) hcap (by omega)
  obtain ⟨s2,p1,p2⟩:=Txr.pcs hcap (l:=r) (m:=m + b.length) w2 (fun x hx => hb x (by simp [hx])) (by rw [List.length_append]; omega)
  refine ⟨s2, ?_,by simpa using p2⟩
  unfold Av.pcs
  rw [w1]
  simp only [if_true]
  rw [show (t.length : Int) + b.length=((t ++ b).length : Nat) by rw [List.length_append]; omega,p1,lenB_cons]
  simp only [List.append_assoc,List.flatten_cons,Prod.mk.injEq,and_true,true_and]
  omega
structure KP (s : StS) : Prop where
 f : s.pend.foldl (fun p o => applyI p.1 p.2 o) s.kept=s.now
 st : ∀ o ∈ s.pend,staysO [1] o
theorem KP.deed {s : StS} (h : KP s) : KP (deedS s).2:=by
 obtain ⟨e1,e2,e3,-,-⟩:=zmmZ s
 exact ⟨by rw [e1,e2,e3]; exact h.f,by rw [e3]; exact h.st⟩
theorem KP.do {s : StS} (h : KP s) {o : OpM} (ho : staysO [1] o) : KP (doS s o).2:=by
 obtain ⟨e1,e2,e3,-,-⟩:=zmmZ s
 unfold doS
 split
 ·refine ⟨?_,fun x hx => ?_⟩
  ·show (s.pend ++ [o]).foldl (fun p o => applyI p.1 p.2 o) (deedS s).2.kept=applyI s.now.1 s.now.2 o
   rw [e2,List.foldl_append,h.f]; rfl
  ·have hx : x ∈ s.pend ++ [o]:=hx
   simp only [List.mem_append,List.mem_singleton] at hx
   rcases hx with hx | rfl
   ·exact h.st x hx
   ·exact ho
 ·exact h.deed
theorem stays_one {o : OpM} (h : o.ino=1) : staysO [1] o:=.inr (.inr (.inr (by simp [h])))
theorem wrS_kp {c : List Ext} {pos : Int} {b : List UInt8} : ∀ {l : List Sp} {s : StS},KP s→KP (wrS c 1 pos b l s).2
 | [],s,h => h
 | q :: r,s,h => by
  have hd:=h.do (o:=opWr 1 q.pos (partB b pos q)) (stays_one rfl)
  unfold wrS
  split
  ·exact h
  ·split
   ·exact hd
   ·exact wrS_kp hd
theorem writeS_kp {s : StS} (h : KP s) (pos : Int) (b : List UInt8) : KP (writeS s 1 pos b).2:=by
 unfold writeS
 split
 ·exact h
 ·split
  ·exact h
  ·exact wrS_kp h
theorem pcs_kp : ∀ {l : List (List UInt8)} {s : StS} {a m : Int},KP s→KP (Av.pcs 1 l s a m).1.1
 | [],s,a,m,h => h
 | b :: r,s,a,m,h => by
  have h1:=writeS_kp h a b
  unfold Av.pcs
  split
  ·exact pcs_kp h1
  ·exact h1
theorem truncS_kp {s : StS} (h : KP s) (size : Int) : KP (truncS s 1 size).2:=by
 unfold truncS
 split
 ·exact h
 ·split
  ·exact h
  ·exact h.do (stays_one rfl)
theorem syncF_all {l : List Int} : ∀ {r : List OpM} {x : Img × List OpM},(∀ o ∈ r,staysO l o)→syncF l r x=(r.foldl (fun p o => applyI p.1 p.2 o) x.1,x.2)
 | [],x,_ => rfl
 | o :: r,x,h => by
  unfold syncF
  rw [if_pos (h o (by simp)),syncF_all fun z hz => h z (by simp [hz])]
  rfl
theorem KP.sync {s : StS} (h : KP s) (ho : s.off=false) (ha : s.armed = -1) : syncS s [1]=(0,{ s with kept:=s.now,pend:=[] }):=by
 have hd : deedS s=(true,s):=by
  unfold deedS
  rw [if_neg (by rw [ho,ha]; simp),if_neg (by rw [ha]; omega)]
 unfold syncS
 rw [hd,syncF_all h.st]
 simp only [if_true,h.f]
def putS (s : StS) (nm : List UInt8) (l : List (List UInt8)) : Int × StS :=
 if (openS s nm true).1.2 ≠ 0 then ((openS s nm true).1.2,(openS s nm true).2)
 else if (truncS (openS s nm true).2 (openS s nm true).1.1 0).1 ≠ 0 then truncS (openS s nm true).2 (openS s nm true).1.1 0
 else if (Av.pcs (openS s nm true).1.1 l (truncS (openS s nm true).2 (openS s nm true).1.1 0).2 0 0).2 ≠ 0 then ((Av.pcs (openS s nm true).1.1 l (truncS (openS s nm true).2 (openS s nm true).1.1 0).2 0 0).2,(Av.pcs (openS s nm true).1.1 l (truncS (openS s nm true).2 (openS s nm true).1.1 0).2 0 0).1.1)
 else syncS (Av.pcs (openS s nm true).1.1 l (truncS (openS s nm true).2 (openS s nm true).1.1 0).2 0 0).1.1 [(openS s nm true).1.1]
theorem Txr.trunc {nm : List UInt8} {cap : Nat} {t : List UInt8} {s : StS} (h : Txr nm cap t s) : ∃ s',truncS s 1 0=(0,s')∧Txr nm cap [] s':=by
 obtain ⟨l,h1,h2,h3⟩:=h.h
 have hm:=may_at.1 h1.mc
 have ht : truncC ((t.length : Int),l) 0=some (0,[]):=by
  unfold truncC
  rw [if_pos ⟨h1.mc,by omega,by omega⟩]
  have : l.filter (fun x => decide (x.no * 8 < (0 : Int)))=[]:=by
   rw [List.filter_eq_nil_iff]
   intro x hx
   have:=(hm.2.2.2.1 x.no ⟨x,hx,rfl⟩).1
   simp only [decide_eq_true_eq]; omega
  simp only [truncL,this,wipeL,List.map_nil]
 have hd : deedS s=(true,s):=by
  unfold deedS
  rw [if_neg (by rw [h1.off,h1.armed]; simp),if_neg (by rw [h1.armed]; omega)]
 have hap : applyI s.now.1 s.now.2 (opTr 1 0)=oneN nm 0 []:=by
  rw [h1.now]
  unfold applyI
  rw [if_pos (mayI_w.2 (oneN_w h1.nm h1.mc)),if_neg (by simp [opTr]),if_pos (by simp [opTr])]
  have e1 : atK Nd.ino (oneN nm t.length l).2 (opTr 1 0).ino=some ⟨1,t.length,l⟩:=rfl
  have e2 : posK cmpI Nd.ino (oneN nm t.length l).2 (opTr 1 0).ino=0:=rfl
  have e3 : chgC (opTr 1 0) ⟨1,(t.length : Int),l⟩=some (0,[]):=by
   show (if (3 : Int)=2 then _ else if (3 : Int)=3 then truncC ((t.length : Int),l) 0 else _)=_
   rw [if_neg (by omega),if_pos rfl,ht]
  unfold chgD
  rw [e1]
  simp only [e3,e2]
  rfl
 unfold truncS
 rw [h1.content,if_neg (by simp),if_neg (by rw [ht]; simp)]
 unfold doS
 rw [hd]
 refine ⟨_,rfl,⟨[],⟨hap,h1.nm,by decide,h1.cap,h1.off,h1.armed⟩,by simp,by simp [hasL]⟩⟩
structure Done (s : StS) : Prop where
 k : s.kept=s.now
 p : s.pend=[]
theorem put_done {nm : List UInt8} {cap : Nat} {t : List UInt8} {s : StS} {l : List (List UInt8)} (h1 : (openS s nm true).1=(1,0)) (h2 : Txr nm cap t (openS s nm true).2) (h3 : KP (openS s nm true).2) (hcap : cap≤100000) (hb : ∀ b ∈ l,b.length≤4096) (hl : lenB l≤8 * cap) :
  ∃ s',putS s nm l=(0,s')∧Txr nm cap l.flatten s'∧Done s':=by
 obtain ⟨s1,t1,t2⟩:=h2.trunc
 have k1:=truncS_kp h3 0
 rw [t1] at k1
 obtain ⟨s2,p1,p2⟩:=Txr.pcs hcap (l:=l) (m:=0) t2 hb (by simpa using hl)
 have k2:=pcs_kp (l:=l) (a:=0) (m:=0) k1
 have p1' : Av.pcs 1 l s1 0 0=_:=p1
 rw [p1'] at k2
 rw [List.nil_append] at p2
 obtain ⟨ll,q1,q2,q3⟩:=p2.h
 have hs:=k2.sync q1.off q1.armed
 unfold putS
 rw [h1]
 simp only [ne_eq,not_true_eq_false,if_false,t1,p1']
 refine ⟨_,hs,⟨ll,⟨q1.now,q1.nm,q1.mc,q1.cap,q1.off,q1.armed⟩,q2,q3⟩,rfl,rfl⟩
end Go.Proofs.YtlbilcpnjgkpjaaGreat.Av
end
