/- The law and its row. No condition. -/
import Derived.Test.YtijoffokpjbnjaaMiB
set_option linter.unusedVariables false
set_option linter.unusedSimpArgs false
section
namespace Go.Proofs.Ytijoffokpjbnjaa.Av
open Go Go.RowKit
def fL:List AV→(List AV→Prop)→Prop
 | [],K=>K []
 | a::l,K=>fL l λl'=>K (a::l')
theorem KB:∀(l:List AV) (K:List AV→Prop),fL l K=K l
 | [],K=>rfl
 | a::l,K=>by simp only[fL,KB l]
def Oe (T:List AV)(d:Option Tmp)(r:AV)(K:List AV→Prop):Prop:=match d with
 | some d=>fL (T.set d r) K
 | none=>K T
theorem D7 (T:List AV)(d:Option Tmp)(r:AV)(K:List AV→Prop):Oe T d r K=K (Bp T d r):=by
 cases d with
 | none=>rfl
 | some d=>simp only[Oe,KB,Bp]
def FV (ops:Array Oper)(T:List AV)(o:Oper)(K:Bool→Prop):Prop:=match o.guard with
 | none=>K true
 | some (j,want)=>match (ops[j]?).bind (·.dst)with
  | some d=>match T[d]? with
   | some v=>bG v want K
   | none=>False
  | none=>False
theorem C0 {ops:Array Oper}{T:List AV}{o:Oper}{K:Bool→Prop}(h:FV ops T o K):∃w,A0 ops T o=some w∧K w∧∀K2:Bool→Prop,K2 w→FV ops T o K2:=by
 unfold FV at h⊢;unfold A0 Hw;split at h
 ·rename_i hg
  simp only[hg];exact⟨true,rfl,h,λ_ h=>h⟩
 ·rename_i j want hg
  simp only[hg];split at h
  ·rename_i d hd
   simp only[hd];split at h
   ·rename_i v hv
    simp only[hv];unfold bG at h⊢;split at h
    ·rename_i b
     refine⟨b==want,?_,h,λ_ h=>h⟩;cases b<;>cases want<;>rfl
    ·rename_i v' hne
     refine⟨false,?_,h,λK2 h2=>?_⟩
     ·cases v'<;>first
       | rfl
       | exact absurd rfl (hne _)
     ·cases v'<;>first
       | exact h2
       | exact absurd rfl (hne _)
    ·exact h.elim
   ·exact h.elim
  ·exact h.elim
section
variable {P : Program}
def Ir (P:Program)(ql al:FuncId→Bool)(dr:Bool)(ops:Array Oper):List Oper→List AV→AH→(List AV→AH→Prop)→Prop
 | [],T,H,K=>K T H
 | o::l,T,H,K=>FV ops T o λw=>FS P ql al dr (Au T) H o w λr H'=>Oe T o.dst r λT'=>Ir P ql al dr ops l T' H' K
theorem StepR.walk {ql:FuncId→Bool}{dr:Bool}{ops:Array Oper}{T:List AV}{H H':AH}{o:Oper}{l:List Oper}{w:Bool}{r:AV}{K:List AV→AH→Prop}(hs:StepR P ql dr (Au T) H o w r H')(hw:A0 ops T o=some w)(h:FD P ql dr ops l (Bp T o.dst r) H' K):FD P ql dr ops (o::l) T H K:=by
 unfold FD;rw[hw];rcases hs with⟨rfl,ho | ⟨ho,hc⟩⟩ | ⟨rfl,rfl,rfl⟩
 ·simp only[ho];exact h
 ·simp only[ho];exact⟨r,H',hc,h⟩
 ·exact h
theorem StepR.walkD {ql:FuncId→Bool}{ops:Array Oper}{H0:AH}{fl:List (Nat×Option Nat)}{T:List AV}{H H':AH}{o:Oper}{l:List Oper}{w:Bool}{r:AV}{lg:List (List AV×AH×AV)}{K:List AV→AH→Prop}(hs:StepR P ql true (Au T) H o w r H')(hw:A0 ops T o=some w)(h:EL P ql ops H0 fl l (Bp T o.dst r) H' ((T,H',r)::lg) K):EL P ql ops H0 fl (o::l) T H lg K:=by
 unfold EL;rw[hw];rcases hs with⟨rfl,ho | ⟨ho,hc⟩⟩ | ⟨rfl,rfl,rfl⟩
 ·simp only[ho];exact h
 ·simp only[ho];exact⟨r,H',hc,h⟩
 ·exact h
theorem EE {ql:FuncId→Bool}{dr:Bool}{ops:Array Oper}:∀(l:List Oper) (T:List AV) (H:AH) (K:List AV→AH→Prop),Ir P ql Ai dr ops l T H K→
  ∃T' H',K T' H'∧(∀K2:List AV→AH→Prop,K2 T' H'→FD P ql dr ops l T H K2)∧∀K2:List AV→AH→Prop,K2 T' H'→Ir P ql Ai dr ops l T H K2
 | [],T,H,K,h=>⟨T,H,h,λ_ h=>h,λ_ h=>h⟩
 | o::l,T,H,K,h=>by
  unfold Ir at h;obtain⟨w,hw,h,hw2⟩:=C0 h;obtain⟨r,H1,h,hs,h2⟩:=FT h;rw[D7]at h;obtain⟨T',H',hk,h3,h4⟩:=EE l _ _ K h;refine⟨T',H',hk,λK2 hk2=>hs.walk hw (h3 K2 hk2),λK2 hk2=>?_⟩;unfold Ir;refine hw2 _ (h2 _ ?_);rw[D7];exact h4 K2 hk2
theorem Ml {ql al:FuncId→Bool}{ops:Array Oper}:∀(l:List Oper) (T:List AV) (H:AH) (K:List AV→AH→Prop),Ir P ql al true ops l T H K→Ir P ql Ai true ops l T H K
 | [],T,H,K,h=>h
 | o::l,T,H,K,h=>by
  unfold Ir at h⊢;obtain⟨w,hw,h,hw2⟩:=C0 h;obtain⟨r,H1,h,hs,h2⟩:=FT (N6 h);rw[D7]at h;refine hw2 _ (h2 _ ?_);rw[D7];exact Ml l _ _ K h
theorem Lb {ql al:FuncId→Bool}{ops:Array Oper}{Q:AQ}:∀(l:List Oper) (T:List AV) (H:AH) (K:List AV→AH→Prop),(∀T' H',K T' H'→Q .normal T' H')→Ir P ql al false ops l T H K→AOps P ops Q l T H
 | [],T,H,K,hq,h=>AOps.nil (hq _ _ h)
 | o::l,T,H,K,hq,h=>by
  unfold Ir at h;obtain⟨w,hw,h,-⟩:=C0 h;exact Ow hw h λr H' hk=>Lb l _ _ K hq (by rwa[D7]at hk)
def Ps (P:Program)(ρ:Operand→AV)(H:AH)(o:Oper)(v:AV):Prop:=
 match o.op with
 | .load t a=>match Is P t,AC P t with
  | some g,some n=>Ak g n H (ρ a)=some v
  | _,_=>False
 | .convert s d x=>match Mb P s d with
  | some .ofB=>Q6 H (ρ x)=some v
  | _=>False
 | .lookup t x k co=>match L6 P t with
  | some (d,z)=>NG d z H (ρ x) (ρ k) co=some v
  | none=>False
 | .slice t x lo hi none=>match Ja P t with
  | some (.arr n sz)=>NY n sz H (ρ x) (lo.map ρ) (hi.map ρ)=some v
  | some (.sl sz)=>NZ sz (ρ x) (lo.map ρ) (hi.map ρ) none=some v
  | some .str=>Oa (ρ x) (lo.map ρ) (hi.map ρ)=some v
  | none=>False
 | .call {callee:=.builtin .len,args:=⟨[x]⟩,argTypes:=⟨[t]⟩}=>match M8 P t with
  | some .sl=>Bm (ρ x)=some v
  | some .str=>Hr (ρ x)=some v
  | some .mp=>Lq H (ρ x)=some v
  | some (.arr n)=>some (.lit (.int .i64 n))=some v
  | none=>False
 | .call {callee:=.builtin .min,args,argTypes:=_}=>amm O7 (args.toList.map ρ)=some v
 | .call {callee:=.builtin .max,args,argTypes:=_}=>amm O8 (args.toList.map ρ)=some v
 | _=>False
def Pq (P:Program)(ops:Array Oper)(H0:AH)(lg:List (List AV×AH×AV)):List (Nat×Option Nat)→Prop→Prop
 | [],K=>K
 | (i,c)::r,K=>match ops[i]?,lg[i]? with
  | some o,some (Ti,_,v)=>(FV ops Ti o λw=>bI w (Ps P (Au Ti) (match c with
   | some c=>((lg[c]?).map (·.2.1)).getD []
   | none=>H0) o v) True)∧Pq P ops H0 lg r K
  | _,_=>False
theorem Oq {ρ:Operand→AV}{H:AH}{o:Oper}{v:AV}(h:Ps P ρ H o v):(AT P ρ H o).map Prod.fst=some v:=by
 obtain⟨dst,op,type,pos,after,guard⟩:=o;unfold Ps at h;split at h
 ·rename_i t a hop
  simp only at hop;subst hop;split at h
  ·rename_i g n hg hn
   simp[AT,Lp hg hn,h]
  ·exact h.elim
 ·rename_i s d x hop
  simp only at hop;subst hop;split at h
  ·rename_i hc
   obtain⟨h1,e,h2,h3⟩:=E0 hc;unfold Q6 at h;split at h
   ·cases h
   ·rename_i hx
    have:BV P H s d (ρ x)=some v:=by
     unfold BV;simp only[h1,h2];split at h
     ·rename_i cs n hs
      simp only[h3,hs];exact h
     ·cases h
    simp[AT,this]
  ·exact h.elim
 ·rename_i t x k co hop
  simp only at hop;subst hop;split at h
  ·rename_i d z hl
   obtain⟨key,elem,h1,h2,h3⟩:=Hb hl;unfold NG at h;simp only[AT,GC,h1];split at h
   ·rename_i es kv he hk
    simp only[he,hk,h2,h3];exact congrArg (λq=>Option.map Prod.fst (Option.map (λv=>(v,H)) q)) h
   ·cases h
  ·exact h.elim
 ·rename_i t x lo hi hop
  simp only at hop;subst hop;split at h
  ·rename_i n sz hl
   obtain⟨e,h1,h2⟩:=CZ hl;unfold NY at h;simp only[AT,ER,h1,h2,S3];exact congrArg (λq=>Option.map Prod.fst (Option.map (λv=>(v,H)) q)) h
  ·rename_i sz hl
   obtain⟨e,h1,h2⟩:=CZ hl;unfold NZ at h;simp only[AT,ER,h1,h2,S3];split at h
   ·rename_i hx;rw[hx];exact congrArg (λq=>Option.map Prod.fst (Option.map (λv=>(v,H)) q)) h
   ·rename_i hx;rw[hx];exact congrArg (λq=>Option.map Prod.fst (Option.map (λv=>(v,H)) q)) h
   ·rename_i hx;rw[hx];exact congrArg (λq=>Option.map Prod.fst (Option.map (λv=>(v,H)) q)) h
   ·rename_i hx;rw[hx];exact congrArg (λq=>Option.map Prod.fst (Option.map (λv=>(v,H)) q)) h
   ·cases h
  ·rename_i hl
   have h1:=CZ hl;unfold Oa at h;split at h
   ·rename_i s hs
    simp only[AT,ER,h1,hs,S3];exact congrArg (λq=>Option.map Prod.fst (Option.map (λv=>(v,H)) q)) h
   ·cases h
  ·exact h.elim
 ·rename_i x t hop
  simp only at hop;subst hop;split at h
  ·rename_i hl
   obtain⟨e,hl'⟩:=Cv hl;unfold Bm at h;split at h<;>first
    | (cases h;done)
    | (injection h with h;subst h;rename_i hx;simp[AT,Ap,Hq,hl',hx])
  ·rename_i hl
   have hl':=Cv hl;unfold Hr at h;split at h
   ·rename_i hx;injection h with h;subst h
    simp[AT,Ap,Hq,hl',hx]
   ·cases h
  ·rename_i hl
   obtain⟨k,e,hl'⟩:=Cv hl;unfold Lq at h;split at h
   ·rename_i hx;injection h with h;subst h
    simp[AT,Ap,Hq,hl',hx]
   ·rename_i hx
    split at h
    ·rename_i es hes
     injection h with h;subst h;simp[AT,Ap,Hq,hl',GE,hx,hes]
    ·cases h
   ·cases h
  ·rename_i n hl
   obtain⟨e,hl'⟩:=Cv hl;injection h with h;subst h;simp[AT,Ap,Hq,hl']
  ·exact h.elim
 ·rename_i args ats hop
  simp only at hop;subst hop;simp[AT,Ap,h]
 ·rename_i args ats hop
  simp only at hop;subst hop;simp[AT,Ap,h]
 ·exact h.elim
theorem N4 {ops:Array Oper}{H0:AH}{lg:List (List AV×AH×AV)}:∀{fl:List (Nat×Option Nat)} {K:Prop},Pq P ops H0 lg fl K→FloatsOk P ops H0 lg fl∧K
 | [],K,h=>⟨trivial,h⟩
 | (i,c)::r,K,h=>by
  unfold Pq at h;unfold FloatsOk;split at h
  ·rename_i o Ti H1 v ho hl
   simp only[ho,hl];obtain⟨h,h2⟩:=h;obtain⟨w,hw,h1,-⟩:=C0 h;obtain⟨h3,h4⟩:=N4 h2;cases w with
   | true=>exact⟨⟨λ_=>Oq h1,h3⟩,h4⟩
   | false=>exact⟨⟨λhh=>absurd (hw.symm.trans hh) (by simp),h3⟩,h4⟩
  ·exact h.elim
theorem OD {ops:Array Oper}{H0:AH}{lg:List (List AV×AH×AV)}:∀{fl:List (Nat×Option Nat)} {K K2:Prop},Pq P ops H0 lg fl K→K2→Pq P ops H0 lg fl K2
 | [],K,K2,h,h2=>h2
 | (i,c)::r,K,K2,h,h2=>by
  unfold Pq at h⊢;split at h
  ·exact⟨h.1,OD h.2 h2⟩
  ·exact h.elim
def Hi (P:Program)(ql al:FuncId→Bool)(ops:Array Oper)(H0:AH)(fl:List (Nat×Option Nat)):List Oper→List AV→AH→List (List AV×AH×AV)→(List AV→AH→Prop)→Prop
 | [],T,H,lg,K=>Pq P ops H0 lg.reverse fl (K T H)
 | o::l,T,H,lg,K=>FV ops T o λw=>FS P ql al true (Au T) H o w λr H'=>Oe T o.dst r λT'=>Hi P ql al ops H0 fl l T' H' ((T,H',r)::lg) K
theorem FU {ql:FuncId→Bool}{ops:Array Oper}{H0:AH}{fl:List (Nat×Option Nat)}:∀(l:List Oper) (T:List AV) (H:AH) (lg:List (List AV×AH×AV)) (K:List AV→AH→Prop),Hi P ql Ai ops H0 fl l T H lg K→
  ∃T' H',K T' H'∧(∀K2:List AV→AH→Prop,K2 T' H'→EL P ql ops H0 fl l T H lg K2)∧∀K2:List AV→AH→Prop,K2 T' H'→Hi P ql Ai ops H0 fl l T H lg K2
 | [],T,H,lg,K,h=>by
  obtain⟨h1,h2⟩:=N4 h;exact⟨T,H,h2,λK2 hk=>⟨h1,hk⟩,λK2 hk=>OD (K:=K T H) h hk⟩
 | o::l,T,H,lg,K,h=>by
  unfold Hi at h;obtain⟨w,hw,h,hw2⟩:=C0 h;obtain⟨r,H1,h,hs,h2⟩:=FT h;rw[D7]at h;obtain⟨T',H',hk,h3,h4⟩:=FU l _ _ _ K h;refine⟨T',H',hk,λK2 hk2=>hs.walkD hw (h3 K2 hk2),λK2 hk2=>?_⟩;unfold Hi;refine hw2 _ (h2 _ ?_);rw[D7];exact h4 K2 hk2
theorem La {ql al:FuncId→Bool}{ops:Array Oper}{H0:AH}{fl:List (Nat×Option Nat)}:∀(l:List Oper) (T:List AV) (H:AH) (lg:List (List AV×AH×AV)) (K:List AV→AH→Prop),Hi P ql al ops H0 fl l T H lg K→Hi P ql Ai ops H0 fl l T H lg K
 | [],T,H,lg,K,h=>h
 | o::l,T,H,lg,K,h=>by
  unfold Hi at h⊢;obtain⟨w,hw,h,hw2⟩:=C0 h;obtain⟨r,H1,h,hs,h2⟩:=FT (N6 h);rw[D7]at h;refine hw2 _ (h2 _ ?_);rw[D7];exact La l _ _ _ K h
abbrev Kf:=Exit→List AV→AH→Prop
def HK:List Bool→List AV→List AV
 | true::k,v::T=>v::HK k T
 | false::k,_::T=>HK k T
 | _,_=>[]
def AS:List Bool→List AV→List AV
 | true::k,v::X=>v::AS k X
 | true::k,[]=>.junk::AS k []
 | false::k,X=>.junk::AS k X
 | [],_=>[]
theorem Cz {G:Cfg}:∀{keep:List Bool} {T:List AV} {vs:List Value},T.length=keep.length→VRs G T vs→VRs G (AS keep (HK keep T)) vs
 | [],[],vs,_,h=>by simpa only[AS,HK]using h
 | true::k,v::T,vs,hl,h=>by
  simp only[VRs]at h;obtain⟨u,r,rfl,h1,h2⟩:=h;simp only[HK,AS];exact .cons h1 (Cz (by simpa using hl) h2)
 | false::k,v::T,vs,hl,h=>by
  simp only[VRs]at h;obtain⟨u,r,rfl,h1,h2⟩:=h;simp only[HK]
  have:=Cz (keep:=k) (by simpa using hl) h2
  rw[show AS (false::k) (HK k T)=.junk::AS k (HK k T) by cases HK k T<;>rfl];exact .cons (by simp only[VR]) this
theorem ACode.weak {c:Code}{Q:AQ}{T T2:List AV}{H:AH}(hw:∀G a,FR G T a→FR G T2 a)(h:ACode P c Q T2 H):ACode P c Q T H:=
 λG0 G a ρ hE hF hd hH=>h G0 G a ρ hE (hw G a hF) hd hH
theorem BCode.weak {c:Code}{keep:List Bool}{T T':List AV}{H H':AH}{e:Exit}(hl:T.length=keep.length)(h:BCode P c (AS keep (HK keep T)) H e T' H'):BCode P c T H e T' H':=
 ACode.weak (λ_ _ hF=>Cz hl hF) h
theorem BRounds.weak {b:Code}{keep:List Bool}{T T':List AV}{H H':AH}{e:Exit}(hl:T.length=keep.length):∀{n:Nat},BRounds P b e T' H' n (AS keep (HK keep T)) H→BRounds P b e T' H' n T H
 | 0,h=>h.elim
 | n+1,h=>by
  rcases h with⟨T1,H1,h1,h2⟩ | ⟨h1,h2⟩
  ·exact .inl ⟨T1,H1,h1.weak hl,h2⟩
  ·exact .inr ⟨h1,h2.weak hl⟩
def fP (keep:List Bool)(T:List AV)(K:List AV→Prop):Prop:=match Nat.beq T.length keep.length with
 | true=>fL (HK keep T) K
 | false=>False
theorem BP {keep:List Bool}{T:List AV}{K:List AV→Prop}:fP keep T K↔T.length=keep.length∧K (HK keep T):=by
 unfold fP
 split
 ·rename_i h;rw[KB];exact⟨λhk=>⟨RY h,hk⟩,And.right⟩
 ·rename_i h;exact⟨False.elim,λhk=>by have:=hk.1;rw[this]at h;simp at h⟩
def Cw (body:List AV→AH→Kf→Prop)(K:Kf):Kf:=λe T H=>match e with
 | .normal=>body T H K
 | e=>K e T H
def Cp (id:Nat)(K:Kf):Kf:=λe T H=>match e with
 | .exit j=>match Nat.beq j id with
  | true=>K .normal T H
  | false=>K (.exit j) T H
 | e=>K e T H
def NI (keep:List Bool)(R:List AV→AH→Prop)(K:Kf):Kf:=λe T H=>match e with
 | .normal=>fP keep T λX=>R X H
 | e=>K e T H
structure jn (keep:List Bool)(body:List AV→AH→Kf→Prop)(X:List AV)(H:AH)(K:Kf):Prop where
 h:body (AS keep X) H K
theorem Qm (keep:List Bool)(body:List AV→AH→Kf→Prop)(X:List AV)(H:AH)(K:Kf):jn keep body X H K=body (AS keep X) H K:=propext ⟨jn.h,jn.mk⟩
def Np (keep:List Bool)(body:List AV→AH→Kf→Prop)(T:List AV)(H:AH)(K:Kf):Prop:=fP keep T λX=>jn keep body X H K
def P7 (keep:List Bool)(body:List AV→AH→Kf→Prop)(K:Kf):Nat→List AV→AH→Prop
 | 0,_,_=>False
 | m+1,X,H=>body (AS keep X) H (NI keep (P7 keep body K m) K)
structure lp (keep:List Bool)(body:List AV→AH→Kf→Prop)(X:List AV)(H:AH)(K:Kf):Prop where
 h:∃m,P7 keep body K m X H
def lpC (keep:List Bool)(body:List AV→AH→Kf→Prop)(T:List AV)(H:AH)(K:Kf):Prop:=fP keep T λX=>lp keep body X H K
def nl:Code→Nat
 | .seq a b=>1+nl a+nl b
 | .cond _ a b=>nl a+nl b
 | .block _ b=>nl b
 | .loop b=>1+nl b
 | .rangeFunc _ _ _ b=>1+nl b
 | _=>0
structure unR (P:Program)(id:Nat)(ops:Array Oper)(T:List AV)(H:AH)(K:Kf):Prop where
 h:ACode P (.region id ops true) K T H
structure unF (P:Program)(c:Code)(T:List AV)(H:AH)(K:Kf):Prop where
 h:ACode P c K T H
def Ax (P:Program)(fl:BO)(ql al:FuncId→Bool)(un:Nat→Bool)(kp:Nat→Option (List Bool)):Code→Nat→List AV→AH→Kf→Prop
 | .skip,_,T,H,K=>K .normal T H
 | .label _,_,T,H,K=>K .normal T H
 | .ret,_,T,H,K=>K .ret T H
 | .exit id,_,T,H,K=>K (.exit id) T H
 | .region id ops dr,_,T,H,K=>match dr with
  | false=>Ir P ql al false ops ops.toList T H (K .normal)
  | true=>match un id with
   | true=>match kp (100000+id)with
    | some keep=>fP keep T λX=>unR P id ops (AS keep X) H K
    | none=>False
   | false=>match fl id with
    | []=>Ir P ql al true ops ops.toList T H (K .normal)
    | f=>Hi P ql al ops H f ops.toList T H [] (K .normal)
 | .seq a b,n,T,H,K=>match kp n with
  | none=>Ax P fl ql al un kp a (n+1) T H (Cw (Ax P fl ql al un kp b (n+1+nl a)) K)
  | some keep=>Ax P fl ql al un kp a (n+1) T H (Cw (Np keep (Ax P fl ql al un kp b (n+1+nl a))) K)
 | .cond c a b,n,T,H,K=>bB (Au T c) λt=>bI t (Ax P fl ql al un kp a n T H K) (Ax P fl ql al un kp b (n+nl a) T H K)
 | .block id b,n,T,H,K=>Ax P fl ql al un kp b n T H (Cp id K)
 | .loop b,n,T,H,K=>match kp n with
  | some keep=>lpC keep (Ax P fl ql al un kp b (n+1)) T H K
  | none=>False
 | .rangeFunc g ps a b,n,T,H,K=>match un (200000+n)with
  | true=>match kp (200000+n)with
   | some keep=>fP keep T λX=>unF P (.rangeFunc g ps a b) (AS keep X) H K
   | none=>False
  | false=>False
 | _,_,_,_,_=>False
def One (body:List AV→AH→Kf→Prop):Prop:=∀T H (K:Kf),body T H K→∃e T' H',K e T' H'∧∀K2:Kf,K2 e T' H'→body T H K2
theorem One.cut {keep:List Bool}{body:List AV→AH→Kf→Prop}(h:One body):One (Np keep body):=by
 intro T H K hk;unfold Np at hk⊢;obtain⟨hl,hk⟩:=BP.1 hk;obtain⟨e,T',H',h1,h2⟩:=h _ _ _ hk.h;exact⟨e,T',H',h1,λK2 h3=>BP.2 ⟨hl,⟨h2 K2 h3⟩⟩⟩
theorem One.seq {a b:List AV→AH→Kf→Prop}(ha:One a)(hb:One b):One λT H K=>a T H (Cw b K):=by
 intro T H K h;obtain⟨e,T1,H1,h1,h2⟩:=ha _ _ _ h;cases e with
 | normal=>
  obtain⟨e,T2,H2,h3,h4⟩:=hb _ _ _ h1;exact⟨e,T2,H2,h3,λK2 hk=>h2 _ (h4 K2 hk)⟩
 | _=>exact⟨_,T1,H1,h1,λK2 hk=>h2 _ hk⟩
theorem Mk {keep:List Bool}{body:List AV→AH→Kf→Prop}(h:One body){K:Kf}:∀(m:Nat) (X:List AV) (H:AH),P7 keep body K m X H→∃e T' H',K e T' H'∧∀K2:Kf,K2 e T' H'→P7 keep body K2 m X H
 | 0,X,H,hr=>hr.elim
 | m+1,X,H,hr=>by
  obtain⟨e,T1,H1,h1,h2⟩:=h _ _ _ hr;cases e with
  | normal=>
   obtain⟨hl,h1⟩:=BP.1 h1;obtain⟨e,T2,H2,h3,h4⟩:=Mk h m _ _ h1;exact⟨e,T2,H2,h3,λK2 hk=>h2 _ (BP.2 ⟨hl,h4 K2 hk⟩)⟩
  | _=>exact⟨_,T1,H1,h1,λK2 hk=>h2 _ hk⟩
theorem Ag {fl:BO}{ql:FuncId→Bool}{kp:Nat→Option (List Bool)}:∀(c:Code) (n:Nat),One (Ax P fl ql Ai Ai kp c n)
 | .skip,n,T,H,K,h=>⟨_,_,_,h,λ_ h=>h⟩
 | .label _,n,T,H,K,h=>⟨_,_,_,h,λ_ h=>h⟩
 | .ret,n,T,H,K,h=>⟨_,_,_,h,λ_ h=>h⟩
 | .exit _,n,T,H,K,h=>⟨_,_,_,h,λ_ h=>h⟩
 | .region id ops dr,n,T,H,K,h=>by
  unfold Ax at h⊢;cases dr with
  | false=>
   obtain⟨T',H',h1,-,h2⟩:=EE _ _ _ _ h;exact⟨.normal,T',H',h1,λK2 hk=>h2 _ hk⟩
  | true=>
   simp only[Ai]at h⊢;split at h
   ·obtain⟨T',H',h1,-,h2⟩:=EE _ _ _ _ h
    exact⟨.normal,T',H',h1,λK2 hk=>h2 _ hk⟩
   ·obtain⟨T',H',h1,-,h2⟩:=FU _ _ _ _ _ h
    exact⟨.normal,T',H',h1,λK2 hk=>h2 _ hk⟩
 | .seq a b,n,T,H,K,h=>by
  unfold Ax at h⊢;split at h
  ·exact One.seq (Ag a _) (Ag b _) T H K h
  ·exact One.seq (Ag a _) (Ag b _).cut T H K h
 | .cond c a b,n,T,H,K,h=>by
  unfold Ax at h⊢;unfold bB at h⊢;split at h
  ·rename_i t ht
   cases t with
   | true=>exact Ag a _ T H K h
   | false=>exact Ag b _ T H K h
  ·exact h.elim
 | .block id b,n,T,H,K,h=>by
  unfold Ax at h⊢;obtain⟨e,T',H',h1,h2⟩:=Ag b _ T H _ h;cases e with
  | exit j=>
   simp only[Cp]at h1;split at h1
   ·rename_i hj;exact⟨_,T',H',h1,λK2 hk=>h2 _ (by simp only[Cp,hj];exact hk)⟩
   ·rename_i hj;exact⟨_,T',H',h1,λK2 hk=>h2 _ (by simp only[Cp,hj];exact hk)⟩
  | _=>exact⟨_,T',H',h1,λK2 hk=>h2 _ hk⟩
 | .loop b,n,T,H,K,h=>by
  unfold Ax at h⊢;split at h
  ·obtain⟨hl,⟨m,h⟩⟩:=BP.1 h
   obtain⟨e,T',H',h1,h2⟩:=Mk (Ag b _) m _ _ h;exact⟨e,T',H',h1,λK2 hk=>BP.2 ⟨hl,⟨m,h2 K2 hk⟩⟩⟩
  ·exact h.elim
 | .rangeFunc ..,_,_,_,_,h=>h.elim
 | .scope _,_,_,_,_,h=>h.elim
 | .goto _,_,_,_,_,h=>h.elim
 | .refuse _,_,_,_,_,h=>h.elim
theorem Ha {keep:List Bool}{body:List AV→AH→Kf→Prop}{K:Kf}(hb:One body)(J:Nat→List AV→AH→Prop)
  (round:∀n X H,J n X H→body (AS keep X) H (NI keep (λX' H'=>∃m,m<n∧J m X' H') K)):∀(n:Nat) {X:List AV} {H:AH},J n X H→lp keep body X H K:=by
 intro n
 induction n using Nat.strongRecOn with
 | _ n ih=>
  intro X H hJ;obtain⟨e,T1,H1,h1,h2⟩:=hb _ _ _ (round n X H hJ);cases e with
  | normal=>
   obtain⟨hl,m,hlt,hJ'⟩:=BP.1 h1;obtain⟨k,hk⟩:=ih m hlt hJ';exact⟨k+1,h2 _ (BP.2 ⟨hl,hk⟩)⟩
  | _=>exact⟨1,h2 _ h1⟩
theorem N2 {fl:BO}{ql:FuncId→Bool}{kp:Nat→Option (List Bool)}{b:Code}{n:Nat}{keep:List Bool}{K:Kf}(hb:∀T H K,Ax P fl ql Ai Ai kp b n T H K→∃e T' H',K e T' H'∧BCode P b T H e T' H'):
  ∀(m:Nat) (X:List AV) (H:AH),P7 keep (Ax P fl ql Ai Ai kp b n) K m X H→∃e T' H',K e T' H'∧BRounds P b e T' H' m (AS keep X) H
 | 0,X,H,hr=>hr.elim
 | m+1,X,H,hr=>by
  obtain⟨e,T1,H1,h1,h2⟩:=hb _ _ _ hr;cases e with
  | normal=>
   obtain⟨hl,h1⟩:=BP.1 h1;obtain⟨e,T2,H2,h3,h4⟩:=N2 hb m _ _ h1;exact⟨e,T2,H2,h3,.inl ⟨T1,H1,h2,h4.weak hl⟩⟩
  | _=>exact⟨_,T1,H1,h1,.inr ⟨by simp,h2⟩⟩
theorem C8 {fl:BO}{ql:FuncId→Bool}{kp:Nat→Option (List Bool)}(hm:P.follows .mixedOrders=true):∀(c:Code) (n:Nat) (T:List AV) (H:AH) (K:Kf),BW fl ql c=true→Ax P fl ql Ai Ai kp c n T H K→∃e T' H',K e T' H'∧BCode P c T H e T' H'
 | .skip,n,T,H,K,_,h=>⟨_,_,_,h,ACode.skip rfl⟩
 | .label _,n,T,H,K,_,h=>⟨_,_,_,h,ACode.label rfl⟩
 | .ret,n,T,H,K,_,h=>⟨_,_,_,h,ACode.ret rfl⟩
 | .exit _,n,T,H,K,_,h=>⟨_,_,_,h,ACode.exit rfl⟩
 | .region id ops dr,n,T,H,K,hc,h=>by
  refine(DZ (fl:=fl) (ql:=ql) hm (.region id ops dr) T H K hc ?_);unfold Ax at h;unfold Gy;cases dr with
  | false=>
   obtain⟨T',H',h1,h2,-⟩:=EE _ _ _ _ h;exact h2 _ h1
  | true=>
   simp only[Ai]at h⊢;split at h
   ·rename_i hf
    simp only[hf];obtain⟨T',H',h1,h2,-⟩:=EE _ _ _ _ h;exact h2 _ h1
   ·rename_i hf
    obtain⟨T',H',h1,h2,-⟩:=FU _ _ _ _ _ h
    split
    ·rename_i hf';exact absurd hf' hf
    ·exact h2 _ h1
 | .seq a b,n,T,H,K,hc,h=>by
  simp only[BW,R9]at hc
  have key:∃e T1 H1,BCode P a T H e T1 H1∧((e=.normal∧∃e2 T2 H2,K e2 T2 H2∧BCode P b T1 H1 e2 T2 H2)∨(e≠.normal∧K e T1 H1)):=by
   unfold Ax at h;split at h
   ·obtain⟨e,T1,H1,hk,ha⟩:=C8 hm a _ T H _ hc.1 h
    refine⟨e,T1,H1,ha,?_⟩;cases e with
    | normal=>exact .inl ⟨rfl,C8 hm b _ T1 H1 K hc.2 hk⟩
    | _=>exact .inr ⟨by simp,hk⟩
   ·obtain⟨e,T1,H1,hk,ha⟩:=C8 hm a _ T H _ hc.1 h
    refine⟨e,T1,H1,ha,?_⟩;cases e with
    | normal=>
     obtain⟨hl,hk⟩:=BP.1 hk;obtain⟨e2,T2,H2,h1,h2⟩:=C8 hm b _ _ H1 K hc.2 hk.h;exact .inl ⟨rfl,e2,T2,H2,h1,h2.weak hl⟩
    | _=>exact .inr ⟨by simp,hk⟩
  obtain⟨e,T1,H1,ha,⟨rfl,e2,T2,H2,hk,hb⟩ | ⟨hne,hk⟩⟩:=key
  ·refine⟨e2,T2,H2,hk,ACode.seq (ha.mono ?_)⟩
   rintro e' T3 H3 hq;simp only[AQ.is,RK]at hq;obtain⟨rfl,rfl,rfl⟩:=hq;exact hb
  ·refine⟨e,T1,H1,hk,ACode.seq (ha.mono ?_)⟩
   rintro e' T3 H3 hq;have hq':=hq;simp only[AQ.is,RK]at hq';obtain⟨rfl,rfl,rfl⟩:=hq';cases e' with
   | normal=>exact absurd rfl hne
   | _=>exact hq
 | .cond c a b,n,T,H,K,hc,h=>by
  simp only[BW,R9]at hc;unfold Ax bB at h;split at h
  ·rename_i t ht
   cases t with
   | true=>
    obtain⟨e,T1,H1,hk,ha⟩:=C8 hm a _ T H K hc.1 h;exact⟨e,T1,H1,hk,ACode.cond ht ha⟩
   | false=>
    obtain⟨e,T1,H1,hk,ha⟩:=C8 hm b _ T H K hc.2 h;exact⟨e,T1,H1,hk,ACode.cond ht ha⟩
  ·exact h.elim
 | .block id b,n,T,H,K,hc,h=>by
  simp only[BW]at hc;unfold Ax at h;obtain⟨e,T1,H1,hk,ha⟩:=C8 hm b _ T H _ hc h;cases e with
  | exit j=>
   simp only[Cp]at hk;split at hk
   ·rename_i hj
    have hj:=RY hj;refine⟨_,T1,H1,hk,ACode.block (ha.mono ?_)⟩;rintro e' T3 H3 hq;simp only[AQ.is,RK]at hq;obtain⟨rfl,rfl,rfl⟩:=hq;simp only[AQ.inBlock,if_pos hj];rfl
   ·rename_i hj
    have hj:¬j=id:=λh=>by rw[h]at hj;simp at hj
    refine⟨_,T1,H1,hk,ACode.block (ha.mono ?_)⟩;rintro e' T3 H3 hq;simp only[AQ.is,RK]at hq;obtain⟨rfl,rfl,rfl⟩:=hq;simp only[AQ.inBlock,if_neg hj];rfl
  | _=>
   refine⟨_,T1,H1,hk,ACode.block (ha.mono ?_)⟩;rintro e' T3 H3 hq;simp only[AQ.is,RK]at hq;obtain⟨rfl,rfl,rfl⟩:=hq;rfl
 | .loop b,n,T,H,K,hc,h=>by
  simp only[BW]at hc;unfold Ax at h;split at h
  ·obtain⟨hl,⟨m,h⟩⟩:=BP.1 h
   obtain⟨e,T',H',h1,h2⟩:=N2 (λT H K h=>C8 hm b _ T H K hc h) m _ _ h;exact⟨e,T',H',h1,(h2.weak hl).code⟩
  ·exact h.elim
 | .rangeFunc ..,_,_,_,_,_,h=>h.elim
 | .scope _,_,_,_,_,_,h=>h.elim
 | .goto _,_,_,_,_,_,h=>h.elim
 | .refuse _,_,_,_,_,_,h=>h.elim
def Ce (fl:BO)(ql:FuncId→Bool)(un:Nat→Bool):Code→Bool
 | .region id ops true=>un id||(FA ops.toList&&GG ql ops.toList&&decide (IL ql ops.toList=fl id))
 | .seq a b=>Ce fl ql un a&&Ce fl ql un b
 | .cond _ a b=>Ce fl ql un a&&Ce fl ql un b
 | .block _ b=>Ce fl ql un b
 | .loop b=>Ce fl ql un b
 | _=>true
theorem BCode.to {c:Code}{T T':List AV}{H H':AH}{e:Exit}{K:Kf}(h:BCode P c T H e T' H')(hk:K e T' H'):ACode P c K T H:=by
 refine ACode.mono h ?_;rintro e1 T1 H1 hq;simp only[AQ.is,RK]at hq;obtain⟨rfl,rfl,rfl⟩:=hq;exact hk
def ARnd (P:Program)(b:Code)(keep:List Bool)(K:Kf):Nat→List AV→AH→Prop
 | 0,_,_=>False
 | m+1,X,H=>ACode P b (NI keep (ARnd P b keep K m) K) (AS keep X) H
theorem ARnd.code {b:Code}{keep:List Bool}{K:Kf}:∀{m:Nat} {X:List AV} {H:AH},ARnd P b keep K m X H→ACode P (.loop b) K (AS keep X) H:=by
 intro m X H h G0 G a ρ hE hF hd hH;refine wpIn_loop_rounds m ?_
 have key:∀(m:Nat) (X:List AV) (H:AH) (G:Cfg) (a:Act),ARnd P b keep K m X H→Evo G0 G→FR G (AS keep X) a→DF G ρ a→HR G H→Code.roundsIn (FW ρ.1) 0 P b (Jw G0 ρ K) m a G.w:=by
  intro m
  induction m with
  | zero=>intro X H G a h;exact h.elim
  | succ m ih=>
   intro X H G a h hE hF hd hH;rw[roundsIn_succ];refine Code.wpIn_mono ?_ (h G0 G a ρ hE hF hd hH);rintro e' a' w' ⟨T2,H2,G',rfl,hE',hF',hd',hH',hq⟩;cases e' with
   | normal=>
    obtain⟨hl,hq⟩:=BP.1 hq;exact ih _ _ G' a' hq hE' (Cz hl hF') hd' hH'
   | _=>exact⟨T2,H2,G',rfl,hE',hF',hd',hH',hq⟩
 exact key m X H G a h hE hF hd hH
theorem C9 {fl:BO}{ql al:FuncId→Bool}{un:Nat→Bool}{kp:Nat→Option (List Bool)}(hm:P.follows .mixedOrders=true):∀(c:Code) (n:Nat) (T:List AV) (H:AH) (K:Kf),Ce fl ql un c=true→Ax P fl ql al un kp c n T H K→ACode P c K T H
 | .skip,n,T,H,K,_,h=>ACode.skip h
 | .label _,n,T,H,K,_,h=>ACode.label h
 | .ret,n,T,H,K,_,h=>ACode.ret h
 | .exit _,n,T,H,K,_,h=>ACode.exit h
 | .region id ops dr,n,T,H,K,hc,h=>by
  unfold Ax at h;cases dr with
  | false=>exact ACode.region (Lb _ _ _ _ (λ_ _ h=>h) h)
  | true=>
   simp only at h;split at h
   ·split at h
    ·obtain⟨hl,h⟩:=BP.1 h
     exact ACode.weak (λ_ _ hF=>Cz hl hF) h.h
    ·exact h.elim
   ·rename_i hu
    simp only[Ce,hu,Bool.false_or]at hc
    have:∃e T' H',K e T' H'∧BCode P (.region id ops true) T H e T' H':=by
     refine(DZ (fl:=fl) (ql:=ql) hm (.region id ops true) T H K hc ?_);unfold Gy
     try simp only
     split at h
     ·rename_i hf
      simp only[hf];obtain⟨T',H',h1,h2,-⟩:=EE _ _ _ _ (Ml _ _ _ _ h);exact h2 _ h1
     ·rename_i hf
      obtain⟨T',H',h1,h2,-⟩:=FU _ _ _ _ _ (La _ _ _ _ _ h)
      split
      ·rename_i hf';exact absurd hf' hf
      ·exact h2 _ h1
    obtain⟨e,T',H',hk,hb⟩:=this;exact hb.to hk
 | .seq a b,n,T,H,K,hc,h=>by
  simp only[Ce,R9]at hc;unfold Ax at h;split at h
  ·refine ACode.seq ((C9 hm a _ T H _ hc.1 h).mono ?_)
   intro e T1 H1 hk;cases e with
   | normal=>exact C9 hm b _ T1 H1 K hc.2 hk
   | _=>exact hk
  ·refine ACode.seq ((C9 hm a _ T H _ hc.1 h).mono ?_)
   intro e T1 H1 hk;cases e with
   | normal=>
    obtain⟨hl,hk⟩:=BP.1 hk;exact ACode.weak (λ_ _ hF=>Cz hl hF) (C9 hm b _ _ H1 K hc.2 hk.h)
   | _=>exact hk
 | .cond c a b,n,T,H,K,hc,h=>by
  simp only[Ce,R9]at hc;unfold Ax bB at h;split at h
  ·rename_i t ht
   cases t with
   | true=>exact ACode.cond ht (C9 hm a _ T H K hc.1 h)
   | false=>exact ACode.cond ht (C9 hm b _ T H K hc.2 h)
  ·exact h.elim
 | .block id b,n,T,H,K,hc,h=>by
  simp only[Ce]at hc;unfold Ax at h;refine ACode.block ((C9 hm b _ T H _ hc h).mono ?_);intro e T1 H1 hk;cases e with
  | exit j=>
   simp only[Cp]at hk;split at hk
   ·rename_i hj
    have hj:=RY hj;simp only[AQ.inBlock,if_pos hj];exact hk
   ·rename_i hj
    have hj:¬j=id:=λh=>by rw[h]at hj;simp at hj
    simp only[AQ.inBlock,if_neg hj];exact hk
  | _=>exact hk
 | .loop b,n,T,H,K,hc,h=>by
  simp only[Ce]at hc;unfold Ax at h;split at h
  ·rename_i keep _
   obtain⟨hl,⟨m,h⟩⟩:=BP.1 h;refine ACode.weak (λ_ _ hF=>Cz hl hF) (ARnd.code (m:=m) ?_)
   have key:∀(m:Nat) (X:List AV) (H:AH),P7 keep (Ax P fl ql al un kp b (n+1)) K m X H→ARnd P b keep K m X H:=by
    intro m
    induction m with
    | zero=>intro X H h;exact h
    | succ m ih=>
     intro X H h;refine(C9 hm b _ _ H _ hc h).mono ?_;intro e T1 H1 hk;cases e with
     | normal=>
      obtain⟨hl,hk⟩:=BP.1 hk;exact BP.2 ⟨hl,ih _ _ hk⟩
     | _=>exact hk
   exact key m _ _ h
  ·exact h.elim
 | .rangeFunc g ps a b,n,T,H,K,_,h=>by
  unfold Ax at h;split at h
  ·split at h
   ·obtain⟨hl,h⟩:=BP.1 h
    exact ACode.weak (λ_ _ hF=>Cz hl hF) h.h
   ·exact h.elim
  ·exact h.elim
 | .scope _,_,_,_,_,_,h=>h.elim
 | .goto _,_,_,_,_,_,h=>h.elim
 | .refuse _,_,_,_,_,_,h=>h.elim
def OB:Code→Array Oper
 | .region _ ops _=>ops
 | _=> #[]
def N7 (P:Program)(H:AH)(T:List AV):List ResultVar→(List AV→Prop)→Prop
 | [],K=>K []
 | .tmp t::r,K=>N7 P H T r λxs=>K (T.getD t Ad::xs)
 | .cell a t::r,K=>match Is P t,AC P t with
  | some g,some n=>bO (Ak g n H (T.getD a Ad)) λx=>N7 P H T r λxs=>K (x::xs)
  | _,_=>False
theorem Kk {H:AH}{T:List AV}:∀{res:List ResultVar} {K:List AV→Prop},N7 P H T res K→∃xs,Ht P H T res=some xs∧K xs
 | [],K,h=>⟨[],rfl,h⟩
 | .tmp t::r,K,h=>by
  obtain⟨xs,h1,h2⟩:=Kk (res:=r) h;exact⟨_,by simp only[Ht,h1];rfl,h2⟩
 | .cell a t::r,K,h=>by
  unfold N7 at h;split at h
  ·rename_i g n hg hn
   unfold bO at h;split at h
   ·rename_i x hx
    obtain⟨xs,h1,h2⟩:=Kk (res:=r) h;exact⟨_,by simp only[Ht,Lp hg hn,hx,h1],h2⟩
   ·exact h.elim
  ·exact h.elim
def C7 (P:Program)(res:List ResultVar)(K:AV→AH→Prop):Kf:=λe T H=>match J8 e with
 | true=>N7 P H T res λxs=>K (JD xs) H
 | false=>False
theorem Me {res:List ResultVar}{K:AV→AH→Prop}{e:Exit}{T:List AV}{H:AH}(h:C7 P res K e T H):Ox P res K e T H:=by
 unfold C7 at h;unfold Ox;split at h
 ·rename_i ho
  obtain⟨xs,h1,h2⟩:=Kk h;rw[h1];exact⟨ho,h2⟩
 ·exact h.elim
def AY (fn:Func):Code:=match fn.body with
 | some c=>c
 | none=>.skip
def sub:List Bool→Code→Code
 | [],c=>c
 | d::p,.seq a b=>match d with
  | true=>sub p b
  | false=>sub p a
 | d::p,.cond _ a b=>match d with
  | true=>sub p b
  | false=>sub p a
 | _::p,.block _ b=>sub p b
 | _::p,.loop b=>sub p b
 | _::p,.rangeFunc _ _ _ b=>sub p b
 | _,c=>c
def MM (P:Program)(fl:BO)(ql al:FuncId→Bool)(un:Nat→Bool)(kp:Nat→Option (List Bool))(fn:Func)(args:List AV)(H:AH)(K:AV→AH→Prop):Prop:=
 fL (args++List.replicate (fn.ntmps - args.length) Ad) λT=>Ax P fl ql al un kp (AY fn) 0 T H (C7 P fn.results.toList K)
def Lt (fl:BO)(ql:FuncId→Bool)(fn:Func):Bool:=match fn.body with
 | some c=>BW fl ql c
 | none=>false
theorem Ot {fl:BO}{ql:FuncId→Bool}{kp:Nat→Option (List Bool)}(hm:P.follows .mixedOrders=true){f:FuncId}{fn:Func}{args:List AV}{H:AH}{K:AV→AH→Prop}(hf:P.funcs[f]?=some fn)(hc:Lt fl ql fn=true)
  (h:MM P fl ql Ai Ai kp fn args H K):∃r H',K r H'∧BJ P f args H r H':=by
 unfold MM AY at h;unfold Lt at hc;split at hc
 ·rename_i c hb
  rw[KB]at h;simp only[hb]at h;obtain⟨e,T',H',hk,hb'⟩:=C8 hm c _ _ H _ hc h;have hk:=Me hk;unfold Ox at hk;obtain⟨ho,hk⟩:=hk;split at hk
  ·rename_i xs hxs
   refine⟨_,H',hk,ACalls.of_body hf hb (hb'.mono ?_)⟩;rintro e' T1 H1 hq;simp only[AQ.is,RK]at hq;obtain⟨rfl,rfl,rfl⟩:=hq;refine⟨?_,xs,hxs,rfl,rfl⟩
   revert ho
   cases e'<;>simp[J8]
  ·exact hk.elim
 ·cases hc
def LY (fl:BO)(ql:FuncId→Bool)(un:Nat→Bool)(fn:Func):Bool:=match fn.body with
 | some c=>Ce fl ql un c
 | none=>false
theorem Ou {fl:BO}{ql al:FuncId→Bool}{un:Nat→Bool}{kp:Nat→Option (List Bool)}(hm:P.follows .mixedOrders=true){f:FuncId}{fn:Func}{args:List AV}{H:AH}{K:AV→AH→Prop}(hf:P.funcs[f]?=some fn)(hc:LY fl ql un fn=true)
  (h:MM P fl ql al un kp fn args H K):ACalls P f args H K:=by
 unfold MM AY at h;unfold LY at hc;split at hc
 ·rename_i c hb
  rw[KB]at h;simp only[hb]at h;refine ACalls.of_body hf hb ((C9 hm c _ _ H _ hc h).mono ?_);intro e T1 H1 hk;have hk:=Me hk;unfold Ox at hk;obtain⟨ho,hk⟩:=hk;split at hk
  ·rename_i xs hxs
   refine⟨?_,xs,hxs,hk⟩
   revert ho
   cases e<;>simp[J8]
  ·exact hk.elim
 ·cases hc
def mk:Nat→Nat→List Nat→List Bool
 | 0,_,_=>[]
 | n+1,i,[]=>false::mk n (i+1) []
 | n+1,i,k::r=>match Nat.beq k i with
  | true=>true::mk n (i+1) r
  | false=>false::mk n (i+1) (k::r)
def DL:List (Nat×List Bool)→Nat→Option (List Bool)
 | [],_=>none
 | (k,l)::r,n=>match Nat.beq k n with
  | true=>some l
  | false=>DL r n
def Pi:List (Nat×List (Nat×Option Nat))→BO
 | [],_=>[]
 | (k,l)::r,n=>match Nat.beq k n with
  | true=>l
  | false=>Pi r n
def O9:List Nat→Nat→Bool
 | [],_=>false
 | k::r,n=>match Nat.beq k n with
  | true=>true
  | false=>O9 r n
def LI0 (I:Nat→AH→Prop):Nat→List AV→AH→Prop
 | m,[],H=>I m  H
 | _,_,_=>False
def LI1 (I:Nat→AV→AH→Prop):Nat→List AV→AH→Prop
 | m,[a0],H=>I m a0 H
 | _,_,_=>False
def LI2 (I:Nat→AV→AV→AH→Prop):Nat→List AV→AH→Prop
 | m,[a0,a1],H=>I m a0 a1 H
 | _,_,_=>False
theorem LI2.elim {I:Nat→AV→AV→AH→Prop}{m:Nat}{X:List AV}{H:AH}(h:LI2 I m X H):∃a0 a1,X=[a0,a1]∧I m a0 a1 H:=by
 unfold LI2 at h;split at h
 ·exact⟨_,_,rfl,h⟩
 ·exact h.elim
def LI3 (I:Nat→AV→AV→AV→AH→Prop):Nat→List AV→AH→Prop
 | m,[a0,a1,a2],H=>I m a0 a1 a2 H
 | _,_,_=>False
theorem LI3.elim {I:Nat→AV→AV→AV→AH→Prop}{m:Nat}{X:List AV}{H:AH}(h:LI3 I m X H):∃a0 a1 a2,X=[a0,a1,a2]∧I m a0 a1 a2 H:=by
 unfold LI3 at h;split at h
 ·exact⟨_,_,_,rfl,h⟩
 ·exact h.elim
def LI4 (I:Nat→AV→AV→AV→AV→AH→Prop):Nat→List AV→AH→Prop
 | m,[a0,a1,a2,a3],H=>I m a0 a1 a2 a3 H
 | _,_,_=>False
theorem LI4.elim {I:Nat→AV→AV→AV→AV→AH→Prop}{m:Nat}{X:List AV}{H:AH}(h:LI4 I m X H):∃a0 a1 a2 a3,X=[a0,a1,a2,a3]∧I m a0 a1 a2 a3 H:=by
 unfold LI4 at h;split at h
 ·exact⟨_,_,_,_,rfl,h⟩
 ·exact h.elim
def LI5 (I:Nat→AV→AV→AV→AV→AV→AH→Prop):Nat→List AV→AH→Prop
 | m,[a0,a1,a2,a3,a4],H=>I m a0 a1 a2 a3 a4 H
 | _,_,_=>False
theorem LI5.elim {I:Nat→AV→AV→AV→AV→AV→AH→Prop}{m:Nat}{X:List AV}{H:AH}(h:LI5 I m X H):∃a0 a1 a2 a3 a4,X=[a0,a1,a2,a3,a4]∧I m a0 a1 a2 a3 a4 H:=by
 unfold LI5 at h;split at h
 ·exact⟨_,_,_,_,_,rfl,h⟩
 ·exact h.elim
def LI6 (I:Nat→AV→AV→AV→AV→AV→AV→AH→Prop):Nat→List AV→AH→Prop
 | m,[a0,a1,a2,a3,a4,a5],H=>I m a0 a1 a2 a3 a4 a5 H
 | _,_,_=>False
theorem LI6.elim {I:Nat→AV→AV→AV→AV→AV→AV→AH→Prop}{m:Nat}{X:List AV}{H:AH}(h:LI6 I m X H):∃a0 a1 a2 a3 a4 a5,X=[a0,a1,a2,a3,a4,a5]∧I m a0 a1 a2 a3 a4 a5 H:=by
 unfold LI6 at h;split at h
 ·exact⟨_,_,_,_,_,_,rfl,h⟩
 ·exact h.elim
def LI7 (I:Nat→AV→AV→AV→AV→AV→AV→AV→AH→Prop):Nat→List AV→AH→Prop
 | m,[a0,a1,a2,a3,a4,a5,a6],H=>I m a0 a1 a2 a3 a4 a5 a6 H
 | _,_,_=>False
def LI8 (I:Nat→AV→AV→AV→AV→AV→AV→AV→AV→AH→Prop):Nat→List AV→AH→Prop
 | m,[a0,a1,a2,a3,a4,a5,a6,a7],H=>I m a0 a1 a2 a3 a4 a5 a6 a7 H
 | _,_,_=>False
def LI9 (I:Nat→AV→AV→AV→AV→AV→AV→AV→AV→AV→AH→Prop):Nat→List AV→AH→Prop
 | m,[a0,a1,a2,a3,a4,a5,a6,a7,a8],H=>I m a0 a1 a2 a3 a4 a5 a6 a7 a8 H
 | _,_,_=>False
def QL (I:Nat→AV→AV→AV→AV→AV→AV→AV→AV→AV→AV→AH→Prop):Nat→List AV→AH→Prop
 | m,[a0,a1,a2,a3,a4,a5,a6,a7,a8,a9],H=>I m a0 a1 a2 a3 a4 a5 a6 a7 a8 a9 H
 | _,_,_=>False
def QM (I:Nat→AV→AV→AV→AV→AV→AV→AV→AV→AV→AV→AV→AH→Prop):Nat→List AV→AH→Prop
 | m,[a0,a1,a2,a3,a4,a5,a6,a7,a8,a9,a10],H=>I m a0 a1 a2 a3 a4 a5 a6 a7 a8 a9 a10 H
 | _,_,_=>False
def QN (I:Nat→AV→AV→AV→AV→AV→AV→AV→AV→AV→AV→AV→AV→AH→Prop):Nat→List AV→AH→Prop
 | m,[a0,a1,a2,a3,a4,a5,a6,a7,a8,a9,a10,a11],H=>I m a0 a1 a2 a3 a4 a5 a6 a7 a8 a9 a10 a11 H
 | _,_,_=>False
def QO (I:Nat→AV→AV→AV→AV→AV→AV→AV→AV→AV→AV→AV→AV→AV→AH→Prop):Nat→List AV→AH→Prop
 | m,[a0,a1,a2,a3,a4,a5,a6,a7,a8,a9,a10,a11,a12],H=>I m a0 a1 a2 a3 a4 a5 a6 a7 a8 a9 a10 a11 a12 H
 | _,_,_=>False
def QP (I:Nat→AV→AV→AV→AV→AV→AV→AV→AV→AV→AV→AV→AV→AV→AV→AH→Prop):Nat→List AV→AH→Prop
 | m,[a0,a1,a2,a3,a4,a5,a6,a7,a8,a9,a10,a11,a12,a13],H=>I m a0 a1 a2 a3 a4 a5 a6 a7 a8 a9 a10 a11 a12 a13 H
 | _,_,_=>False
def QQ (I:Nat→AV→AV→AV→AV→AV→AV→AV→AV→AV→AV→AV→AV→AV→AV→AV→AH→Prop):Nat→List AV→AH→Prop
 | m,[a0,a1,a2,a3,a4,a5,a6,a7,a8,a9,a10,a11,a12,a13,a14],H=>I m a0 a1 a2 a3 a4 a5 a6 a7 a8 a9 a10 a11 a12 a13 a14 H
 | _,_,_=>False
def QR (I:Nat→AV→AV→AV→AV→AV→AV→AV→AV→AV→AV→AV→AV→AV→AV→AV→AV→AH→Prop):Nat→List AV→AH→Prop
 | m,[a0,a1,a2,a3,a4,a5,a6,a7,a8,a9,a10,a11,a12,a13,a14,a15],H=>I m a0 a1 a2 a3 a4 a5 a6 a7 a8 a9 a10 a11 a12 a13 a14 a15 H
 | _,_,_=>False
def QS (I:Nat→AV→AV→AV→AV→AV→AV→AV→AV→AV→AV→AV→AV→AV→AV→AV→AV→AV→AH→Prop):Nat→List AV→AH→Prop
 | m,[a0,a1,a2,a3,a4,a5,a6,a7,a8,a9,a10,a11,a12,a13,a14,a15,a16],H=>I m a0 a1 a2 a3 a4 a5 a6 a7 a8 a9 a10 a11 a12 a13 a14 a15 a16 H
 | _,_,_=>False
def QT (I:Nat→AV→AV→AV→AV→AV→AV→AV→AV→AV→AV→AV→AV→AV→AV→AV→AV→AV→AV→AH→Prop):Nat→List AV→AH→Prop
 | m,[a0,a1,a2,a3,a4,a5,a6,a7,a8,a9,a10,a11,a12,a13,a14,a15,a16,a17],H=>I m a0 a1 a2 a3 a4 a5 a6 a7 a8 a9 a10 a11 a12 a13 a14 a15 a16 a17 H
 | _,_,_=>False
end
end Go.Proofs.Ytijoffokpjbnjaa.Av
end
