/- The law and its row. No condition. -/
import Derived.Test.YtbppnhenlboefaaGreatMpB
set_option linter.unusedVariables false
set_option linter.unusedSimpArgs false
section
namespace Go.Proofs.YtbppnhenlboefaaGreat.Av
open Go Go.RowKit
def fL:List AV->(List AV->Prop)->Prop
 | [],K=>K []
 | a::l,K=>fL l λb=>K (a::b)
theorem zT:∀(l:List AV) (K:List AV->Prop),fL l K=K l
 | [],K=>rfl
 | a::l,K=>by simp only[fL,zT l]
def Acp (T:List AV)(d:Option Tmp)(r:AV)(K:List AV->Prop):Prop:=match d with
 | some d=>fL (T.set d r) K
 | none=>K T
theorem Lw (T:List AV)(d:Option Tmp)(r:AV)(K:List AV->Prop):Acp T d r K=K (EL T d r):=by
 cases d with
 | none=>rfl
 | some d=>simp only[Acp,zT,EL]
def YS (ops:Array Oper)(T:List AV)(o:Oper)(K:Bool->Prop):Prop:=match o.guard with
 | none=>K true
 | some (j,want)=>match (ops[j]?).bind (·.dst)with
  | some d=>match T[d]? with
   | some v=>bG v want K
   | none=>False
  | none=>False
theorem G6 {ops:Array Oper}{T:List AV}{o:Oper}{K:Bool->Prop}(h:YS ops T o K):∃w,C0 ops T o=some w/\K w/\∀a:Bool->Prop,a w->YS ops T o a:=by
 unfold YS at h|-;unfold C0 iK;split at h
 ·rename_i c;simp only[c];exact⟨true,rfl,h,λ_ h=>h⟩
 ·rename_i j g c;simp only[c];split at h
  ·rename_i d k;simp only[k];split at h
   ·rename_i v l;simp only[l];unfold bG at h|-;split at h
    ·rename_i b;refine⟨b==g,?_,h,λ_ h=>h⟩;cases b<;>cases g<;>rfl
    ·rename_i f e;refine⟨false,?_,h,λa i=>?_⟩
     ·cases f<;>first
       | rfl
       | exact absurd rfl (e _)
     ·cases f<;>first
       | exact i
       | exact absurd rfl (e _)
    ·exact h.elim
   ·exact h.elim
  ·exact h.elim
section
variable {P : Program}
def VH (P:Program)(ql al:FuncId->Bool)(dr:Bool)(ops:Array Oper):List Oper->List AV->AH->(List AV->AH->Prop)->Prop
 | [],T,H,K=>K T H
 | o::l,T,H,K=>YS ops T o λw=>WF P ql al dr (Cf T) H o w λr H'=>Acp T o.dst r λa=>VH P ql al dr ops l a H' K
theorem StepR.walk {ql:FuncId->Bool}{dr:Bool}{ops:Array Oper}{T:List AV}{H H':AH}{o:Oper}{l:List Oper}{w:Bool}{r:AV}{K:List AV->AH->Prop}(hs:StepR P ql dr (Cf T) H o w r H')(c:C0 ops T o=some w)(h:YA P ql dr ops l (EL T o.dst r) H' K):YA P ql dr ops (o::l) T H K:=by
 unfold YA;rw[c];rcases hs with⟨rfl,a | ⟨a,b⟩⟩ | ⟨rfl,rfl,rfl⟩
 ·simp only[a];exact h
 ·simp only[a];exact⟨r,H',b,h⟩
 ·exact h
theorem StepR.walkD {ql:FuncId->Bool}{ops:Array Oper}{b:AH}{fl:List (Nat×Option Nat)}{T:List AV}{H H':AH}{o:Oper}{l:List Oper}{w:Bool}{r:AV}{c:List (List AV×AH×AV)}{K:List AV->AH->Prop}(hs:StepR P ql true (Cf T) H o w r H')(e:C0 ops T o=some w)(h:Vr P ql ops b fl l (EL T o.dst r) H' ((T,H',r)::c) K):Vr P ql ops b fl (o::l) T H c K:=by
 unfold Vr;rw[e];rcases hs with⟨rfl,a | ⟨a,d⟩⟩ | ⟨rfl,rfl,rfl⟩
 ·simp only[a];exact h
 ·simp only[a];exact⟨r,H',d,h⟩
 ·exact h
theorem UE {ql:FuncId->Bool}{dr:Bool}{ops:Array Oper}:∀(l:List Oper) (T:List AV) (H:AH) (K:List AV->AH->Prop),VH P ql Aw dr ops l T H K->
  ∃b H',K b H'/\(∀a:List AV->AH->Prop,a b H'->YA P ql dr ops l T H a)/\∀a:List AV->AH->Prop,a b H'->VH P ql Aw dr ops l T H a
 | [],T,H,K,h=>⟨T,H,h,λ_ h=>h,λ_ h=>h⟩
 | o::l,T,H,K,h=>by unfold VH at h;obtain⟨w,i,h,j⟩:=G6 h;obtain⟨r,k,h,hs,d⟩:=VG h;rw[Lw]at h;obtain⟨b,H',g,e,f⟩:=UE l _ _ K h;refine⟨b,H',g,λa c=>hs.walk i (e a c),λa c=>?_⟩;unfold VH;refine j _ (d _ ?_);rw[Lw];exact f a c
theorem Aga {ql al:FuncId->Bool}{ops:Array Oper}:∀(l:List Oper) (T:List AV) (H:AH) (K:List AV->AH->Prop),VH P ql al true ops l T H K->VH P ql Aw true ops l T H K
 | [],T,H,K,h=>h
 | o::l,T,H,K,h=>by unfold VH at h|-;obtain⟨w,d,h,b⟩:=G6 h;obtain⟨r,c,h,hs,a⟩:=VG (Afz h);rw[Lw]at h;refine b _ (a _ ?_);rw[Lw];exact Aga l _ _ K h
theorem qO {ql al:FuncId->Bool}{ops:Array Oper}{Q:AQ}:∀(l:List Oper) (T:List AV) (H:AH) (K:List AV->AH->Prop),(∀a H',K a H'->Q .normal a H')->VH P ql al false ops l T H K->AOps P ops Q l T H
 | [],T,H,K,hq,h=>AOps.nil (hq _ _ h)
 | o::l,T,H,K,hq,h=>by unfold VH at h;obtain⟨w,c,h,-⟩:=G6 h;exact Anb c h λr H' b=>qO l _ _ K hq (by rwa[Lw]at b)
def Ady (P:Program)(ρ:Operand->AV)(H:AH)(o:Oper)(v:AV):Prop:=
 match o.op with
 | .load t a=>match mR P t,Dc P t with
  | some g,some n=>Aq g n H (ρ a)=some v
  | _,_=>False
 | .convert s d x=>match Aco P s d with
  | some .ofB=>Aap H (ρ x)=some v
  | _=>False
 | .lookup t x k co=>match Aaw P t with
  | some (d,z)=>Aal d z H (ρ x) (ρ k) co=some v
  | none=>False
 | .slice t x lo hi none=>match qQ P t with
  | some (.arr n sz)=>Ty n sz H (ρ x) (lo.map ρ) (hi.map ρ)=some v
  | some (.sl sz)=>Bq sz (ρ x) (lo.map ρ) (hi.map ρ) none=some v
  | some .str=>OI (ρ x) (lo.map ρ) (hi.map ρ)=some v
  | none=>False
 | .call {callee:=.builtin .len,args:=⟨[x]⟩,argTypes:=⟨[t]⟩}=>match Abr P t with
  | some .sl=>AW (ρ x)=some v
  | some .str=>Ev (ρ x)=some v
  | some .mp=>Aax H (ρ x)=some v
  | some (.arr n)=>some (.lit (.int .i64 n))=some v
  | none=>False
 | .call {callee:=.builtin .min,args,argTypes:=_}=>amm gZ (args.toList.map ρ)=some v
 | .call {callee:=.builtin .max,args,argTypes:=_}=>amm jF (args.toList.map ρ)=some v
 | _=>False
def Aay (P:Program)(ops:Array Oper)(b:AH)(a:List (List AV×AH×AV)):List (Nat×Option Nat)->Prop->Prop
 | [],K=>K
 | (i,c)::r,K=>match ops[i]?,a[i]? with
  | some o,some (Ti,_,v)=>(YS ops Ti o λw=>bI w (Ady P (Cf Ti) (match c with
   | some c=>((a[c]?).map (·.2.1)).getD []
   | none=>b) o v) True)/\Aay P ops b a r K
  | _,_=>False
theorem Anc {ρ:Operand->AV}{H:AH}{o:Oper}{v:AV}(h:Ady P ρ H o v):(Ea P ρ H o).map Prod.fst=some v:=by
 obtain⟨F,op,N,M,D,I⟩:=o;unfold Ady at h;split at h
 ·rename_i t a b;simp only at b;subst b;split at h
  ·rename_i g n A C;simp[Ea,Adw A C,h]
  ·exact h.elim
 ·rename_i s d x b;simp only at b;subst b;split at h
  ·rename_i u;obtain⟨i,e,l,m⟩:=Uf u;unfold Aap at h;split at h
   ·cases h
   ·rename_i c;have:HW P H s d (ρ x)=some v:=by
     unfold HW;simp only[i,l];split at h
     ·rename_i cs n hs;simp only[m,hs];exact h
     ·cases h
    simp[Ea,this]
  ·exact h.elim
 ·rename_i t x k E b;simp only at b;subst b;split at h
  ·rename_i d z f;obtain⟨key,G,i,l,m⟩:=fA f;unfold Aal at h;simp only[Ea,cU,i];split at h
   ·rename_i r K w B;simp only[w,B,l,m];exact congrArg (λq=>Option.map Prod.fst (Option.map (λv=>(v,H)) q)) h
   ·cases h
  ·exact h.elim
 ·rename_i t x L J b;simp only at b;subst b;split at h
  ·rename_i n sz f;obtain⟨e,i,l⟩:=Nu f;unfold Ty at h;simp only[Ea,V0,i,l,At9];exact congrArg (λq=>Option.map Prod.fst (Option.map (λv=>(v,H)) q)) h
  ·rename_i sz f;obtain⟨e,i,l⟩:=Nu f;unfold Bq at h;simp only[Ea,V0,i,l,At9];split at h
   ·rename_i c;rw[c];exact congrArg (λq=>Option.map Prod.fst (Option.map (λv=>(v,H)) q)) h
   ·rename_i c;rw[c];exact congrArg (λq=>Option.map Prod.fst (Option.map (λv=>(v,H)) q)) h
   ·rename_i c;rw[c];exact congrArg (λq=>Option.map Prod.fst (Option.map (λv=>(v,H)) q)) h
   ·rename_i c;rw[c];exact congrArg (λq=>Option.map Prod.fst (Option.map (λv=>(v,H)) q)) h
   ·cases h
  ·rename_i f;have i:=Nu f;unfold OI at h;split at h
   ·rename_i s hs;simp only[Ea,V0,i,hs,At9];exact congrArg (λq=>Option.map Prod.fst (Option.map (λv=>(v,H)) q)) h
   ·cases h
  ·exact h.elim
 ·rename_i x t b;simp only at b;subst b;split at h
  ·rename_i f
   obtain⟨e,j⟩:=JW f;unfold AW at h;split at h<;>first
    | (cases h;done)
    | (injection h with h;subst h;rename_i c;simp[Ea,Ce,iD,j,c])
  ·rename_i f;have j:=JW f;unfold Ev at h;split at h
   ·rename_i c;injection h with h;subst h;simp[Ea,Ce,iD,j,c]
   ·cases h
  ·rename_i f;obtain⟨k,e,j⟩:=JW f;unfold Aax at h;split at h
   ·rename_i c;injection h with h;subst h;simp[Ea,Ce,iD,j,c]
   ·rename_i c;split at h
    ·rename_i r y;injection h with h;subst h;simp[Ea,Ce,iD,j,cW,c,y]
    ·cases h
   ·cases h
  ·rename_i n f;obtain⟨e,j⟩:=JW f;injection h with h;subst h;simp[Ea,Ce,iD,j]
  ·exact h.elim
 ·rename_i args p b;simp only at b;subst b;simp[Ea,Ce,h]
 ·rename_i args p b;simp only at b;subst b;simp[Ea,Ce,h]
 ·exact h.elim
theorem Adz {ops:Array Oper}{a:AH}{e:List (List AV×AH×AV)}:∀{fl:List (Nat×Option Nat)} {K:Prop},Aay P ops a e fl K->FloatsOk P ops a e fl/\K
 | [],K,h=>⟨trivial,h⟩
 | (i,c)::r,K,h=>by
  unfold Aay at h;unfold FloatsOk;split at h
  ·rename_i o p n v l k;simp only[l,k];obtain⟨h,g⟩:=h;obtain⟨w,m,f,-⟩:=G6 h;obtain⟨b,d⟩:=Adz g;cases w with
   | true=>exact⟨⟨λ_=>Anc f,b⟩,d⟩
   | false=>exact⟨⟨λj=>absurd (m.symm.trans j) (by simp),b⟩,d⟩
  ·exact h.elim
theorem Ae0 {ops:Array Oper}{b:AH}{d:List (List AV×AH×AV)}:∀{fl:List (Nat×Option Nat)} {K a:Prop},Aay P ops b d fl K->a->Aay P ops b d fl a
 | [],K,a,h,h2=>h2
 | (i,c)::r,K,a,h,h2=>by
  unfold Aay at h|-;split at h
  ·exact⟨h.1,Ae0 h.2 h2⟩
  ·exact h.elim
def Wt (P:Program)(ql al:FuncId->Bool)(ops:Array Oper)(a:AH)(fl:List (Nat×Option Nat)):List Oper->List AV->AH->List (List AV×AH×AV)->(List AV->AH->Prop)->Prop
 | [],T,H,lg,K=>Aay P ops a lg.reverse fl (K T H)
 | o::l,T,H,lg,K=>YS ops T o λw=>WF P ql al true (Cf T) H o w λr H'=>Acp T o.dst r λb=>Wt P ql al ops a fl l b H' ((T,H',r)::lg) K
theorem YR {ql:FuncId->Bool}{ops:Array Oper}{e:AH}{fl:List (Nat×Option Nat)}:∀(l:List Oper) (T:List AV) (H:AH) (d:List (List AV×AH×AV)) (K:List AV->AH->Prop),Wt P ql Aw ops e fl l T H d K->
  ∃b H',K b H'/\(∀a:List AV->AH->Prop,a b H'->Vr P ql ops e fl l T H d a)/\∀a:List AV->AH->Prop,a b H'->Wt P ql Aw ops e fl l T H d a
 | [],T,H,d,K,h=>by obtain⟨i,f⟩:=Adz h;exact⟨T,H,f,λa c=>⟨i,c⟩,λa c=>Ae0 (K:=K T H) h c⟩
 | o::l,T,H,d,K,h=>by unfold Wt at h;obtain⟨w,m,h,n⟩:=G6 h;obtain⟨r,p,h,hs,f⟩:=VG h;rw[Lw]at h;obtain⟨b,H',c,j,k⟩:=YR l _ _ _ K h;refine⟨b,H',c,λa g=>hs.walkD m (j a g),λa g=>?_⟩;unfold Wt;refine n _ (f _ ?_);rw[Lw];exact k a g
theorem Agb {ql al:FuncId->Bool}{ops:Array Oper}{b:AH}{fl:List (Nat×Option Nat)}:∀(l:List Oper) (T:List AV) (H:AH) (a:List (List AV×AH×AV)) (K:List AV->AH->Prop),Wt P ql al ops b fl l T H a K->Wt P ql Aw ops b fl l T H a K
 | [],T,H,a,K,h=>h
 | o::l,T,H,a,K,h=>by unfold Wt at h|-;obtain⟨w,f,h,d⟩:=G6 h;obtain⟨r,e,h,hs,c⟩:=VG (Afz h);rw[Lw]at h;refine d _ (c _ ?_);rw[Lw];exact Agb l _ _ _ K h
abbrev Kf:=Exit->List AV->AH->Prop
def Yl:List Bool->List AV->List AV
 | true::k,v::T=>v::Yl k T
 | false::k,_::T=>Yl k T
 | _,_=>[]
def BC:List Bool->List AV->List AV
 | true::k,v::X=>v::BC k X
 | true::k,[]=>.junk::BC k []
 | false::k,X=>.junk::BC k X
 | [],_=>[]
theorem FM {G:Cfg}:∀{keep:List Bool} {T:List AV} {vs:List Value},T.length=keep.length->VRs G T vs->VRs G (BC keep (Yl keep T)) vs
 | [],[],vs,_,h=>by simpa only[BC,Yl]using h
 | true::k,v::T,vs,hl,h=>by simp only[VRs]at h;obtain⟨u,r,rfl,b,a⟩:=h;simp only[Yl,BC];exact .cons b (FM (by simpa using hl) a)
 | false::k,v::T,vs,hl,h=>by simp only[VRs]at h;obtain⟨u,r,rfl,b,a⟩:=h;simp only[Yl];have:=FM (keep:=k) (by simpa using hl) a;rw[show BC (false::k) (Yl k T)=.junk::BC k (Yl k T) by cases Yl k T<;>rfl];exact .cons (by simp only[VR]) this
theorem ACode.weak {c:Code}{Q:AQ}{T b:List AV}{H:AH}(i:∀G a,FR G T a->FR G b a)(h:ACode P c Q b H):ACode P c Q T H:=
 λG0 G a ρ d e g f=>h G0 G a ρ d (i G a e) g f
theorem BCode.weak {c:Code}{keep:List Bool}{T a:List AV}{H H':AH}{e:Exit}(hl:T.length=keep.length)(h:BCode P c (BC keep (Yl keep T)) H e a H'):BCode P c T H e a H':=
 ACode.weak (λ_ _ b=>FM hl b) h
theorem BRounds.weak {b:Code}{keep:List Bool}{T d:List AV}{H H':AH}{e:Exit}(hl:T.length=keep.length):∀{n:Nat},BRounds P b e d H' n (BC keep (Yl keep T)) H->BRounds P b e d H' n T H
 | 0,h=>h.elim
 | n+1,h=>by
  rcases h with⟨g,f,a,c⟩ | ⟨a,c⟩
  ·exact .inl ⟨g,f,a.weak hl,c⟩
  ·exact .inr ⟨a,c.weak hl⟩
def fP (keep:List Bool)(T:List AV)(K:List AV->Prop):Prop:=match Nat.beq T.length keep.length with
 | true=>fL (Yl keep T) K
 | false=>False
theorem CJ {keep:List Bool}{T:List AV}{K:List AV->Prop}:fP keep T K↔T.length=keep.length/\K (Yl keep T):=by
 unfold fP;split
 ·rename_i h;rw[zT];exact⟨λa=>⟨Aq3 h,a⟩,And.right⟩
 ·rename_i h;exact⟨False.elim,λa=>by have:=a.1;rw[this]at h;simp at h⟩
def AO (a:List AV->AH->Kf->Prop)(K:Kf):Kf:=λe T H=>match e with
 | .normal=>a T H K
 | e=>K e T H
def AP (id:Nat)(K:Kf):Kf:=λe T H=>match e with
 | .exit j=>match Nat.beq j id with
  | true=>K .normal T H
  | false=>K (.exit j) T H
 | e=>K e T H
def M1 (keep:List Bool)(R:List AV->AH->Prop)(K:Kf):Kf:=λe T H=>match e with
 | .normal=>fP keep T λX=>R X H
 | e=>K e T H
structure jn (keep:List Bool)(body:List AV->AH->Kf->Prop)(X:List AV)(H:AH)(K:Kf):Prop where
 h:body (BC keep X) H K
theorem Bi (keep:List Bool)(a:List AV->AH->Kf->Prop)(X:List AV)(H:AH)(K:Kf):jn keep a X H K=a (BC keep X) H K:=propext ⟨jn.h,jn.mk⟩
def De (keep:List Bool)(a:List AV->AH->Kf->Prop)(T:List AV)(H:AH)(K:Kf):Prop:=fP keep T λX=>jn keep a X H K
def Aad (keep:List Bool)(a:List AV->AH->Kf->Prop)(K:Kf):Nat->List AV->AH->Prop
 | 0,_,_=>False
 | m+1,X,H=>a (BC keep X) H (M1 keep (Aad keep a K m) K)
structure lp (keep:List Bool)(body:List AV->AH->Kf->Prop)(X:List AV)(H:AH)(K:Kf):Prop where
 h:∃m,Aad keep body K m X H
def lpC (keep:List Bool)(a:List AV->AH->Kf->Prop)(T:List AV)(H:AH)(K:Kf):Prop:=fP keep T λX=>lp keep a X H K
def nl:Code->Nat
 | .seq a b=>1+nl a+nl b
 | .cond _ a b=>nl a+nl b
 | .block _ b=>nl b
 | .loop b=>1+nl b
 | .rangeFunc _ _ _ b=>1+nl b
 | _=>0
structure unR (P:Program)(id:Nat)(ops:Array Oper)(T:List AV)(H:AH)(K:Kf):Prop where
 h:ACode P (.region id ops true) K T H
structure unF (P:Program)(c:Code)(T:List AV)(H:AH)(K:Kf):Prop where
 h:ACode P c K T H
def AR (P:Program)(fl:Dd)(ql al:FuncId->Bool)(un:Nat->Bool)(kp:Nat->Option (List Bool)):Code->Nat->List AV->AH->Kf->Prop
 | .skip,_,T,H,K=>K .normal T H
 | .label _,_,T,H,K=>K .normal T H
 | .ret,_,T,H,K=>K .ret T H
 | .exit id,_,T,H,K=>K (.exit id) T H
 | .region id ops dr,_,T,H,K=>match dr with
  | false=>VH P ql al false ops ops.toList T H (K .normal)
  | true=>match un id with
   | true=>match kp (100000+id)with
    | some keep=>fP keep T λX=>unR P id ops (BC keep X) H K
    | none=>False
   | false=>match fl id with
    | []=>VH P ql al true ops ops.toList T H (K .normal)
    | f=>Wt P ql al ops H f ops.toList T H [] (K .normal)
 | .seq a b,n,T,H,K=>match kp n with
  | none=>AR P fl ql al un kp a (n+1) T H (AO (AR P fl ql al un kp b (n+1+nl a)) K)
  | some keep=>AR P fl ql al un kp a (n+1) T H (AO (De keep (AR P fl ql al un kp b (n+1+nl a))) K)
 | .cond c a b,n,T,H,K=>bB (Cf T c) λt=>bI t (AR P fl ql al un kp a n T H K) (AR P fl ql al un kp b (n+nl a) T H K)
 | .block id b,n,T,H,K=>AR P fl ql al un kp b n T H (AP id K)
 | .loop b,n,T,H,K=>match kp n with
  | some keep=>lpC keep (AR P fl ql al un kp b (n+1)) T H K
  | none=>False
 | .rangeFunc g ps a b,n,T,H,K=>match un (200000+n)with
  | true=>match kp (200000+n)with
   | some keep=>fP keep T λX=>unF P (.rangeFunc g ps a b) (BC keep X) H K
   | none=>False
  | false=>False
 | _,_,_,_,_=>False
def One (c:List AV->AH->Kf->Prop):Prop:=∀T H (K:Kf),c T H K->∃e b H',K e b H'/\∀a:Kf,a e b H'->c T H a
theorem One.cut {keep:List Bool}{b:List AV->AH->Kf->Prop}(h:One b):One (De keep b):=by
 intro T H K a;unfold De at a|-;obtain⟨j,a⟩:=CJ.1 a;obtain⟨e,d,H',f,g⟩:=h _ _ _ a.h;exact⟨e,d,H',f,λc i=>CJ.2 ⟨j,⟨g c i⟩⟩⟩
theorem One.seq {a b:List AV->AH->Kf->Prop}(o:One a)(p:One b):One λT H K=>a T H (AO b K):=by
 intro T H K h;obtain⟨e,k,i,f,g⟩:=o _ _ _ h;cases e with
 | normal=>
  obtain⟨e,l,j,m,n⟩:=p _ _ _ f;exact⟨e,l,j,m,λd c=>g _ (n d c)⟩
 | _=>exact⟨_,k,i,f,λd c=>g _ c⟩
theorem Agc {keep:List Bool}{c:List AV->AH->Kf->Prop}(h:One c){K:Kf}:∀(m:Nat) (X:List AV) (H:AH),Aad keep c K m X H->∃e f H',K e f H'/\∀a:Kf,a e f H'->Aad keep c a m X H
 | 0,X,H,hr=>hr.elim
 | m+1,X,H,hr=>by
  obtain⟨e,k,i,b,g⟩:=h _ _ _ hr;cases e with
  | normal=>
   obtain⟨p,b⟩:=CJ.1 b;obtain⟨e,l,j,n,o⟩:=Agc h m _ _ b;exact⟨e,l,j,n,λa d=>g _ (CJ.2 ⟨p,o a d⟩)⟩
  | _=>exact⟨_,k,i,b,λa d=>g _ d⟩
theorem A3 {fl:Dd}{ql:FuncId->Bool}{kp:Nat->Option (List Bool)}:∀(c:Code) (n:Nat),One (AR P fl ql Aw Aw kp c n)
 | .skip,n,T,H,K,h=>⟨_,_,_,h,λ_ h=>h⟩
 | .label _,n,T,H,K,h=>⟨_,_,_,h,λ_ h=>h⟩
 | .ret,n,T,H,K,h=>⟨_,_,_,h,λ_ h=>h⟩
 | .exit _,n,T,H,K,h=>⟨_,_,_,h,λ_ h=>h⟩
 | .region id ops dr,n,T,H,K,h=>by
  unfold AR at h|-;cases dr with
  | false=>
   obtain⟨g,H',d,-,i⟩:=UE _ _ _ _ h;exact⟨.normal,g,H',d,λk f=>i _ f⟩
  | true=>
   simp only[Aw]at h|-;split at h
   ·obtain⟨g,H',d,-,i⟩:=UE _ _ _ _ h;exact⟨.normal,g,H',d,λk f=>i _ f⟩
   ·obtain⟨g,H',d,-,i⟩:=YR _ _ _ _ _ h;exact⟨.normal,g,H',d,λk f=>i _ f⟩
 | .seq a b,n,T,H,K,h=>by
  unfold AR at h|-;split at h
  ·exact One.seq (A3 a _) (A3 b _) T H K h
  ·exact One.seq (A3 a _) (A3 b _).cut T H K h
 | .cond c a b,n,T,H,K,h=>by
  unfold AR at h|-;unfold bB at h|-;split at h
  ·rename_i t p;cases t with
   | true=>exact A3 a _ T H K h
   | false=>exact A3 b _ T H K h
  ·exact h.elim
 | .block id b,n,T,H,K,h=>by
  unfold AR at h|-;obtain⟨e,g,H',d,i⟩:=A3 b _ T H _ h;cases e with
  | exit j=>
   simp only[AP]at d;split at d
   ·rename_i l;exact⟨_,g,H',d,λk f=>i _ (by simp only[AP,l];exact f)⟩
   ·rename_i l;exact⟨_,g,H',d,λk f=>i _ (by simp only[AP,l];exact f)⟩
  | _=>exact⟨_,g,H',d,λk f=>i _ f⟩
 | .loop b,n,T,H,K,h=>by
  unfold AR at h|-;split at h
  ·obtain⟨o,⟨m,h⟩⟩:=CJ.1 h;obtain⟨e,g,H',d,i⟩:=Agc (A3 b _) m _ _ h;exact⟨e,g,H',d,λk f=>CJ.2 ⟨o,⟨m,i k f⟩⟩⟩
  ·exact h.elim
 | .rangeFunc ..,_,_,_,_,h=>h.elim
 | .scope _,_,_,_,_,h=>h.elim
 | .goto _,_,_,_,_,h=>h.elim
 | .refuse _,_,_,_,_,h=>h.elim
theorem SO {keep:List Bool}{a:List AV->AH->Kf->Prop}{K:Kf}(h:One a)(J:Nat->List AV->AH->Prop)
  (o:∀n X H,J n X H->a (BC keep X) H (M1 keep (λd H'=>∃m,m<n/\J m d H') K)):∀(n:Nat) {X:List AV} {H:AH},J n X H->lp keep a X H K:=by
 intro n
 induction n using Nat.strongRecOn with
 | _ n ih=>
  intro X H f;obtain⟨e,q,p,b,c⟩:=h _ _ _ (o n X H f);cases e with
  | normal=>
   obtain⟨j,m,l,g⟩:=CJ.1 b;obtain⟨k,i⟩:=ih m l g;exact⟨k+1,c _ (CJ.2 ⟨j,i⟩)⟩
  | _=>exact⟨1,c _ b⟩
theorem Agd {fl:Dd}{ql:FuncId->Bool}{kp:Nat->Option (List Bool)}{b:Code}{n:Nat}{keep:List Bool}{K:Kf}(h:∀T H K,AR P fl ql Aw Aw kp b n T H K->∃e a H',K e a H'/\BCode P b T H e a H'):
  ∀(m:Nat) (X:List AV) (H:AH),Aad keep (AR P fl ql Aw Aw kp b n) K m X H->∃e a H',K e a H'/\BRounds P b e a H' m (BC keep X) H
 | 0,X,H,hr=>hr.elim
 | m+1,X,H,hr=>by
  obtain⟨e,f,d,c,g⟩:=h _ _ _ hr;cases e with
  | normal=>
   obtain⟨o,c⟩:=CJ.1 c;obtain⟨e,j,i,k,l⟩:=Agd h m _ _ c;exact⟨e,j,i,k,.inl ⟨f,d,g,l.weak o⟩⟩
  | _=>exact⟨_,f,d,c,.inr ⟨by simp,g⟩⟩
theorem Jv {fl:Dd}{ql:FuncId->Bool}{kp:Nat->Option (List Bool)}(p:P.follows .mixedOrders=true):∀(c:Code) (n:Nat) (T:List AV) (H:AH) (K:Kf),Hl fl ql c=true->AR P fl ql Aw Aw kp c n T H K->∃e r H',K e r H'/\BCode P c T H e r H'
 | .skip,n,T,H,K,_,h=>⟨_,_,_,h,ACode.skip rfl⟩
 | .label _,n,T,H,K,_,h=>⟨_,_,_,h,ACode.label rfl⟩
 | .ret,n,T,H,K,_,h=>⟨_,_,_,h,ACode.ret rfl⟩
 | .exit _,n,T,H,K,_,h=>⟨_,_,_,h,ACode.exit rfl⟩
 | .region id ops dr,n,T,H,K,hc,h=>by
  refine(Sc (fl:=fl) (ql:=ql) p (.region id ops dr) T H K hc ?_);unfold AR at h;unfold aF;cases dr with
  | false=>
   obtain⟨r,H',l,o,-⟩:=UE _ _ _ _ h;exact o _ l
  | true=>
   simp only[Aw]at h|-;split at h
   ·rename_i z;simp only[z];obtain⟨r,H',l,o,-⟩:=UE _ _ _ _ h;exact o _ l
   ·rename_i z;obtain⟨r,H',l,o,-⟩:=YR _ _ _ _ _ h;split
    ·rename_i E;exact absurd E z
    ·exact o _ l
 | .seq a b,n,T,H,K,hc,h=>by
  simp only[Hl,Am0]at hc;have key:∃e g f,BCode P a T H e g f/\((e=.normal/\∃v u s,K v u s/\BCode P b g f v u s)\/(e≠.normal/\K e g f)):=by
   unfold AR at h;split at h
   ·obtain⟨e,g,f,d,i⟩:=Jv p a _ T H _ hc.1 h;refine⟨e,g,f,i,?_⟩;cases e with
    | normal=>exact .inl ⟨rfl,Jv p b _ g f K hc.2 d⟩
    | _=>exact .inr ⟨by simp,d⟩
   ·obtain⟨e,g,f,d,i⟩:=Jv p a _ T H _ hc.1 h;refine⟨e,g,f,i,?_⟩;cases e with
    | normal=>
     obtain⟨A,d⟩:=CJ.1 d;obtain⟨v,u,s,l,o⟩:=Jv p b _ _ f K hc.2 d.h;exact .inl ⟨rfl,v,u,s,l,o.weak A⟩
    | _=>exact .inr ⟨by simp,d⟩
  obtain⟨e,g,f,i,⟨rfl,v,u,s,d,D⟩ | ⟨F,d⟩⟩:=key
  ·refine⟨v,u,s,d,ACode.seq (i.mono ?_)⟩;rintro w y x k;simp only[AQ.is,Ao1]at k;obtain⟨rfl,rfl,rfl⟩:=k;exact D
  ·refine⟨e,g,f,d,ACode.seq (i.mono ?_)⟩;rintro w y x k;have B:=k;simp only[AQ.is,Ao1]at B;obtain⟨rfl,rfl,rfl⟩:=B;cases w with
   | normal=>exact absurd rfl F
   | _=>exact k
 | .cond c a b,n,T,H,K,hc,h=>by
  simp only[Hl,Am0]at hc;unfold AR bB at h;split at h
  ·rename_i t C;cases t with
   | true=>
    obtain⟨e,g,f,d,i⟩:=Jv p a _ T H K hc.1 h;exact⟨e,g,f,d,ACode.cond C i⟩
   | false=>
    obtain⟨e,g,f,d,i⟩:=Jv p b _ T H K hc.2 h;exact⟨e,g,f,d,ACode.cond C i⟩
  ·exact h.elim
 | .block id b,n,T,H,K,hc,h=>by
  simp only[Hl]at hc;unfold AR at h;obtain⟨e,g,f,d,i⟩:=Jv p b _ T H _ hc h;cases e with
  | exit j=>
   simp only[AP]at d;split at d
   ·rename_i q;have q:=Aq3 q;refine⟨_,g,f,d,ACode.block (i.mono ?_)⟩;rintro w y x k;simp only[AQ.is,Ao1]at k;obtain⟨rfl,rfl,rfl⟩:=k;simp only[AQ.inBlock,if_pos q];rfl
   ·rename_i q;have q:¬j=id:=λh=>by rw[h]at q;simp at q
    refine⟨_,g,f,d,ACode.block (i.mono ?_)⟩;rintro w y x k;simp only[AQ.is,Ao1]at k;obtain⟨rfl,rfl,rfl⟩:=k;simp only[AQ.inBlock,if_neg q];rfl
  | _=>
   refine⟨_,g,f,d,ACode.block (i.mono ?_)⟩;rintro w y x k;simp only[AQ.is,Ao1]at k;obtain⟨rfl,rfl,rfl⟩:=k;rfl
 | .loop b,n,T,H,K,hc,h=>by
  simp only[Hl]at hc;unfold AR at h;split at h
  ·obtain⟨A,⟨m,h⟩⟩:=CJ.1 h;obtain⟨e,r,H',l,o⟩:=Agd (λT H K h=>Jv p b _ T H K hc h) m _ _ h;exact⟨e,r,H',l,(o.weak A).code⟩
  ·exact h.elim
 | .rangeFunc ..,_,_,_,_,_,h=>h.elim
 | .scope _,_,_,_,_,_,h=>h.elim
 | .goto _,_,_,_,_,_,h=>h.elim
 | .refuse _,_,_,_,_,_,h=>h.elim
def El (fl:Dd)(ql:FuncId->Bool)(un:Nat->Bool):Code->Bool
 | .region id ops true=>un id||(U8 ops.toList&&dI ql ops.toList&&decide (pF ql ops.toList=fl id))
 | .seq a b=>El fl ql un a&&El fl ql un b
 | .cond _ a b=>El fl ql un a&&El fl ql un b
 | .block _ b=>El fl ql un b
 | .loop b=>El fl ql un b
 | _=>true
theorem BCode.to {c:Code}{T a:List AV}{H H':AH}{e:Exit}{K:Kf}(h:BCode P c T H e a H')(d:K e a H'):ACode P c K T H:=by
 refine ACode.mono h ?_;rintro i g f b;simp only[AQ.is,Ao1]at b;obtain⟨rfl,rfl,rfl⟩:=b;exact d
def ARnd (P:Program)(b:Code)(keep:List Bool)(K:Kf):Nat->List AV->AH->Prop
 | 0,_,_=>False
 | m+1,X,H=>ACode P b (M1 keep (ARnd P b keep K m) K) (BC keep X) H
theorem ARnd.code {b:Code}{keep:List Bool}{K:Kf}:∀{m:Nat} {X:List AV} {H:AH},ARnd P b keep K m X H->ACode P (.loop b) K (BC keep X) H:=by
 intro m X H h G0 G a ρ d e g f;refine wpIn_loop_rounds m ?_;have key:∀(m:Nat) (X:List AV) (H:AH) (G:Cfg) (a:Act),ARnd P b keep K m X H->Evo G0 G->FR G (BC keep X) a->DF G ρ a->HR G H->Code.roundsIn (FW ρ.1) 0 P b (sJ G0 ρ K) m a G.w:=by
  intro m
  induction m with
  | zero=>intro X H G a h;exact h.elim
  | succ m ih=>
   intro X H G a h d e g f;rw[roundsIn_succ];refine Code.wpIn_mono ?_ (h G0 G a ρ d e g f);rintro r q t ⟨p,o,i,rfl,j,k,n,l,c⟩;cases r with
   | normal=>
    obtain⟨s,c⟩:=CJ.1 c;exact ih _ _ i q c j (FM s k) n l
   | _=>exact⟨p,o,i,rfl,j,k,n,l,c⟩
 exact key m X H G a h d e g f
theorem FT {fl:Dd}{ql al:FuncId->Bool}{un:Nat->Bool}{kp:Nat->Option (List Bool)}(i:P.follows .mixedOrders=true):∀(c:Code) (n:Nat) (T:List AV) (H:AH) (K:Kf),El fl ql un c=true->AR P fl ql al un kp c n T H K->ACode P c K T H
 | .skip,n,T,H,K,_,h=>ACode.skip h
 | .label _,n,T,H,K,_,h=>ACode.label h
 | .ret,n,T,H,K,_,h=>ACode.ret h
 | .exit _,n,T,H,K,_,h=>ACode.exit h
 | .region id ops dr,n,T,H,K,hc,h=>by
  unfold AR at h;cases dr with
  | false=>exact ACode.region (qO _ _ _ _ (λ_ _ h=>h) h)
  | true=>
   simp only at h;split at h
   ·split at h
    ·obtain⟨f,h⟩:=CJ.1 h;exact ACode.weak (λ_ _ l=>FM f l) h.h
    ·exact h.elim
   ·rename_i y;simp only[El,y,Bool.false_or]at hc;have:∃e p H',K e p H'/\BCode P (.region id ops true) T H e p H':=by
     refine(Sc (fl:=fl) (ql:=ql) i (.region id ops true) T H K hc ?_);unfold aF
     try simp only
     split at h
     ·rename_i u;simp only[u];obtain⟨p,H',r,s,-⟩:=UE _ _ _ _ (Aga _ _ _ _ h);exact s _ r
     ·rename_i u;obtain⟨p,H',r,s,-⟩:=YR _ _ _ _ _ (Agb _ _ _ _ _ h);split
      ·rename_i x;exact absurd x u
      ·exact s _ r
    obtain⟨e,p,H',d,w⟩:=this;exact w.to d
 | .seq a b,n,T,H,K,hc,h=>by
  simp only[El,Am0]at hc;unfold AR at h;split at h
  ·refine ACode.seq ((FT i a _ T H _ hc.1 h).mono ?_);intro e q o d;cases e with
   | normal=>exact FT i b _ q o K hc.2 d
   | _=>exact d
  ·refine ACode.seq ((FT i a _ T H _ hc.1 h).mono ?_);intro e q o d;cases e with
   | normal=>
    obtain⟨f,d⟩:=CJ.1 d;exact ACode.weak (λ_ _ l=>FM f l) (FT i b _ _ o K hc.2 d.h)
   | _=>exact d
 | .cond c a b,n,T,H,K,hc,h=>by
  simp only[El,Am0]at hc;unfold AR bB at h;split at h
  ·rename_i t v;cases t with
   | true=>exact ACode.cond v (FT i a _ T H K hc.1 h)
   | false=>exact ACode.cond v (FT i b _ T H K hc.2 h)
  ·exact h.elim
 | .block id b,n,T,H,K,hc,h=>by
  simp only[El]at hc;unfold AR at h;refine ACode.block ((FT i b _ T H _ hc h).mono ?_);intro e q o d;cases e with
  | exit j=>
   simp only[AP]at d;split at d
   ·rename_i k;have k:=Aq3 k;simp only[AQ.inBlock,if_pos k];exact d
   ·rename_i k;have k:¬j=id:=λh=>by rw[h]at k;simp at k
    simp only[AQ.inBlock,if_neg k];exact d
  | _=>exact d
 | .loop b,n,T,H,K,hc,h=>by
  simp only[El]at hc;unfold AR at h;split at h
  ·rename_i keep _;obtain⟨f,⟨m,h⟩⟩:=CJ.1 h;refine ACode.weak (λ_ _ l=>FM f l) (ARnd.code (m:=m) ?_);have key:∀(m:Nat) (X:List AV) (H:AH),Aad keep (AR P fl ql al un kp b (n+1)) K m X H->ARnd P b keep K m X H:=by
    intro m
    induction m with
    | zero=>intro X H h;exact h
    | succ m ih=>
     intro X H h;refine(FT i b _ _ H _ hc h).mono ?_;intro e q o d;cases e with
     | normal=>
      obtain⟨f,d⟩:=CJ.1 d;exact CJ.2 ⟨f,ih _ _ d⟩
     | _=>exact d
   exact key m _ _ h
  ·exact h.elim
 | .rangeFunc g ps a b,n,T,H,K,_,h=>by
  unfold AR at h;split at h
  ·split at h
   ·obtain⟨f,h⟩:=CJ.1 h;exact ACode.weak (λ_ _ l=>FM f l) h.h
   ·exact h.elim
  ·exact h.elim
 | .scope _,_,_,_,_,_,h=>h.elim
 | .goto _,_,_,_,_,_,h=>h.elim
 | .refuse _,_,_,_,_,_,h=>h.elim
def Acb:Code->Array Oper
 | .region _ ops _=>ops
 | _=> #[]
def yP:Code->Code
 | .rangeFunc _ _ a _=>a
 | _=>.skip
def Acc (P:Program)(H:AH)(T:List AV):List ResultVar->(List AV->Prop)->Prop
 | [],K=>K []
 | .tmp t::r,K=>Acc P H T r λb=>K (T.getD t Be::b)
 | .cell a t::r,K=>match mR P t,Dc P t with
  | some g,some n=>bO (Aq g n H (T.getD a Be)) λx=>Acc P H T r λb=>K (x::b)
  | _,_=>False
theorem xF {H:AH}{T:List AV}:∀{res:List ResultVar} {K:List AV->Prop},Acc P H T res K->∃xs,iF P H T res=some xs/\K xs
 | [],K,h=>⟨[],rfl,h⟩
 | .tmp t::r,K,h=>by obtain⟨xs,b,c⟩:=xF (res:=r) h;exact⟨_,by simp only[iF,b];rfl,c⟩
 | .cell a t::r,K,h=>by
  unfold Acc at h;split at h
  ·rename_i g n d e;unfold bO at h;split at h
   ·rename_i x f;obtain⟨xs,b,c⟩:=xF (res:=r) h;exact⟨_,by simp only[iF,Adw d e,f,b],c⟩
   ·exact h.elim
  ·exact h.elim
def AN (P:Program)(res:List ResultVar)(K:AV->AH->Prop):Kf:=λe T H=>match zY e with
 | true=>Acc P H T res λa=>K (tY a) H
 | false=>False
theorem Age {res:List ResultVar}{K:AV->AH->Prop}{e:Exit}{T:List AV}{H:AH}(h:AN P res K e T H):Acm P res K e T H:=by
 unfold AN at h;unfold Acm;split at h
 ·rename_i c;obtain⟨d,a,b⟩:=xF h;rw[a];exact⟨c,b⟩
 ·exact h.elim
def AK (fn:Func):Code:=match fn.body with
 | some c=>c
 | none=>.skip
def sub:List Bool->Code->Code
 | [],c=>c
 | d::p,.seq a b=>match d with
  | true=>sub p b
  | false=>sub p a
 | d::p,.cond _ a b=>match d with
  | true=>sub p b
  | false=>sub p a
 | _::p,.block _ b=>sub p b
 | _::p,.loop b=>sub p b
 | _::p,.rangeFunc _ _ _ b=>sub p b
 | _,c=>c
def WE (P:Program)(fl:Dd)(ql al:FuncId->Bool)(un:Nat->Bool)(kp:Nat->Option (List Bool))(fn:Func)(args:List AV)(H:AH)(K:AV->AH->Prop):Prop:=fL (args++List.replicate (fn.ntmps - args.length) Be) λT=>AR P fl ql al un kp (AK fn) 0 T H (AN P fn.results.toList K)
def vR (fl:Dd)(ql:FuncId->Bool)(fn:Func):Bool:=match fn.body with
 | some c=>Hl fl ql c
 | none=>false
theorem Agf {fl:Dd}{ql:FuncId->Bool}{kp:Nat->Option (List Bool)}(l:P.follows .mixedOrders=true){f:FuncId}{fn:Func}{args:List AV}{H:AH}{K:AV->AH->Prop}(k:P.funcs[f]?=some fn)(b:vR fl ql fn=true)
  (h:WE P fl ql Aw Aw kp fn args H K):∃r H',K r H'/\BCall P f args H r H':=by
 unfold WE AK at h;unfold vR at b;split at b
 ·rename_i c d;rw[zT]at h;simp only[d]at h;obtain⟨e,q,H',a,j⟩:=Jv l c _ _ H _ b h;have a:=Age a;unfold Acm at a;obtain⟨m,a⟩:=a;split at a
  ·rename_i o n;refine⟨_,H',a,ACalls.of_body k d (j.mono ?_)⟩;rintro i s p g;simp only[AQ.is,Ao1]at g;obtain⟨rfl,rfl,rfl⟩:=g;refine⟨?_,o,n,rfl,rfl⟩
   revert m
   cases i<;>simp[zY]
  ·exact a.elim
 ·cases b
def Agg (fl:Dd)(ql:FuncId->Bool)(un:Nat->Bool)(fn:Func):Bool:=match fn.body with
 | some c=>El fl ql un c
 | none=>false
theorem L6 {fl:Dd}{ql al:FuncId->Bool}{un:Nat->Bool}{kp:Nat->Option (List Bool)}(i:P.follows .mixedOrders=true){f:FuncId}{fn:Func}{args:List AV}{H:AH}{K:AV->AH->Prop}(g:P.funcs[f]?=some fn)(b:Agg fl ql un fn=true)
  (h:WE P fl ql al un kp fn args H K):ACalls P f args H K:=by
 unfold WE AK at h;unfold Agg at b;split at b
 ·rename_i c d;rw[zT]at h;simp only[d]at h;refine ACalls.of_body g d ((FT i c _ _ H _ b h).mono ?_);intro e n m a;have a:=Age a;unfold Acm at a;obtain⟨j,a⟩:=a;split at a
  ·rename_i l k;refine⟨?_,l,k,a⟩
   revert j
   cases e<;>simp[zY]
  ·exact a.elim
 ·cases b
def mk:Nat->Nat->List Nat->List Bool
 | 0,_,_=>[]
 | n+1,i,[]=>false::mk n (i+1) []
 | n+1,i,k::r=>match Nat.beq k i with
  | true=>true::mk n (i+1) r
  | false=>false::mk n (i+1) (k::r)
def BI:List (Nat×List Bool)->Nat->Option (List Bool)
 | [],_=>none
 | (k,l)::r,n=>match Nat.beq k n with
  | true=>some l
  | false=>BI r n
def NB:List (Nat×List (Nat×Option Nat))->Dd
 | [],_=>[]
 | (k,l)::r,n=>match Nat.beq k n with
  | true=>l
  | false=>NB r n
def hU:List Nat->Nat->Bool
 | [],_=>false
 | k::r,n=>match Nat.beq k n with
  | true=>true
  | false=>hU r n
def LI0 (I:Nat->AH->Prop):Nat->List AV->AH->Prop
 | m,[],H=>I m  H
 | _,_,_=>False
def LI1 (I:Nat->AV->AH->Prop):Nat->List AV->AH->Prop
 | m,[a0],H=>I m a0 H
 | _,_,_=>False
def LI2 (I:Nat->AV->AV->AH->Prop):Nat->List AV->AH->Prop
 | m,[a0,a1],H=>I m a0 a1 H
 | _,_,_=>False
theorem LI2.elim {I:Nat->AV->AV->AH->Prop}{m:Nat}{X:List AV}{H:AH}(h:LI2 I m X H):∃a0 a1,X=[a0,a1]/\I m a0 a1 H:=by
 unfold LI2 at h;split at h
 ·exact⟨_,_,rfl,h⟩
 ·exact h.elim
def LI3 (I:Nat->AV->AV->AV->AH->Prop):Nat->List AV->AH->Prop
 | m,[a0,a1,a2],H=>I m a0 a1 a2 H
 | _,_,_=>False
theorem LI3.elim {I:Nat->AV->AV->AV->AH->Prop}{m:Nat}{X:List AV}{H:AH}(h:LI3 I m X H):∃a0 a1 a2,X=[a0,a1,a2]/\I m a0 a1 a2 H:=by
 unfold LI3 at h;split at h
 ·exact⟨_,_,_,rfl,h⟩
 ·exact h.elim
def LI4 (I:Nat->AV->AV->AV->AV->AH->Prop):Nat->List AV->AH->Prop
 | m,[a0,a1,a2,a3],H=>I m a0 a1 a2 a3 H
 | _,_,_=>False
theorem LI4.elim {I:Nat->AV->AV->AV->AV->AH->Prop}{m:Nat}{X:List AV}{H:AH}(h:LI4 I m X H):∃a0 a1 a2 a,X=[a0,a1,a2,a]/\I m a0 a1 a2 a H:=by
 unfold LI4 at h;split at h
 ·exact⟨_,_,_,_,rfl,h⟩
 ·exact h.elim
def LI5 (I:Nat->AV->AV->AV->AV->AV->AH->Prop):Nat->List AV->AH->Prop
 | m,[a0,a1,a2,a3,a4],H=>I m a0 a1 a2 a3 a4 H
 | _,_,_=>False
theorem LI5.elim {I:Nat->AV->AV->AV->AV->AV->AH->Prop}{m:Nat}{X:List AV}{H:AH}(h:LI5 I m X H):∃a0 a1 a2 a b,X=[a0,a1,a2,a,b]/\I m a0 a1 a2 a b H:=by
 unfold LI5 at h;split at h
 ·exact⟨_,_,_,_,_,rfl,h⟩
 ·exact h.elim
def LI6 (I:Nat->AV->AV->AV->AV->AV->AV->AH->Prop):Nat->List AV->AH->Prop
 | m,[a0,a1,a2,a3,a4,a5],H=>I m a0 a1 a2 a3 a4 a5 H
 | _,_,_=>False
theorem LI6.elim {I:Nat->AV->AV->AV->AV->AV->AV->AH->Prop}{m:Nat}{X:List AV}{H:AH}(h:LI6 I m X H):∃a0 a1 a2 a b c,X=[a0,a1,a2,a,b,c]/\I m a0 a1 a2 a b c H:=by
 unfold LI6 at h;split at h
 ·exact⟨_,_,_,_,_,_,rfl,h⟩
 ·exact h.elim
def LI7 (I:Nat->AV->AV->AV->AV->AV->AV->AV->AH->Prop):Nat->List AV->AH->Prop
 | m,[a0,a1,a2,a3,a4,a5,a6],H=>I m a0 a1 a2 a3 a4 a5 a6 H
 | _,_,_=>False
theorem LI7.elim {I:Nat->AV->AV->AV->AV->AV->AV->AV->AH->Prop}{m:Nat}{X:List AV}{H:AH}(h:LI7 I m X H):∃a0 a1 a2 a b c d,X=[a0,a1,a2,a,b,c,d]/\I m a0 a1 a2 a b c d H:=by
 unfold LI7 at h;split at h
 ·exact⟨_,_,_,_,_,_,_,rfl,h⟩
 ·exact h.elim
def LI8 (I:Nat->AV->AV->AV->AV->AV->AV->AV->AV->AH->Prop):Nat->List AV->AH->Prop
 | m,[a0,a1,a2,a3,a4,a5,a6,a7],H=>I m a0 a1 a2 a3 a4 a5 a6 a7 H
 | _,_,_=>False
theorem LI8.elim {I:Nat->AV->AV->AV->AV->AV->AV->AV->AV->AH->Prop}{m:Nat}{X:List AV}{H:AH}(h:LI8 I m X H):∃a0 a1 a2 a b c d e,X=[a0,a1,a2,a,b,c,d,e]/\I m a0 a1 a2 a b c d e H:=by
 unfold LI8 at h;split at h
 ·exact⟨_,_,_,_,_,_,_,_,rfl,h⟩
 ·exact h.elim
def LI9 (I:Nat->AV->AV->AV->AV->AV->AV->AV->AV->AV->AH->Prop):Nat->List AV->AH->Prop
 | m,[a0,a1,a2,a3,a4,a5,a6,a7,a8],H=>I m a0 a1 a2 a3 a4 a5 a6 a7 a8 H
 | _,_,_=>False
theorem LI9.elim {I:Nat->AV->AV->AV->AV->AV->AV->AV->AV->AV->AH->Prop}{m:Nat}{X:List AV}{H:AH}(h:LI9 I m X H):∃a0 a1 a2 a b c d e f,X=[a0,a1,a2,a,b,c,d,e,f]/\I m a0 a1 a2 a b c d e f H:=by
 unfold LI9 at h;split at h
 ·exact⟨_,_,_,_,_,_,_,_,_,rfl,h⟩
 ·exact h.elim
def Ane (I:Nat->AV->AV->AV->AV->AV->AV->AV->AV->AV->AV->AH->Prop):Nat->List AV->AH->Prop
 | m,[a0,a1,a2,a3,a4,a5,a6,a7,a8,a9],H=>I m a0 a1 a2 a3 a4 a5 a6 a7 a8 a9 H
 | _,_,_=>False
def Anf (I:Nat->AV->AV->AV->AV->AV->AV->AV->AV->AV->AV->AV->AH->Prop):Nat->List AV->AH->Prop
 | m,[a0,a1,a2,a3,a4,a5,a6,a7,a8,a9,a10],H=>I m a0 a1 a2 a3 a4 a5 a6 a7 a8 a9 a10 H
 | _,_,_=>False
def Ang (I:Nat->AV->AV->AV->AV->AV->AV->AV->AV->AV->AV->AV->AV->AH->Prop):Nat->List AV->AH->Prop
 | m,[a0,a1,a2,a3,a4,a5,a6,a7,a8,a9,a10,a11],H=>I m a0 a1 a2 a3 a4 a5 a6 a7 a8 a9 a10 a11 H
 | _,_,_=>False
def Anh (I:Nat->AV->AV->AV->AV->AV->AV->AV->AV->AV->AV->AV->AV->AV->AH->Prop):Nat->List AV->AH->Prop
 | m,[a0,a1,a2,a3,a4,a5,a6,a7,a8,a9,a10,a11,a12],H=>I m a0 a1 a2 a3 a4 a5 a6 a7 a8 a9 a10 a11 a12 H
 | _,_,_=>False
def Ani (I:Nat->AV->AV->AV->AV->AV->AV->AV->AV->AV->AV->AV->AV->AV->AV->AH->Prop):Nat->List AV->AH->Prop
 | m,[a0,a1,a2,a3,a4,a5,a6,a7,a8,a9,a10,a11,a12,a13],H=>I m a0 a1 a2 a3 a4 a5 a6 a7 a8 a9 a10 a11 a12 a13 H
 | _,_,_=>False
def Anj (I:Nat->AV->AV->AV->AV->AV->AV->AV->AV->AV->AV->AV->AV->AV->AV->AV->AH->Prop):Nat->List AV->AH->Prop
 | m,[a0,a1,a2,a3,a4,a5,a6,a7,a8,a9,a10,a11,a12,a13,a14],H=>I m a0 a1 a2 a3 a4 a5 a6 a7 a8 a9 a10 a11 a12 a13 a14 H
 | _,_,_=>False
def Ank (I:Nat->AV->AV->AV->AV->AV->AV->AV->AV->AV->AV->AV->AV->AV->AV->AV->AV->AH->Prop):Nat->List AV->AH->Prop
 | m,[a0,a1,a2,a3,a4,a5,a6,a7,a8,a9,a10,a11,a12,a13,a14,a15],H=>I m a0 a1 a2 a3 a4 a5 a6 a7 a8 a9 a10 a11 a12 a13 a14 a15 H
 | _,_,_=>False
def Anl (I:Nat->AV->AV->AV->AV->AV->AV->AV->AV->AV->AV->AV->AV->AV->AV->AV->AV->AV->AH->Prop):Nat->List AV->AH->Prop
 | m,[a0,a1,a2,a3,a4,a5,a6,a7,a8,a9,a10,a11,a12,a13,a14,a15,a16],H=>I m a0 a1 a2 a3 a4 a5 a6 a7 a8 a9 a10 a11 a12 a13 a14 a15 a16 H
 | _,_,_=>False
def Anm (I:Nat->AV->AV->AV->AV->AV->AV->AV->AV->AV->AV->AV->AV->AV->AV->AV->AV->AV->AV->AH->Prop):Nat->List AV->AH->Prop
 | m,[a0,a1,a2,a3,a4,a5,a6,a7,a8,a9,a10,a11,a12,a13,a14,a15,a16,a17],H=>I m a0 a1 a2 a3 a4 a5 a6 a7 a8 a9 a10 a11 a12 a13 a14 a15 a16 a17 H
 | _,_,_=>False
end
end Go.Proofs.YtbppnhenlboefaaGreat.Av
end
