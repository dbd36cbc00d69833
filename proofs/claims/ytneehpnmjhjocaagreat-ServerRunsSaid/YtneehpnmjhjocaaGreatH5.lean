/-
  Proved here: parts of this claim.
  Conditions: told at each.
-/
import Derived.Test.YtneehpnmjhjocaaGreatH4
set_option maxHeartbeats 4000000
set_option linter.unusedVariables false
set_option linter.unusedSimpArgs false
namespace Go.W
open Go
variable {B i j k m n n3:Nat} {D R:Nat -> Prop} {P:Program} {a a3:Option Addr} {g:GrD} {ps:List Int} {q:QyD} {s:List UInt8} {u u' w' w1 w2:World}
section
variable {g:GrD} {W:Nat} {h:Hs}
theorem zEF{slot:Int}{x:StD}(h:x∈sts g q slot i):x.key.slot=slot:=by
 have b:=zBt.1 h;obtain⟨j,_,h⟩:=b;exact(zA2.1 h).1
theorem zBn{o:Option (RqD×Nat)}{x:StD}(h:x∈sts1 g o k):x.key.slot=(k:Int):=by
 cases o with
 |none=>cases h
 |some p=>obtain⟨r,i⟩:=p;exact zEF h
theorem zEE(g:GrD)(o:Option (RqD×Nat))(k:Nat):SRis (sts1 g o k):=by
 cases o with
 |none=>exact .nil
 |some p=>obtain⟨r,i⟩:=p;exact zF0 _
theorem zGU{x:StD}:x∈allS g h↔∃k,k<h.length/\x∈sts1 g (h.getD k none) k:=by
 unfold allS;rw [VP];simp only [Q0]
theorem zOk(g:GrD)(h:Hs):SRis (allS g h):=by
 unfold allS;rw [SRis,XQ];refine⟨λk _=>zEE g _ k,?_⟩;exact List.pairwise_lt_range.imp λhlt x b y c=>.inl (by rw [zBn b,zBn c];omega)
theorem zBX{x:StD}(c:k<h.length)(e:x.key.slot=(k:Int)):x∈allS g h↔x∈sts1 g (h.getD k none) k:=by
 rw [zGU];constructor
 ·rintro⟨j,_,b⟩;have:=zBn b;have d:j=k:=by omega
  obtain rfl:=d;exact b
 ·exact λb=>⟨k,c,b⟩
theorem zBC{x:StD}{o:Option (RqD×Nat)}(d:k<h.length)(e:x.key.slot≠(k:Int)):x∈allS g (h.set k o)↔x∈allS g h:=by
 rw [zGU,zGU];simp only [Jc];constructor
 ·rintro⟨j,c,b⟩;have:=zBn b;rw [zAz d,if_neg (by rintro rfl;exact e this)] at b;exact⟨j,c,b⟩
 ·rintro⟨j,c,b⟩;have:=zBn b;refine⟨j,c,?_⟩;rw [zAz d,if_neg (by rintro rfl;exact e this)];exact b
def wkS (g:GrD) (W:Nat) (h:Hs) (k:Nat):List StD:=(allS g h).filter λx=>decide (homW W x.key.v=k)
theorem zAP{x:StD}:x∈wkS g W h k↔x∈allS g h/\homW W x.key.v=k:=by simp [wkS]
theorem zBz(g:GrD)(W:Nat)(h:Hs)(k:Nat):SRis (wkS g W h k):=(zOk g h).filter _
theorem zMO(g:GrD)(W:Nat)(h:Hs)(k:Nat):(wkS g W h k).length=liveW g W h k:=rfl
def ButS (g:GrD) (W:Nat) (h:Hs) (k0:Nat) (Ls:Nat->List StD):Prop:=∀k,SRis (Ls k)/\∀x,x.key.slot≠(k0:Int)->(x∈Ls k↔x∈wkS g W h k)
theorem zOp(k0:Nat):ButS g W h k0 (wkS g W h):=λk=>⟨zBz g W h k,λ_ _=>Iff.rfl⟩
theorem ButS.drop{k0:Nat}{Ls:Nat->List StD}(H:ButS g W h k0 Ls)(b:k0<h.length)(k:Nat):dropS (Ls k) (k0:Int)=wkS g W (h.set k0 none) k:=by
 refine SRis.uniq ((H k).1.filter _) (zBz ..) λx=>?_;unfold dropS;rw [QC,decide_eq_true_eq,zAP];constructor
 ·rintro⟨c,d⟩;have o:=zAP.1 (((H k).2 x d).1 c);obtain⟨f,p⟩:=o;exact⟨(zBC b d).2 f,p⟩
 ·rintro⟨c,d⟩
  have l:x.key.slot≠(k0:Int):=λe=>by
   have f:=(zBX (h:=h.set k0 none) (by simpa using b) e).1 c;rw [zAz b,if_pos rfl] at f;cases f
  exact⟨((H k).2 x l).2 (zAP.2 ⟨(zBC b l).1 c,d⟩),l⟩
theorem of_wkS{k0:Nat}(e:k0<h.length)(k:Nat):ofS (wkS g W h k) (k0:Int)=(sts1 g (h.getD k0 none) k0).filter λx=>decide (homW W x.key.v=k):=by
 refine SRis.uniq ((zBz ..).filter _) ((zEE ..).filter _) λx=>?_;unfold ofS;simp only [QC,decide_eq_true_eq,zAP];constructor
 ·rintro⟨⟨b,d⟩,c⟩;exact⟨(zBX e c).1 b,d⟩
 ·rintro⟨b,d⟩;have c:=zBn b;exact⟨⟨(zBX e c).2 b,d⟩,c⟩
theorem sts1_v{o:Option (RqD×Nat)}{x:StD}(h:x∈sts1 g o k):0<=x.key.v:=by
 cases o with
 |none=>cases h
 |some p =>
  obtain⟨r,i⟩:=p;have b:=zBt.1 h;obtain⟨j,_,h⟩:=b;have b:=zA2.1 h;obtain⟨_,_,_,v,c,_⟩:=b;omega
theorem zJZ{v:Int}(b:1<=W):0<=homW W v/\homW W v<W:=by
 unfold homW;exact⟨Vs _ (by omega),VT _ (by omega)⟩
theorem of_all{k0:Nat}(c:k0<h.length)(d:1<=W):((List.range W).flatMap λk=>ofS (wkS g W h k) (k0:Int)).Perm (sts1 g (h.getD k0 none) k0):=by
 refine(JM ?_ (zEE ..).nodup).2 λx=>?_
 ·rw [Qx,XQ];refine⟨λk _=>?_,List.pairwise_lt_range.imp λhlt x f y l e=>?_⟩
  ·rw [<-Qx];exact((zBz ..).nodup).filter _
  ·subst e;have b:=(zAP.1 (QC.1 f).1).2;have o:=(zAP.1 (QC.1 l).1).2;omega
 ·rw [VP];simp only [of_wkS c,QC,decide_eq_true_eq,Q0];constructor
  ·rintro⟨k,_,b,_⟩;exact b
  ·intro b;have o:=zJZ (W:=W) (v:=x.key.v) d;exact⟨(homW W x.key.v).toNat,by omega,b,by omega⟩
def KeepI (g:GrD) (W:Nat) (h:Hs) (l:List StD) (j:Nat) (Ls:Nat->List StD):Prop:=∀k,SRis (Ls k)/\∀x,x∈Ls k↔x∈wkS g W h k\/(x∈l.take j/\homW W x.key.v=k)
theorem zNJ(l:List StD):KeepI g W h l 0 (wkS g W h):=λk=>⟨zBz ..,λx=>by simp⟩
variable {x0:RqD} {i k0 j:Nat} {Ls:Nat->List StD}
abbrev aftS (h:Hs) (k0:Nat) (x0:RqD) (i:Nat):Hs:=h.set k0 (some (x0,i+1))
theorem aft_at(b:k0<h.length){x:StD}(c:x.key.slot=(k0:Int)):x∈allS g (aftS h k0 x0 i)↔x∈sts g x0.q k0 (i+1):=by
 rw [zBX (by simpa using b) c,zAz b,if_pos rfl];rfl
theorem zPq(e:h.getD k0 none=some (x0,i)){x:StD}(b:x∈allS g h):x∈allS g (aftS h k0 x0 i):=by
 have c:=zAo e;obtain⟨d,_⟩:=c;by_cases f:x.key.slot=(k0:Int)
 ·rw [aft_at d f];rw [zBX d f,e] at b;have c:=zBt.1 b;obtain⟨j,o,l⟩:=c;exact zBt.2 ⟨j,by omega,l⟩
 ·exact(zBC d f).2 b
theorem KeepI.sub(e:h.getD k0 none=some (x0,i))(H:KeepI g W h (sts g x0.q k0 (i+1)) j Ls){x:StD}(f:x∈Ls k):x∈wkS g W (aftS h k0 x0 i) k:=by
 have b:=zAo e;obtain⟨l,_⟩:=b;have b:=((H k).2 x).1 f;rcases b with d|⟨d,o⟩
 ·have b:=zAP.1 d;obtain⟨c,p⟩:=b;exact zAP.2 ⟨zPq e c,p⟩
 ·have c:=Vu d;exact zAP.2 ⟨(aft_at l (zEF c)).2 c,o⟩
theorem KeepI.but(H:KeepI g W h (sts g x0.q k0 (i+1)) j Ls):ButS g W h k0 Ls:=λk=>⟨(H k).1,λx b=>by
 rw [(H k).2];exact⟨λc=>c.elim id λd=>absurd (zEF (Vu d.1)) b,.inl⟩⟩
def updL (Ls:Nat->List StD) (k:Nat) (L:List StD):Nat->List StD:=λj=>if j=k then L else Ls j
theorem KeepI.put(e:h.getD k0 none=some (x0,i))(H:KeepI g W h (sts g x0.q k0 (i+1)) j Ls)(G:j<(sts g x0.q k0 (i+1)).length){x:StD}(I:(sts g x0.q k0 (i+1))[j]=x)(C:mayX x)(J:homW W x.key.v=k):
  ((putS' n (Ls k) x).2=140/\(putS' n (Ls k) x).1=Ls k/\n<liveW g W (aftS h k0 x0 i) k)\/((putS' n (Ls k) x).2≠140/\KeepI g W h (sts g x0.q k0 (i+1)) (j+1) (updL Ls k (putS' n (Ls k) x).1)):=by
 have o:=zAo e;obtain⟨O,_⟩:=o;have p:x∈sts g x0.q k0 (i+1):=I ▸ Qa G;have r:x∈wkS g W (aftS h k0 x0 i) k:=zAP.2 ⟨(aft_at O (zEF p)).2 p,J⟩;have d:(sts g x0.q k0 (i+1)).take (j+1)=(sts g x0.q k0 (i+1)).take j++[x]:=by rw [QO G,I]
 unfold putS';rw [if_pos C]
 cases K:hasS (Ls k) x.key with
 |some y =>
  right;have o:=zIJ (H k).1 |>.1 K;obtain⟨L,E⟩:=o;have F:y=x:=(zBz ..).inj (H.sub e L) r E;subst F;refine⟨by dsimp only;decide,λc=>?_⟩;dsimp only;have t:updL Ls k (Ls k) c=Ls c:=by unfold updL;split <;> simp_all
  rw [t];refine⟨(H c).1,λz=>?_⟩;rw [(H c).2,d];constructor
  ·rintro(b|⟨b,f⟩)
   ·exact .inl b
   ·exact .inr ⟨QN _ b,f⟩
  ·rintro(b|⟨b,f⟩)
   ·exact .inl b
   ·have o:=Qf.1 b;rcases o with l|l
    ·exact .inr ⟨l,f⟩
    ·rw [Qc] at l;subst l;have:c=k:=by omega
     subst this;exact((H _).2 _).1 L
 |none =>
  have M:=zII.1 K;dsimp only;by_cases N:n<=(Ls k).length
  ·left;rw [if_pos N];refine⟨rfl,rfl,?_⟩
   have Q:Ls k=(wkS g W (aftS h k0 x0 i) k).filter λy=>decide (y∈Ls k):=by
    refine SRis.uniq (H k).1 ((zBz ..).filter _) λz=>?_;rw [QC,decide_eq_true_eq];exact⟨λA=>⟨H.sub e A,A⟩,λA=>A.2⟩
   have l:((wkS g W (aftS h k0 x0 i) k).filter λy=>decide (y∈Ls k)).length<(wkS g W (aftS h k0 x0 i) k).length:=by
    rw [Xo];exact⟨x,r,by simpa using λC=>M x C rfl⟩
   rw [<-Q,zMO] at l;omega
  ·right;rw [if_neg N];refine⟨by dsimp only;decide,λc=>?_⟩;by_cases w:c=k
   ·subst w;have t:updL Ls c (insS x (Ls c)) c=insS x (Ls c):=if_pos rfl;rw [t];refine⟨zEm x (H c).1 M,λz=>?_⟩;rw [(zBQ x _).mem_iff,Ql,(H c).2,d,Qf,Qc];constructor
    ·rintro(rfl|b|⟨b,f⟩)
     ·exact .inr ⟨.inr rfl,J⟩
     ·exact .inl b
     ·exact .inr ⟨.inl b,f⟩
    ·rintro(b|⟨b|b,f⟩)
     ·exact .inr (.inl b)
     ·exact .inr (.inr ⟨b,f⟩)
     ·exact .inl b
   ·have t:updL Ls k (insS x (Ls k)) c=Ls c:=if_neg w;rw [t];refine⟨(H c).1,λz=>?_⟩;rw [(H c).2,d,Qf,Qc];constructor
    ·rintro(b|⟨b,f⟩)
     ·exact .inl b
     ·exact .inr ⟨.inl b,f⟩
    ·rintro(b|⟨b|b,f⟩)
     ·exact .inl b
     ·exact .inr ⟨b,f⟩
     ·subst b;omega
theorem KeepI.end(e:h.getD k0 none=some (x0,i))(H:KeepI g W h (sts g x0.q k0 (i+1)) (sts g x0.q k0 (i+1)).length Ls):Ls=wkS g W (aftS h k0 x0 i):=by
 have b:=zAo e;obtain⟨d,_⟩:=b;funext k;refine SRis.uniq (H k).1 (zBz ..) λx=>⟨λc=>H.sub e c,λc=>?_⟩;rw [(H k).2,Qg];have b:=zAP.1 c;obtain⟨f,l⟩:=b;by_cases o:x.key.slot=(k0:Int)
 ·exact .inr ⟨(aft_at d o).1 f,l⟩
 ·exact .inl (zAP.2 ⟨(zBC d o).1 f,l⟩)
end
theorem zPF{c:CfD}{s:SvD}(h:SvOk g c s){x:RqD}(e:s.held.getD k none=some (x,i)):SvOk g c ⟨s.wait,s.held.set k none⟩:=by
 have b:=zAo e;obtain⟨f,o⟩:=b;refine⟨by simpa using h.len,h.wl,h.wait,λy j l=>?_,?_,zDN (zFk f) h.pool⟩
 ·have b:=zB7 l;rcases b with d|d
  ·exact h.held y j d
  ·cases d
 ·have:=((zDj f e).append_right (idsW s.wait)).nodup_iff.2 h.ids;rw [VO,JC] at this;exact this.2
theorem zGh{α b:Type}{f:α->Option Int}{f':b->Option Int}{p:α->Bool}{c:b->Bool}{l:List α}{m:List b}{id:Int}(e:∀x,p x=decide (f x=some id))(d:∀x,c x=decide (f' x=some id))(h:l.map f=m.map f'):l.findIdx? p=m.findIdx? c:=by
 have r:l.findIdx? p=(l.map f).findIdx? λo=>decide (o=some id):=by rw [VH];congr 1;funext x;exact e x
 have t:m.findIdx? c=(m.map f').findIdx? λo=>decide (o=some id):=by rw [VH];congr 1;funext x;exact d x
 rw [r,t,h]
theorem zFX{α b c:Type}{f:α->c}{f':b->c}{l:List α}{m:List b}(d:l.length=m.length)(h:∀i (h:i<l.length) (p:i<m.length),f l[i]=f' m[i]):l.map f=m.map f':=by
 apply Xg (by simpa using d);intro i e o;simp only [Ym];exact h i (by simpa using e) (by simpa using o)
def idAt (h:Hs) (k:Nat):Int:=match h.getD k none with|some (x,_)=>x.id|none=>0
theorem zPk{h:Hs}:(usedS h).map (idAt h)=idsH h:=by
 unfold usedS selN idsH
 have c:∀m,m<=h.length->((List.range m).filter λk=>(h.getD k none).isSome).map (idAt h)=(h.take m).filterMap λo=>o.map (·.1.id):=by
  intro m
  induction m with
  |zero=>intro _;simp
  |succ m d =>
   intro f;have b:h.getD m none=h[m]'(by omega):=by rw [Qk,Qd (by omega),QP]
   rw [Jm,QV,QB,d (by omega),QO (by omega),XP];congr 1;rw [Vj,List.filter_nil]
   cases e:h[m]'(by omega) with
   |none=>rw [e] at b;rw [b];rfl
   |some p=>obtain⟨x,i⟩:=p;rw [e] at b;simp only [idAt,b,Option.isSome_some,if_true,QS,JP,List.filterMap_cons,List.filterMap_nil,JD]
 have:=c h.length (Qe _);rw [Qg] at this;exact this
theorem zOl{h:Hs}(c:k<h.length)(e:h.getD k none=none)(x:RqD):allS g (h.set k (some (x,0)))=allS g h:=by
 unfold allS;rw [Jc];congr 1;funext j;rw [zAz c];by_cases b:j=k
 ·subst b;rw [if_pos rfl,e];rfl
 ·rw [if_neg b]
theorem zQj{W:Nat}{h:Hs}(b:k<h.length)(e:h.getD k none=none)(x:RqD):wkS g W (h.set k (some (x,0)))=wkS g W h:=by
 funext j;unfold wkS;rw [zOl b e]
theorem zIy{c:CfD}(o:CfOk c){x:RqD}{r:List RqD}{h:Hs}(s:SvOk g c ⟨x::r,h⟩)(e:freeS h=some k):SvOk g c ⟨r,h.set k (some (x,0))⟩:=by
 have b:=zCo e;obtain⟨l,p⟩:=b
 have t:(idsH (h.set k (some (x,0)))++idsW r).Perm (idsH h++idsW (x::r)):=by
  refine((zJ1 l p x 0).symm.append_right _).trans ?_;show (x.id::idsH h++idsW r).Perm (idsH h++(x.id::idsW r));exact List.perm_middle.symm
 refine⟨by simpa using s.len,by have:=s.wl;simp at this ⊢;omega,λy d=>s.wait y (QF _ d),λy i d=>?_,t.nodup_iff.2 s.ids,?_⟩
 ·have b:=zB7 d;rcases b with f|f
  ·exact s.held y i f
  ·cases f;exact⟨s.wait x Qs,by have:=o.budget.1;omega⟩
 ·refine zDN (λw=>?_) s.pool;have:=zGS (g:=g) (W:=c.workers) (w:=w) l (some (x,0));rw [zJO] at this;dsimp only;omega
open Go Go.Proofs
open Enc (enc)
set_option maxRecDepth 10000
theorem zFu{b:Option Addr}{r ca y cb:Nat}{la lb:List ByteArray}{w:World}(z:SlF w (.slice a r ca) la)(A:SlF w (.slice b y cb) lb)(I:la.length<=1000000):
  Sp PP 13 #[.slice a r ca,.slice b y cb] w λv w'=>Tells (la=lb) v/\Stp w w':=by
 have c:=z.len;obtain rfl:=c;have c:=A.len;obtain rfl:=c;refine eN ?_;refine ite (λh=>⟨.f (λe=>h (by rw [e])),stp⟩) (λh=>?_);have J:la.length=lb.length:=by omega
 refine loop1 TBok 6 [4] 5 (λi w'=>∃k:Nat,k<=la.length/\i=.int .i64 k/\la.take k=lb.take k/\Stp w w') (λi _=>la.length - (Go.RowKit.intOf i).toNat) rfl ⟨0,by omega,rfl,by simp,stp⟩ ?_;rintro i g w' ⟨k,K,rfl,d,e⟩;refine ite (λhlt=>?_) (λC=>?_)
 ·have l:k<la.length:=by omega
  have o:k<lb.length:=by omega
  refine dQ 9 λw1 L=>tix z.up (x:=la[k]) (by simp) λM N E _=>tload1 (E.cell0 rfl) id (tix A.up (x:=lb[k]) (by simp) λO Q G _=>tload1 (G.cell0 rfl) id (tsne (λp=>⟨.f (by rintro rfl;exact p rfl),stp⟩) (λH=>?_)));refine rA ⟨⟨k+1,by omega,rfl,?_,stp⟩,?_⟩
  ·rw [QO l,QO o,d,H]
  ·show _ - (k+1)<_ - k;omega
 ·have c:k=la.length:=by omega
  obtain rfl:=c;rw [Qj (Qe _),Qj (by omega)] at d;exact⟨.t d,e⟩
def zeroQ:RQ:=⟨0,0,0,⟨none,0,0⟩,0,0⟩
def zeroR:RReq:=⟨0,0,zeroQ⟩
def zeroH:RHeld:=⟨false,zeroR⟩
def freeAt (l:List RHeld):Option Nat:=l.findIdx? (λh=>!h.used)
def putH (l:List RHeld) (x:RReq):Int×List RHeld×Int:=match freeAt l with
 |some k=>(k,l.set k ⟨true,x⟩,0)
 |none=>(0,[],140)
def dropH (l:List RHeld) (i:Int):List RHeld×Int:=
 if i<0\/(l.length:Int)<=i then ([],1) else if (l.getD i.toNat zeroH).used then (l.set i.toNat zeroH,0) else ([],141)
def foundAt (l:List RHeld) (id:Int):Option Nat:=l.findIdx? (λh=>h.used && decide (h.r.id=id))
def findV (o:Option Nat):Int×Bool:=match o with
 |some k=>(k,true)
 |none=>(0,false)
def newH (n:Int):List RHeld×Int:=if n<1\/64<n then ([],1) else (List.replicate n.toNat zeroH,0)
def usedAt (l:List RHeld) (n:Nat):List Nat:=selN (λi=>(l.getD i zeroH).used) n
def usedH (l:List RHeld):List Int:=(usedAt l l.length).map λk:Nat=>(k:Int)
theorem zCl{α:Type}{p:α->Bool}{l:List α}(c:k<l.length)(d:p l[k]=true)(e:∀j,(b:j<k)->p (l[j]'(by omega))=false):l.findIdx? p=some k:=by
 rw [JB];exact⟨c,d,λj b=>by simpa using e j b⟩
theorem zCk{α:Type}{p:α->Bool}{l:List α}(h:∀j,(b:j<l.length)->p l[j]=false):l.findIdx? p=none:=by
 rw [Ve];intro x c;have d:=QI.1 c;obtain⟨j,b,rfl⟩:=d;exact h j b
theorem zHL{c:Nat}{l:List RHeld}{w:World}(h:SlF w (.slice a n c) l)(e:l.length<=100000):Sp PP 118 #[.slice a n c] w λv w'=>Own w.heap.size 130 w' v l/\Stp w w':=by
 have d:=h.len;obtain rfl:=d;refine eN ?_;refine rapp (u:=w) ⟨rfl,rfl⟩ (Own.nil _ 130 _) h (by simp;omega) λf o b p r=>?_;rw [Je] at b;exact⟨b,stp⟩
theorem zNm{c:Nat}{l:List RHeld}{x:RReq}{w:World}(h:SlF w (.slice a n c) l)(C:l.length<=100000):
  Sp PP 58 #[.slice a n c,agg x] w λv w'=>(∃y,v=.tuple #[.int .i64 (putH l x).1,y,.int .i64 (putH l x).2.2]/\Own w.heap.size 130 w' y (putH l x).2.1)/\Stp w w':=by
 have f:=h.len;obtain rfl:=f;refine eN ?_;refine rbx λb w1 n1 L=>cnt TBok 9 [8,4,5,6] 7 l.length (λk w'=>(∀j,j<k->(hl:j<l.length)->l[j].used=true)/\Stp w1 w') rfl rfl ⟨by omega,stp⟩ ?_;rintro k g w' M ⟨o,e⟩;refine ite (λhlt=>?_) (λG=>?_)
 ·have d:k<l.length:=by omega
  refine rix h.up (x:=l[k]) (by simp) λN O H=>rload1 (H.cell0 rfl) ?_;cases z:l[k].used
  ·refine rcall (zHL h.up C) ?_;rintro v w2 ⟨p,Q⟩;have f:=p.shape;obtain⟨oa,oc,rfl⟩:=f;refine rldG rfl rfl ?_;refine rbuild (cs:=enc (⟨true,x⟩:RHeld)) rfl (rixO rfl p (x:=l[k]) (by simp) λS I _ A=>rstO rfl (⟨true,x⟩:RHeld) p I d rfl λT J U V _=>?_);have r:freeAt l=some k:=zCl d (by simp [z]) λj t=>by simp [o j t (by omega)]
   have K:putH l x=((k:Int),l.set k ⟨true,x⟩,0):=by unfold putH;rw [r]
   rw [K];exact⟨⟨_,rfl,J.older⟩,stp⟩
  ·refine rA ⟨rfl,d,below o λ_=>z,stp⟩
 ·have r:freeAt l=none:=zCk λj t=>by simp [o j (by omega) t]
  unfold putH;rw [r];exact⟨⟨_,rfl,Own.nil _ _ _⟩,stp⟩
theorem zLK{c:Nat}{l:List RHeld}{i:Int}{w:World}(h:SlF w (.slice a n c) l)(r:l.length<=100000):
  Sp PP 218 #[.slice a n c,.int .i64 i] w λv w'=>(∃f,v=.tuple #[f,.int .i64 (dropH l i).2]/\Own w.heap.size 130 w' f (dropH l i).1)/\Stp w w':=by
 have b:=h.len;obtain rfl:=b;refine eN ?_;unfold dropH;refine ite (λd=>?_) (λd=>?_)
 ·rw [if_pos (.inl d)];exact⟨⟨_,rfl,Own.nil _ _ _⟩,stp⟩
 refine ite (λo=>?_) (λo=>?_)
 ·rw [if_pos (.inr o)];exact⟨⟨_,rfl,Own.nil _ _ _⟩,stp⟩
 rw [if_neg (by omega)];have b:=QU (Int.not_lt.1 d);obtain⟨k,rfl⟩:=b;have p:k<l.length:=by omega
 rw [QW,zAq p];refine rix h (x:=l[k]) (by simp) λC G t=>rload1 (t.cell0 rfl) ?_;cases H:l[k].used
 ·rw [if_neg (by simp)];exact⟨⟨_,rfl,Own.nil _ _ _⟩,stp⟩
 ·rw [if_pos rfl];refine rcall (zHL h r) ?_;rintro v w2 ⟨e,I⟩;have b:=e.shape;obtain⟨oa,oc,rfl⟩:=b;refine rbuild (cs:=enc zeroH) rfl (rixO rfl e (x:=l[k]) (by simp) λJ y _ A=>rstO rfl zeroH e y p rfl λK z L M _=>?_);exact⟨⟨_,rfl,z.older⟩,stp⟩
theorem zGv{c:Nat}{l:List RHeld}{id:Int}{w:World}(h:SlF w (.slice a n c) l)(G:l.length<=100000):
  Sp PP 70 #[.slice a n c,.int .i64 id] w λv w'=>v=.tuple #[.int .i64 (findV (foundAt l id)).1,.bool (findV (foundAt l id)).2]/\Stp w w':=by
 have y:=h.len;obtain rfl:=y;refine eN ?_;refine cnt TBok 7 [4,5] 6 l.length (λk w'=>(∀j,j<k->(hl:j<l.length)->(l[j].used && decide (l[j].r.id=id))=false)/\Stp w w') rfl rfl ⟨by omega,stp⟩ ?_;rintro k g w' H ⟨d,e⟩;refine ite (λhlt=>?_) (λz=>?_)
 ·have b:k<l.length:=by omega
  refine rix h.up (x:=l[k]) (by simp) λI J A=>rload1 (A.cell0 rfl) ?_;cases t:l[k].used
  ·exact rA ⟨rfl,b,below d λ_=>by simp [t],stp⟩
  ·refine rix h.up (x:=l[k]) (by simp) λK L C=>rload1 (C.cell 1 rfl) (ite (λE=>?_) (λf=>?_))
   ·have o:foundAt l id=some k:=zCl b (by simp [t,E]) λj p=>d j p (by omega);rw [o];exact⟨rfl,stp⟩
   ·exact rA ⟨rfl,b,below d λ_=>by simp [f],stp⟩
 ·have o:foundAt l id=none:=zCk λj p=>d j (by omega) p;rw [o];exact⟨rfl,stp⟩
theorem zKX{n:Int}{w:World}:Sp PP 40 #[.int .i64 n] w λv w'=>(∃b,v=.tuple #[b,.int .i64 (newH n).2]/\Own w.heap.size 130 w' b (newH n).1)/\Stp w w':=by
 refine eN ?_;unfold newH;refine ite (λc=>?_) (λc=>?_)
 ·rw [if_pos (.inl c)];exact⟨⟨_,rfl,Own.nil _ _ _⟩,stp⟩
 refine ite (λd=>?_) (λd=>?_)
 ·rw [if_pos (.inr d)];exact⟨⟨_,rfl,Own.nil _ _ _⟩,stp⟩
 rw [if_neg (by omega)];have e:=QU (show (0:Int)<=n by omega);obtain⟨k,rfl⟩:=e;rw [QW];refine rmk zeroH rfl rfl (by omega) λg w1 f h _=>?_;exact⟨⟨_,rfl,f⟩,stp⟩
theorem zL2{l:List RHeld}(h:k<l.length):usedAt l (k+1)=if l[k].used then usedAt l k++[k] else usedAt l k:=by
 unfold usedAt;rw [zFI,zAq h]
theorem zGw{c:Nat}{l:List RHeld}{w:World}(h:SlF w (.slice a n c) l)(I:l.length<=100000):
  Sp PP 56 #[.slice a n c] w λv w'=>Own w.heap.size 3 w' v (usedH l)/\Stp w w':=by
 have d:=h.len;obtain rfl:=d;refine eN ?_;refine cnt1 TBok 5 [2] 3 4 l.length (λk out w'=>Own w.heap.size 3 w' out ((usedAt l k).map λk:Nat=>(k:Int))/\Stp w w') rfl rfl ⟨Own.nil _ _ _,stp⟩ ?_;rintro k out g w' J ⟨f,e⟩;refine ite (λhlt=>?_) (λr=>?_)
 ·have b:k<l.length:=by omega
  have o:=zL2 b;refine rix h.up (x:=l[k]) (by simp) λK L t=>rload1 (t.cell0 rfl) ?_;cases y:l[k].used <;> rw [y] at o
  ·have p:Own w.heap.size 3 w' out ((usedAt l (k+1)).map λk:Nat=>(k:Int)):=by rw [o];exact f
   exact rA ⟨rfl,b,p.up,stp⟩
  ·refine rbs1 (k:Int) rfl rfl (by decide) λM N O _ z=>?_;have A:=zCQ (λi=>(l.getD i zeroH).used) k;refine rapp1 (u:=w) ⟨rfl,rfl⟩ f.up z (by rw [Qr];unfold usedAt;omega) λC G H Q S=>?_;have p:Own w.heap.size 3 G C ((usedAt l (k+1)).map λk:Nat=>(k:Int)):=by rw [o,if_pos rfl,QB];exact H
   exact rA ⟨rfl,b,p,stp⟩
 ·have d:k=l.length:=by omega
  obtain rfl:=d;exact⟨f,stp⟩
def plc (l:List RReq) (id:Int):Option Nat:=l.findIdx? (λr=>decide (r.id=id))
theorem zOT{l:List RReq}{id:Int}(h:∀r∈l,r.id≠id):plc l id=none:=by
 unfold plc;rw [Ve];simpa using h
theorem zOU{l:List RReq}{id:Int}(c:k<l.length)(d:l[k].id=id)(e:∀j,(b:j<k)->(l[j]'(by omega)).id≠id):plc l id=some k:=by
 unfold plc;rw [JB];exact⟨c,by simpa using d,λj b=>by simpa using e j b⟩
theorem plc_lt{l:List RReq}{id:Int}(h:plc l id=some k):∃b:k<l.length,l[k].id=id:=by
 unfold plc at h;rw [JB] at h;obtain⟨b,c,_⟩:=h;exact⟨b,by simpa using c⟩
def plcV (o:Option Nat):Value:=match o with
 |some k=>.tuple #[.int .i64 k,.bool true]
 |none=>.tuple #[.int .i64 0,.bool false]
def putR (l:List RReq) (most:Int) (x:RReq):List RReq×Int:=
 if (plc l x.id).isSome then ([],150) else if most<=l.length then ([],252) else (l++[x],0)
def takeR (l:List RReq) (id:Int):List RReq×Bool:=match plc l id with
 |some k=>(l.take k++l.drop (k+1),true)
 |none=>(l,false)
theorem zLd{r:RReq}{id:Int}{w:World}:Sp PP 310 #[.int .i64 id,agg r] w λv w'=>Tells (r.id=id) v/\Ext w w':=by
 refine eN ?_;refine rbox λb w1 n=>?_;exact rload1 ((At.blk n.blk).cell 0 rfl) (ite (λh=>⟨.t h,n.ext⟩) (λh=>⟨.f h,n.ext⟩))
theorem zD5{c:Nat}{l:List RReq}{g:FuncId}{first cap:List Value}{p:RReq->Prop}{w:World}(h:SlF w (.slice a n c) l)(M:l.length<=1000000)
  (I:∀r w1,r∈l->Ext w w1->Sp PP g (first++[agg r]++cap).toArray w1 λv w2=>Tells (p r) v/\Ext w1 w2):
  Sp PP 311 #[.slice a n c,.func (.func g) first.toArray cap.toArray] w λv w' =>
   ((∃k:Nat,v=.int .i64 k/\∃J:k<l.length,p l[k]/\∀j,(f:j<k)->¬p (l[j]'(by omega)))\/(v=.int .i64 (-1)/\∀r∈l,¬p r))/\Ext w w':=by
 have d:=h.len;obtain rfl:=d;refine eN ?_;refine loop1 TBok 6 [4,5,7] 8 (λi w'=>∃k:Nat,k<=l.length/\i=.int .i64 k/\(∀j,(f:j<k)->(E:j<l.length)->¬p l[j])/\Ext w w') (λi _=>l.length - (Go.RowKit.intOf i).toNat) rfl ⟨0,by omega,rfl,by omega,Fr.refl _ _⟩ ?_;rintro i g w' ⟨k,J,rfl,y,e⟩;refine ite (λhlt=>?_) (λK=>?_)
 ·have z:k<l.length:=by omega
  refine rix (h.ext e) (x:=l[k]) (by simp) λb o A=>rloadA A rfl (rcall (I l[k] w' (by simp) e) ?_);rintro v w2 ⟨⟨rfl,C⟩|⟨rfl,C⟩,G⟩
  ·exact⟨.inl ⟨k,rfl,z,C,λj f=>y j f (by omega)⟩,e.t G⟩
  ·refine rA ⟨⟨k+1,by omega,rfl,λj f E=>?_,e.t G⟩,?_⟩
   ·have d:=QH j k;rcases d with H|H
    ·exact y j H E
    ·have d:j=k:=by omega
     obtain rfl:=d;exact C
   ·show _ - (k+1)<_ - k;omega
 ·refine⟨.inr ⟨rfl,λr L=>?_⟩,e⟩;have d:=QI.1 L;obtain⟨j,f,rfl⟩:=d;exact y j (by omega) f
theorem zE0{c:Nat}{l:List RReq}{id:Int}{w:World}(h:SlF w (.slice a n c) l)(d:l.length<=1000000):
  Sp PP 230 #[.slice a n c,.int .i64 id] w λv w'=>v=plcV (plc l id)/\Ext w w':=by
 have f:=h.len;obtain rfl:=f;refine eN ?_;refine rcall (zD5 (g:=310) (first:=[.int .i64 id]) (cap:=[]) (p:=λr=>r.id=id) h d λr w1 _ _=>zLd) ?_;rintro v w' ⟨⟨k,rfl,o,b,t⟩|⟨rfl,b⟩,e⟩
 ·refine rmax (iT (Int.natCast_nonneg k) ?_);rw [zOU o b t,Int.max_eq_left (by omega)];exact⟨rfl,e⟩
 ·refine rmax (iF (by decide) ?_);rw [zOT b];exact⟨rfl,e⟩
theorem zBy{b:Option Addr}{d ca e cb:Nat}{la lb:List RReq}{w:World}(f:SlF w (.slice a d ca) la)(h:SlF w (.slice b e cb) lb)(A:la.length<=1000000/\lb.length<=1000000):
  Sp PP 174 #[.slice a d ca,.slice b e cb] w λv w'=>Own w.heap.size 55 w' v (la++lb)/\Ext w w':=by
 have c:=f.len;obtain rfl:=c;have c:=h.len;obtain rfl:=c;refine eN ?_;refine rA (rmk' (n:=la.length+lb.length) (B:=w.heap.size) zeroR rfl rfl (Qe _) (by omega) λg w1 x l C=>rcp (u:=w) (lo:=0) rfl x (f.ext l) (.inr ⟨g,rfl,by simp⟩) (by simp) (by omega) λw2 o y _ _=>?_);have p:=Fr.st l y λi hi=>hi.1;refine rslO (P:=PP) (t:=84) (n:=la.length+lb.length) (some la.length) none o (by simp) (by simp) λG H hd=>?_;refine rcp (u:=w) (lo:=la.length) rfl o (h.ext p) hd (by simp) (by simp) λI r z _ _=>?_;refine⟨?_,Fr.st p z λi hi=>hi.1⟩
 have:List.take la.length (List.take 0 (List.replicate (la.length+lb.length) zeroR)++la++List.drop (0+la.length) (List.replicate (la.length+lb.length) zeroR))++lb ++
   List.drop (la.length+lb.length) (List.take 0 (List.replicate (la.length+lb.length) zeroR)++la++List.drop (0+la.length) (List.replicate (la.length+lb.length) zeroR))=la++lb:=by
  simp
 rw [this] at r;exact r
theorem zHA(l:List RReq)(id:Int):(plc l id=none/\plcV (plc l id)=.tuple #[.int .i64 0,.bool false])\/∃k,plc l id=some k/\plcV (plc l id)=.tuple #[.int .i64 (k:Nat),.bool true]:=by
 cases h:plc l id with
 |none=>exact .inl ⟨rfl,rfl⟩
 |some k=>exact .inr ⟨k,rfl,rfl⟩
theorem zL3{c:Nat}{l:List RReq}{most:Int}{x:RReq}{w:World}(h:SlF w (.slice a n c) l)(J:l.length<=100000):
  Sp PP 127 #[.slice a n c,.int .i64 most,agg x] w λv w'=>(∃r,v=.tuple #[r,.int .i64 (putR l most x).2]/\Own w.heap.size 55 w' r (putR l most x).1)/\Ext w w':=by
 have f:=h.len;obtain rfl:=f;refine eN ?_;refine rbox λb w1 n1=>?_;have y:At w1 b 0 (enc x):=At.blk n1.blk;refine rload1 (y.cell 0 rfl) (rcall (zE0 (h.ext n1.ext) (by omega)) ?_);rintro v w2 ⟨rfl,z⟩;have d:=n1.ext.t z;unfold putR;have f:=zHA l x.id;rcases f with ⟨A,C⟩|⟨k,A,C⟩ <;> rw [C,A]
 ·refine ite (λo=>?_) (λo=>?_)
  ·simp only [Option.isSome_none,Jt,if_false,o,if_true];exact⟨⟨_,rfl,Own.nil _ _ _⟩,d⟩
  ·simp only [Option.isSome_none,Jt,if_false,o];refine rloadA (y.ext z) rfl (rbs1 x rfl rfl (by decide) λK L p _ G=>rcall (zBy (lb:=[x]) (h.ext (d.t p.e)) G ⟨by omega,by simp⟩) ?_);rintro M N ⟨H,I⟩;exact⟨⟨_,rfl,H.mono (d.t p.e).size⟩,(d.t p.e).t I⟩
 ·simp only [Option.isSome_some,if_true];exact⟨⟨_,rfl,Own.nil _ _ _⟩,d⟩
def nextR (l:List RReq):RReq×List RReq×Bool:=match l with
 |[]=>(zeroR,[],false)
 |x::r=>(x,r,true)
theorem zOe{α:Type}(l:List α):(l.drop 1).take (l.length - 1)=l.tail:=by
 rw [Qj (by simp),List.drop_one]
theorem zLb{c:Nat}{l:List RReq}{w:World}(h:SlF w (.slice a n c) l)(M:l.length<=100000):
  Sp PP 103 #[.slice a n c] w λv w'=>(∃J,v=.tuple #[agg (nextR l).1,J,.bool (nextR l).2.2]/\Own w.heap.size 55 w' J (nextR l).2.1)/\Ext w w':=by
 have d:=h.len;obtain rfl:=d;refine eN ?_;refine ralloc λb w1 n1=>?_;refine ite (λh0=>?_) (λh0=>?_)
 ·have d:l=[]:=Qn (by omega);obtain rfl:=d;refine rbuild (cs:=enc zeroR) rfl (rst n1.blk (vs:=enc zeroR) rfl rfl (by decide) (Enc.one _) λw2 K N _=>?_);refine rresA (cs:=enc zeroR) (At.blk K) rfl ?_;exact⟨⟨_,rfl,Own.nil _ _ _⟩,Fr.st n1.ext N λi hi=>by rw [hi];exact n1.lo⟩
 ·obtain⟨x,r,rfl⟩:∃x r,l=x::r:=by cases l;exact absurd rfl h0;exact⟨_,_,rfl⟩
  refine dD (λi=>i=b) (upF 9 0) λw2 p=>?_;have f:=n1.ext.t p.e;refine tix (i:=0) (h.ext f) (x:=x) rfl λO o A y=>?_
  have z:O≠b:=by
   have d:=h.lt (by simp);obtain⟨W,L,K⟩:=d;rw [y] at L;cases L;have:=n1.lo;omega
  refine tloadA A rfl z (tsl (some 1) none (h.ext f) (by simp) (by simp) λQ S C=>?_)
  have C:SlF w2 (.slice Q ((x::r).length - 1) S) r:=by
   have:=C;simp only [JQ,QP] at this;rw [zOe] at this;exact this
  refine rcall (zBy (la:=[]) (lb:=r) (SlF.nil w2) C ⟨by simp,by simp at M;omega⟩) ?_;rintro T X ⟨U,G⟩;refine⟨Fr.fr G,?_⟩;have H:=(p.e.t G).blk n1.blk;refine rst H (vs:=enc x) rfl rfl (Qe 8) (Enc.one _) λY V I _=>⟨I,?_⟩;refine rresA (cs:=enc x) (At.blk V) rfl ?_;refine⟨⟨T,rfl,?_⟩,Fr.st (f.t G) I λi hi=>by rw [hi];exact n1.lo⟩;refine Own.mono (Own.fr (show Own _ _ _ _ r by simpa using U) I λi hi Z hd=>?_) f.size;have:=blk_lt (p.e.blk n1.blk);omega
theorem zNU{α:Type}(l:List α)(k:Nat):(l.drop 0).take (k - 0)=l.take k:=by simp
theorem zNT{α:Type}(l:List α)(k:Nat):(l.drop k).take (l.length - k)=l.drop k:=by rw [Qj (by simp)]
theorem zLc{c:Nat}{l:List RReq}{id:Int}{w:World}(h:SlF w (.slice a n c) l)(J:l.length<=100000):
  Sp PP 128 #[.slice a n c,.int .i64 id] w λv w'=>(∃r,v=.tuple #[r,.bool (takeR l id).2]/\Own w.heap.size 55 w' r (takeR l id).1)/\Ext w w':=by
 have b:=h.len;obtain rfl:=b;refine eN ?_;refine rcall (zE0 h (by omega)) ?_;rintro v w1 ⟨rfl,d⟩;unfold takeR;have b:=zHA l id;rcases b with ⟨o,x⟩|⟨k,o,x⟩ <;> rw [x,o]
 ·refine rcall (zBy (lb:=[]) (h.ext d) (SlF.nil w1) ⟨by omega,by simp⟩) ?_;rintro C w2 ⟨G,p⟩;exact⟨⟨C,rfl,by simpa using G.mono d.size⟩,d.t p⟩
 ·have b:=plc_lt o;obtain⟨K,_⟩:=b;refine dQ 10 λw2 p=>?_;have f:=d.t p.e;refine tsl none (some k) (h.ext f) (by simp) (by simp;omega) λL c1 y=>?_;refine rA (tsl (some (k+1)) none (h.ext f) (by simp;omega) (by simp) λM c2 z=>?_);simp only [JQ,QP,zNU,zNT] at y z;refine rcall (zBy y z ⟨by simp;omega,by simp;omega⟩) ?_;rintro H N ⟨I,A⟩;exact⟨A,⟨H,rfl,I.mono f.size⟩,f.t A⟩
theorem zEM{c:Nat}{l:List RHeld}{w:World}(h:SlF w (.slice a n c) l)(r:l.length<=100000):
  Sp PP 176 #[.slice a n c] w λv w'=>Own w.heap.size 130 w' v l/\Stp w w':=by
 have e:=h.len;obtain rfl:=e;refine eN ?_;refine rsnil (λh0=>?_) (λh0=>?_)
 ·obtain⟨t,x,f,y,p⟩:=h;cases f;have:l=[]:=by rcases p with h|⟨b,o,h,_⟩;exact h;rw [h0] at h;cases h
  subst this;exact⟨Own.nil _ _ _,stp⟩
 ·refine rbs (n:=0) (vs:=[]) ([]:List RHeld) rfl rfl rfl (by omega) λb w1 n1 z=>rapp (u:=w) ⟨rfl,rfl⟩ (Own.nil' w.heap.size 130 w1 _) h.up (by simp;omega) λA C d G H=>?_;rw [Je] at d;exact⟨d,stp⟩
theorem zPJ{h:RHeld}{w:World}:Sp PP 175 #[agg h] w λv w'=>Tells (h.used=false) v/\Stp w w':=by
 refine eN ?_;refine rbx λb w1 n1 c=>rld rfl ?_;cases d:h.used
 ·exact⟨.t rfl,stp⟩
 ·exact⟨.f (by simp),stp⟩
theorem zMM{h:RHeld}{w:World}:Sp PP 108 #[agg h] w λv w'=>Tells (h.used=true) v/\Stp w w':=by
 refine eN ?_;refine rbx λb w1 n1 c=>rld rfl ?_;cases d:h.used
 ·exact⟨.f (by simp),stp⟩
 ·exact⟨.t rfl,stp⟩
structure PlDat (l:List RHeld) (a:Option Addr) (c:Nat) (g:FuncId) (bl bs:Nat) (u:World):Prop where
 sl:SlF u (.slice a l.length c) l
 l:Bk u bl [.slice a l.length c] 70
 s:u.cell? ⟨bs,0,none⟩=some (.func (.func g) #[] #[])
def plXs (p:RHeld->Bool) (l:List RHeld):List (List Value):=(selN (λi=>p (l.getD i zeroH)) l.length).map λk:Nat=>[.int .i64 k]
theorem zEr{l:List RHeld}{c:Nat}{g:FuncId}{bl bs:Nat}(T:l.length<=100000)(p:RHeld->Bool)
  (H:∀h w,Sp PP g #[agg h] w λv w'=>Tells (p h=true) v/\Stp w w'):
  SeqOf PP 179 [] [.pointer (some ⟨bl,0,none⟩),.pointer (some ⟨bs,0,none⟩)] (PlDat l a c g bl bs) (plXs p l):=by
 refine⟨λy J U w A I C K h0=>?_⟩;refine eN ?_;refine rload1 ((C 0 w h0).l.at.cell0 rfl) (cnt TBok 8 [4,5] 8 l.length (λk u=>J (selN (λi=>p (l.getD i zeroH)) k).length u) rfl rfl h0 ?_);intro k G u V f;have hd:=C _ u f;refine ite (λhlt=>?_) (λL=>?_)
 ·have d:k<l.length:=by omega
  have E:=zFI (λi=>p (l.getD i zeroH)) k;refine rix hd.sl (x:=l[k]) (by simp) λW X M=>rloadA M rfl (ral λY N n3 Z=>rsto (vs:=enc l[k]) rfl rfl rfl (Enc.one _) λr B4 O _=>?_);have s4:Stw u N r:=O.one n3.lo;refine rload1 (by have:=Ext.cell (lE u r) hd.s;exact this) (rldG rfl rfl ?_);refine rcall (H l[k] r) ?_;rintro v t ⟨⟨rfl,z⟩|⟨rfl,z⟩,e5⟩
  ·have o:p (l.getD k zeroH)=true:=by rw [zAq d];exact z
   have Q:(plXs p l)[(selN (λi=>p (l.getD i zeroH)) k).length]? = some [.int .i64 (k:Nat)]:=by
    unfold plXs;rw [QK,zBS (q:=λi=>p (l.getD i zeroH)) d o];rfl
   refine ryield rfl rfl rfl rfl (K _ t _ Q (A _ _ _ f (lE u t))) ?_;rintro b u' (⟨rfl,e⟩|⟨rfl,e⟩)
   ·refine rA ⟨rfl,d,?_⟩;rw [E,if_pos o];simpa using e
   ·exact .inr e
  ·have o:¬p (l.getD k zeroH)=true:=by rw [zAq d];exact z
   refine rA ⟨rfl,d,?_⟩;rw [E,if_neg o];exact A _ _ _ f (lE u t)
 ·have S:k=l.length:=by omega
  obtain rfl:=S;refine .inl ?_;unfold plXs;rw [Qr];exact f
theorem zFp{c:Nat}{l:List RHeld}{g:FuncId}{w:World}(h:SlF w (.slice a n c) l):
  Sp PP 107 #[.slice a n c,.func (.func g) #[] #[]] w λv w'=>(∃bl bs,v=.func (.func 179) #[] #[.pointer (some ⟨bl,0,none⟩),.pointer (some ⟨bs,0,none⟩)]/\PlDat l a c g bl bs w')/\Stp w w':=by
 have b:=h.len;obtain rfl:=b;refine eN ?_;refine rbx λd w1 n1 e=>rbx λf w2 n2 o=>?_;exact⟨⟨d,f,rfl,h.up,e.mv,o.at.cell0 rfl⟩,stp⟩
theorem PlDat.up{l:List RHeld}{c:Nat}{g:FuncId}{bl bs:Nat}(h:PlDat l a c g bl bs u)[L:Le u u']:PlDat l a c g bl bs u':=⟨h.sl.up,h.l.mv,Ext.cell L.e h.s⟩
theorem zKk{p:RHeld->Bool}{l:List RHeld}:∀x∈plXs p l,x.length=1:=by
 intro x b;unfold plXs at b;obtain⟨k,_,rfl⟩:=Qq.1 b;rfl
theorem sel0{p:RHeld->Bool}{l:List RHeld}(h:(selN (λi=>p (l.getD i zeroH)) l.length)[0]? = some k):∃b:k<l.length,p l[k]=true/\l.findIdx? p=some k:=by
 have o:=Jy h;have r:=zEz.1 o;obtain⟨b,c⟩:=r;rw [zAq b] at c;refine⟨b,c,zCl b c λj t=>?_⟩
 cases v:p (l[j]'(by omega)) with
 |false=>rfl
 |true =>
  have e:=zBS (q:=λi=>p (l.getD i zeroH)) b (by simpa [b] using c);have w:=zBS (q:=λi=>p (l.getD i zeroH)) (n:=k) t (by simp only [zAq (show j<l.length by omega)];exact v);have f:=(Qy.1 w).1;have x:(selN (λi=>p (l.getD i zeroH)) l.length)[(selN (λi=>p (l.getD i zeroH)) k).length]? = (selN (λi=>p (l.getD i zeroH)) l.length)[0]?:=by rw [e,h]
  have d:(selN (λi=>p (l.getD i zeroH)) l.length).Nodup:=(Xj).filter _;have hlt:=(Qy.1 e).1;have:=(List.getElem?_inj hlt d).1 x;omega
theorem zKY{c:Nat}{l:List RHeld}{x:RReq}{w:World}(h:SlF w (.slice a n c) l)(hn:l.length<=100000):
  Sp PP 104 #[.slice a n c,agg x] w λv w'=>(∃C,v=.tuple #[.int .i64 (putH l x).1,C,.int .i64 (putH l x).2.2]/\Own w.heap.size 130 w' C (putH l x).2.1)/\Stp w w':=by
 have I:=h.len;obtain rfl:=I;refine eN ?_;refine rbx λb1 w1 n1 B1=>rbx λb2 w2 n2 B2=>ral λb4 w4 G B4=>ral λb5 w5 n5 B5=>ral λb6 w6 n6 B6=>rld rfl ?_;refine rcall (zFp h.up) ?_;rintro v H ⟨⟨bl,bs,rfl,D7⟩,e7⟩;have J:=B4.mv (w:=H);have C5:=B5.mv (w:=H);have C6:=B6.mv (w:=H);have a2:=G.b;have a4:=G.s;have a5:=n5.b;have a6:=n5.s;have a7:=n6.b;have a8:=n6.s;have z7:=e7.e.size
 refine rrange TBok rfl (gf:=179) (first:=[]) (cap:=[.pointer (some ⟨bl,0,none⟩),.pointer (some ⟨bs,0,none⟩)]) rfl rfl
  (zEr (g:=175) (a:=a) (c:=c) (bl:=bl) (bs:=bs) hn (λh=>!h.used) λh w=>by simpa using zPJ (h:=h) (w:=w)) zKk
  (λi u=>i=0/\Stp H u)
  (λj u=>j=.ret/\∃k C,freeAt l=some k/\Bk u b4 [.int .i64 (k:Nat)] 3/\Bk u b5 [C] 70/\Bk u b6 [.int .i64 0] 27/\Own w.heap.size 130 u C (l.set k ⟨true,x⟩)/\Stp w u)
  ?_ ?_ ?_ ⟨rfl,stp⟩ ?_ ?_ ?_
 ·rintro i u u' ⟨hi,s⟩ q;exact⟨hi,s.qt q⟩
 ·rintro j u u' ⟨N,k,C,h1,h2,h3,T,U,V⟩ q;exact⟨N,k,C,h1,h2.qt q,h3.qt q,T.qt q,U.qt q,V.qt (q.mono (by have:=lz w H;omega))⟩
 ·rintro i u ⟨_,s⟩;exact D7.up
 ·rintro i y u W ⟨rfl,s⟩;unfold plXs at W;rw [QK,Vo] at W;obtain⟨k,hk,rfl⟩:=W;have I:=sel0 (p:=λh=>!h.used) hk;obtain⟨X,O,Y⟩:=I;refine⟨Fr.refl _ _,λu1 q=>?_⟩;have s1:Stp H u1:=s.qt q;refine rld rfl ?_;refine rcall (zEM h.up hn) ?_;rintro v2 w8 ⟨Z,e8⟩;have I:=Z.shape;obtain⟨oa,oc,rfl⟩:=I;refine rldG rfl rfl ?_;refine rbuild (cs:=enc (⟨true,x⟩:RHeld)) rfl (rixO rfl Z (x:=l[k]) (by simp) λg' hg a9 A=>rstO rfl (⟨true,x⟩:RHeld) Z hg X rfl λQ O9 f9 s9 _=>?_);have z8:=s1.e.size;refine rS J [.int .i64 (k:Nat)] (by simp;rfl) λr G4 d=>?_;have K:Stw w2 Q r:=d.one G.lo;have G5:=(C5.mv (w:=Q)).fr d (by omega);have G6:=(C6.mv (w:=Q)).fr d (by omega);refine rsto (vs:=[_]) rfl rfl rfl (by simp;rfl) λt H5 f _=>?_;have L:Stw w2 r t:=f.one (by have:=G.lo (u:=w2);omega);have H4:=G4.fr f (by omega);have H6:=G6.fr f (by omega);refine rsto (vs:=[.int .i64 0]) rfl rfl rfl (by simp;rfl) λz I6 o _=>?_;have M:Stw w2 t z:=o.one (by have:=G.lo (u:=w2);omega);have I4:=H4.fr o (by omega);have I5:=H5.fr o (by omega);refine⟨⟨rfl,k,_,Y,I4,I5,I6,?_,stp⟩,λi=>w2.heap.size<=i,?_⟩
  ·have P1:=O9.fr d (λb hb hv=>by have:=blk_lt J.h;omega);have P2:=P1.fr f (λb hb hv=>by have:=blk_lt J.h;omega);have P3:=P2.fr o (λb hb hv=>by have:=blk_lt J.h;omega);exact P3.older
  ·have E9:Ext u1 Q:=Le.e;exact(((Fr.fr E9).trans K.e).trans L.e).trans M.e
 ·rintro D u ⟨hi,s⟩ hD hd
  have a0:freeAt l=none:=by
   refine zCk λj N=>?_
   cases hq:!(l[j].used) with
   |false=>rfl
   |true =>
    have:=zBS (q:=λi=>!(l.getD i zeroH).used) N (by simp only [zAq N];exact hq);have h1:=(Qy.1 this).1;have b0:(selN (λi=>!(l.getD i zeroH).used) l.length).length=0:=by unfold plXs at hi;rw [Qr] at hi;exact hi
    omega
  have O:putH l x=(0,[],140):=by unfold putH;rw [a0]
  rw [O];have z8:=s.e.size;refine rS J [.int .i64 0] (by simp;rfl) λr G4 d=>?_;have K:Stw w2 u r:=d.one G.lo;have G5:=(C5.mv (w:=u)).fr d (by omega);have G6:=(C6.mv (w:=u)).fr d (by omega);refine rsto (vs:=[.slice none 0 0]) rfl rfl rfl (by simp;rfl) λt H5 f _=>?_;have L:Stw w2 r t:=f.one (by have:=G.lo (u:=w2);omega);have H4:=G4.fr f (by omega);have H6:=G6.fr f (by omega);refine rsto (vs:=[.int .i64 140]) rfl rfl rfl (by simp;rfl) λz I6 o _=>?_;have M:Stw w2 t z:=o.one (by have:=G.lo (u:=w2);omega);have I4:=H4.fr o (by omega);have I5:=H5.fr o (by omega);have a1:=o.nc _ _ (f.nc _ _ (d.nc _ _ hd rfl) rfl) rfl;refine leave1 a1 λu' q=>?_;have J4:=I4.qt (q 0 (by omega));have J5:=I5.qt (q 0 (by omega));have J6:=I6.qt (q 0 (by omega));refine rres rfl ?_;refine rres rfl ?_;refine rres rfl ?_;have S:Stp w z:=stp;exact⟨⟨_,rfl,Own.nil _ _ _⟩,S.qt (q _ (by have:=lz w H;omega))⟩
 ·rintro j D u ⟨rfl,k,C,Y,T,U,V,hO,hS⟩ hD hd;have O:putH l x=((k:Int),l.set k ⟨true,x⟩,0):=by unfold putH;rw [Y]
  rw [O];refine leave1 hd λu' q=>?_;have J4:=T.qt (q 0 (by omega));have J5:=U.qt (q 0 (by omega));have J6:=V.qt (q 0 (by omega));refine rres rfl ?_;refine rres rfl ?_;refine rres rfl ?_;exact⟨⟨_,rfl,hO.qt (q 0 (by omega))⟩,hS.qt (q _ (by have:=lz w H;omega))⟩
theorem zEY{c:Nat}{l:List RHeld}{id:Int}{w:World}(h:SlF w (.slice a n c) l)(hn:l.length<=100000):
  Sp PP 126 #[.slice a n c,.int .i64 id] w λv w'=>v=.tuple #[.int .i64 (findV (foundAt l id)).1,.bool (findV (foundAt l id)).2]/\Stp w w':=by
 have C:=h.len;obtain rfl:=C;refine eN ?_;refine rbx λb1 w1 n1 B1=>rbx λb2 w2 n2 B2=>ral λb4 w4 J B4=>ral λb5 w5 W B5=>rld rfl ?_;refine rcall (zFp h.up) ?_;rintro v z ⟨⟨bl,bs,rfl,D7⟩,e7⟩;have X:=B4.mv (w:=z);have Y:=B5.mv (w:=z);have a0:=J.b;have a1:=J.s;have a2:=W.b;have a4:=W.s;have z7:=e7.e.size
 refine rrange TBok rfl (gf:=179) (first:=[]) (cap:=[.pointer (some ⟨bl,0,none⟩),.pointer (some ⟨bs,0,none⟩)]) rfl rfl
  (zEr (g:=108) (a:=a) (c:=c) (bl:=bl) (bs:=bs) hn (λh=>h.used) λh w=>zMM (h:=h) (w:=w)) zKk
  (λi u=>(∀j k,j<i->(usedAt l l.length)[j]? = some k->¬(l.getD k zeroH).r.id=id)/\Stp z u)
  (λj u=>j=.ret/\∃k:Nat,foundAt l id=some k/\Bk u b4 [.int .i64 k] 3/\Bk u b5 [.bool true] 4/\Stp w u)
  ?_ ?_ ?_ ⟨by omega,stp⟩ ?_ ?_ ?_
 ·rintro i u u' ⟨hi,s⟩ q;exact⟨hi,s.qt q⟩
 ·rintro j u u' ⟨A,k,G,h2,h3,h6⟩ q;exact⟨A,k,G,h2.qt q,h3.qt q,h6.qt (q.mono (by have:=lz w z;omega))⟩
 ·rintro i u ⟨_,s⟩;exact D7.up
 ·rintro i y u N ⟨Z,s⟩;unfold plXs at N;rw [QK,Vo] at N;obtain⟨k,hk,rfl⟩:=N;have C:=zP6 hk;obtain⟨H,hu,hi⟩:=C;simp only [zAq H] at hu;refine⟨Fr.refl _ _,λu1 q=>?_⟩;have s1:Stp z u1:=s.qt q;refine drawR TBRok mixed (λ_=>False) (upF 8 0) (by kernel_rfl) λO e2 _=>tld rfl (λh=>h) ?_;refine tix h.up (x:=l[k]) (by simp) λb8 o8 A8 _=>tload1 (A8.cell 1 rfl) (λh=>h) (tld rfl (λh=>h) ?_);refine ite (λhe=>?_) (λQ=>?_)
  ·have S:foundAt l id=some k:=zCl H (by simp [hu,he]) λj A=>by
    cases I:(l[j]'(by omega)).used with
    |false=>rfl
    |true =>
     have M:(λi=>(l.getD i zeroH).used) j=true:=by show (l.getD j zeroH).used=true;rw [zAq (show j<l.length by omega)];exact I
     have G:=Z (selN (λi=>(l.getD i zeroH).used) j).length j (by rw [hi];exact zP7 A M) (zBS (n:=l.length) (by omega) M);rw [zAq (show j<l.length by omega)] at G;simp [G]
   have s2:Stp z O:=stp;refine rS X [.int .i64 (k:Nat)] (by simp;rfl) λo T d=>?_;have K:Stw w2 O o:=d.one J.lo;have G5:=(Y.mv (w:=O)).fr d (by omega);refine rsto (vs:=[.bool true]) rfl rfl rfl (by simp;rfl) λp H5 f _=>?_;have L:Stw w2 o p:=f.one (by have:=J.lo (u:=w2);omega);exact⟨⟨rfl,k,S,T.fr f (by omega),H5,stp⟩,_,((Fr.fr e2.e).trans (K.e.trans L.e):Fr (λi=>w2.heap.size<=i) u1 p)⟩
  ·refine⟨⟨λj k' A t=>?_,stp⟩,λ_=>False,e2.e⟩;have C:=QH j i;rcases C with h'|h'
   ·exact Z j k' h' t
   ·have C:j=i:=by omega
    obtain rfl:=C;unfold usedAt at t;rw [hk] at t;cases t;rw [zAq H];exact Q
 ·rintro D u ⟨hi,s⟩ hD hd
  have U:foundAt l id=none:=by
   refine zCk λj A=>?_
   cases I:l[j].used with
   |false=>rfl
   |true =>
    have M:(λi=>(l.getD i zeroH).used) j=true:=by show (l.getD j zeroH).used=true;rw [zAq A];exact I
    have h0:=zBS (q:=λi=>(l.getD i zeroH).used) (n:=l.length) A M;have G:=hi _ j (by unfold plXs;rw [Qr];exact(Qy.1 h0).1) h0;rw [zAq A] at G;simp [G]
  rw [U];refine rS X [.int .i64 0] (by simp;rfl) λo T d=>?_;have K:Stw w2 u o:=d.one J.lo;have G5:=(Y.mv (w:=u)).fr d (by omega);refine rsto (vs:=[.bool false]) rfl rfl rfl (by simp;rfl) λp c5 f _=>?_;have L:Stw w2 o p:=f.one (by have:=J.lo (u:=w2);omega);have c4:=T.fr f (by omega);have su:Stp w p:=stp;have V:=f.nc _ _ (d.nc _ _ hd rfl) rfl;refine leave1 V λu' q=>?_;have J4:=c4.qt (q 0 (by omega));have J5:=c5.qt (q 0 (by omega));refine rres rfl ?_;refine rres rfl ?_;exact⟨rfl,su.qt (q _ (by have:=lz w z;omega))⟩
 ·rintro j D u ⟨rfl,k,S,h4,h5,hS⟩ hD hd;rw [S];refine leave1 hd λu' q=>?_;have J4:=h4.qt (q 0 (by omega));have J5:=h5.qt (q 0 (by omega));refine rres rfl ?_;refine rres rfl ?_;exact⟨rfl,hS.qt (q _ (by have:=lz w z;omega))⟩
theorem zGE{g:FuncId}{first cap:List Value}{f:World->Prop}{xs:List Int}{w:World}(l:SeqOf PP g first cap f (xs.map λx=>[.int .i64 x]))(t:∀u,Ext w u->f u)(X:xs.length<=1000000):
  Sp PP 178 #[.slice none 0 0,.func (.func g) first.toArray cap.toArray] w λv w'=>Own w.heap.size 3 w' v xs/\Stp w w':=by
 refine eN ?_;refine rbx λz w1 n1 A=>?_;have C:=n1.b;have G:=n1.s
 refine rrange TBok rfl (gf:=g) (first:=first) (cap:=cap) rfl rfl l (by intro x d;obtain⟨y,_,rfl⟩:=Qq.1 d;rfl)
  (λi u=>∃v,Bk u z [v] 34/\Own w.heap.size 3 u v (xs.take i)/\Stp w u) (λ_ _=>False) ?_ ?_ ?_ ⟨.slice none 0 0,A,by rw [Xa];exact Own.nil _ _ _,stp⟩ ?_ ?_ ?_
 ·rintro i u u' ⟨v,H,I,J⟩ q;exact⟨v,H.qt q,I.qt q,J.qt (q.mono (by omega))⟩
 ·rintro c u u' h;exact h.elim
 ·rintro i u ⟨v,_,_,s⟩;exact t u s.e
 ·rintro i y u d ⟨v,c1,O,s⟩;rw [QK,Vo] at d;obtain⟨x,d,rfl⟩:=d;have K:=Qy.1 d;obtain⟨hi,rfl⟩:=K;refine⟨Fr.refl _ _,λY q=>?_⟩;have c1:=c1.qt q;have O:=O.qt q;have s:=s.qt (q.mono (by omega));refine rld rfl ?_;refine rbs1 xs[i] rfl rfl (by decide) λZ L M _ N=>rapp1 (u:=w) ⟨rfl,rfl⟩ O.up N (by simp;omega) λp Q o S T=>?_;have c5:=(c1.mv (w:=L)).fro O.up S (by decide);refine rsto (vs:=[p]) ?_ rfl rfl (by obtain⟨oa,oc,rfl⟩:=o.shape;simp;rfl) λU c6 r _=>?_
  ·obtain⟨oa,oc,rfl⟩:=o.shape;rfl
  have V:Stw w Q U:=r.one (by omega);refine⟨⟨p,c6,?_,stp⟩,λi=>w.heap.size<=i,((Fr.fr M.e).trans T.e).trans V.e⟩;rw [take_add hi];exact o.frc r c5 (by decide)
 ·rintro D u ⟨v,c1,O,s⟩ W hd;refine rld rfl ?_;refine leave1 hd λu' q=>?_;rw [Qj (by simp)] at O;exact⟨O.qt (q 0 (by omega)),s.qt (q _ (by omega))⟩
 ·rintro c D u h;exact h.elim
theorem zHW{g:FuncId}{first cap:List Value}{b:World->Prop}{xs:List Int}{w:World}(c:SeqOf PP g first cap b (xs.map λx=>[.int .i64 x]))(d:∀u,Ext w u->b u)(e:xs.length<=1000000):
  Sp PP 106 #[.func (.func g) first.toArray cap.toArray] w λv w'=>Own w.heap.size 3 w' v xs/\Stp w w':=by
 refine eN ?_;refine rcall (zGE c d e) ?_;rintro v w1 ⟨f,h⟩;exact⟨f,stp⟩
theorem zEZ{c:Nat}{l:List RHeld}{w:World}(h:SlF w (.slice a n c) l)(d:l.length<=100000):
  Sp PP 52 #[.slice a n c] w λv w'=>Own w.heap.size 3 w' v (usedH l)/\Stp w w':=by
 have e:=h.len;obtain rfl:=e;refine eN ?_;refine rcall (zFp h) ?_;rintro v w1 ⟨⟨bl,bs,rfl,f⟩,t⟩;have b:=zEr (g:=108) (a:=a) (c:=c) (bl:=bl) (bs:=bs) d (λh=>h.used) λh w=>zMM (h:=h) (w:=w);have o:plXs (λh=>h.used) l=(usedH l).map λx=>[.int .i64 x]:=by unfold plXs usedH usedAt;rw [VM];rfl
 rw [o] at b;refine rcall (zHW (first:=[]) b (λu p=>by have:=Stp.mk p;exact f.up) (by unfold usedH usedAt;rw [Qr];have:=zCQ (λi=>(l.getD i zeroH).used) l.length;omega)) ?_;rintro v w2 ⟨r,y⟩;exact⟨r.older,stp⟩
theorem zJt{c:Nat}{l:List RHeld}{i:Int}{w:World}(h:SlF w (.slice a n c) l)(r:l.length<=100000):
  Sp PP 113 #[.slice a n c,.int .i64 i] w λv w'=>(∃f,v=.tuple #[f,.int .i64 (dropH l i).2]/\Own w.heap.size 130 w' f (dropH l i).1)/\Stp w w':=by
 have b:=h.len;obtain rfl:=b;refine eN ?_;unfold dropH;refine ite (λd=>?_) (λd=>?_)
 ·rw [if_pos (.inl d)];exact⟨⟨_,rfl,Own.nil _ _ _⟩,stp⟩
 refine ite (λo=>?_) (λo=>?_)
 ·rw [if_pos (.inr o)];exact⟨⟨_,rfl,Own.nil _ _ _⟩,stp⟩
 rw [if_neg (by omega)];have b:=QU (Int.not_lt.1 d);obtain⟨k,rfl⟩:=b;have p:k<l.length:=by omega
 rw [QW,zAq p];refine rix h (x:=l[k]) (by simp) λC G t=>rload1 (t.cell0 rfl) ?_;cases H:l[k].used
 ·rw [if_neg (by simp)];exact⟨⟨_,rfl,Own.nil _ _ _⟩,stp⟩
 ·rw [if_pos rfl];refine rcall (zEM h r) ?_;rintro v w2 ⟨e,I⟩;have b:=e.shape;obtain⟨oa,oc,rfl⟩:=b;refine rbuild (cs:=enc zeroH) rfl (rixO rfl e (x:=l[k]) (by simp) λJ y _ A=>rstO rfl zeroH e y p rfl λK z L M _=>?_);exact⟨⟨_,rfl,z.older⟩,stp⟩
def Fz (M R:Nat->Prop) (w:World) (Φ:World->Prop):Prop:=∀w',Fr (λi=>M i\/¬R i) w w'->Φ w'
theorem Fr.join{E H:Nat->Prop}{a b c:World}(f:Fr D a b)(k:Fr E b c)(l:∀i,i<a.heap.size->D i->H i)(p:∀i,i<a.heap.size->E i->H i):Fr H a c:=
 ⟨k.os.trans f.os,k.tape.trans f.tape,k.output.trans f.output,Qw f.size k.size,λi hi e=>(k.block i (QJ hi f.size) λd=>e (p i hi d)).trans (f.block i hi λd=>e (l i hi d)),λi o hi h=>k.nc i o (f.nc i o hi h) h⟩
section
variable {M M' R R':Nat->Prop} {w w':World} {Φ Ψ:World->Prop}
theorem Fz.at(h:Fz M R w Φ)[L:Le w w']:Φ w':=h w' (Fr.fr L.e)
theorem Fz.here(h:Fz M R w Φ):Φ w:=h w (Fr.refl _ _)
theorem Fz.step(h:Fz M R w Φ)(f:Fr M w w')(c:∀i,i<w.heap.size->M' i->M i)(d:∀i,i<w.heap.size->R i->R' i):Fz M' R' w' Φ:=λ_ k =>
 h _ (f.join k (λ_ _ hi=>.inl hi) λi hi e=>e.elim (λb=>.inl (c i hi b)) λb=>.inr λl=>b (d i hi l))
theorem Fz.away(h:Fz M R w Φ)(f:Fr D w w')(b:∀i,D i->¬R i):Fz M R w' Φ:=λ_ k =>
 h _ (f.join k (λi _ hi=>.inr (b i hi)) λ_ _ c=>c)
theorem Fz.and(h:Fz M R w Φ)(k:Fz M R w Ψ):Fz M R w λu=>Φ u/\Ψ u:=λu f=>⟨h u f,k u f⟩
theorem Fz.imp(h:Fz M R w Φ)(k:∀u,Φ u->Ψ u):Fz M R w Ψ:=λu f=>k u (h u f)
theorem tixF{α:Type}[Enc α]{t e:TypeId}{z:Value}{d:Nat}[r:SlT P t e][v:Elem P e z (Enc.sz α) d]{k:Value->Prop}{c:Nat}{l:List α}{x:α}(h:∀w',Fr D w w'->SlF w' (.slice a n c) l)(hi:l[i]? = some x)
  (y:∀b o,(∀w',Fr D w w'->At w' b o (enc x))->k (.pointer (some ⟨b,o,none⟩))):TakeS P (Instr.indexAt t (.slice a n c) (.int .i64 i)) D k w:=by
 have p:=(h w (Fr.refl _ _)).at hi;obtain⟨rfl,b,o,rfl,_⟩:=p;have E:i<l.length:=(Qy.1 hi).1;rw [zAe];refine⟨_,λw' _=>zDU r v (by omega) (by omega) w',y _ _ λw' f=>?_⟩;have p:=(h w' f).at hi;obtain⟨_,F,o',A,C⟩:=p;cases A;exact C
theorem tload1F{t:TypeId}[d:One P t]{k:Value->Prop}{b o:Nat}{v:Value}(h:∀w',Fr D w w'->At w' b o [v])(e:k v):TakeS P (Instr.loadAt t (.pointer (some ⟨b,o,none⟩))) D k w:=by
 rw [zAe];exact⟨v,λw' c=>by simp [Instr.loadAt,Instr.sureAddr,zDt d ((h w' c).cell0 rfl)],e⟩
theorem Own.fz{α:Type}[Enc α]{e:TypeId}{v:Value}{l:List α}(O:Own B e w v l)(h:∀i,B<=i->i<w.heap.size->R i/\¬M i):Fz M R w λu=>SlF u v l:=λu f=>by
 by_cases o:l=[]
 ·subst o;have d:=O.shape;obtain⟨a,c,rfl⟩:=d;exact SlF.nil' u a c
 ·refine O.sl.fr f λb t hd=>?_;have d:=O.lt o;obtain⟨g,p,x,y⟩:=d;rw [t] at p;cases p;have r:=h b x y;exact hd.elim r.2 λz=>z r.1
end
theorem Own.fzB{M:Nat->Prop}{w:World}{α:Type}[Enc α]{e:TypeId}{v:Value}{l:List α}(O:Own B e u v l)(t:SlF w v l)(h:∀i,B<=i->i<u.heap.size->R i/\¬M i):Fz M R w λu=>SlF u v l:=λu' f=>by
 by_cases o:l=[]
 ·subst o;have d:=O.shape;obtain⟨a,c,rfl⟩:=d;exact SlF.nil' u' a c
 ·refine t.fr f λb x hd=>?_;have d:=O.lt o;obtain⟨g,p,y,z⟩:=d;rw [x] at p;cases p;have r:=h b y z;exact hd.elim r.2 λA=>A r.1
structure RCfg where
 workers:Int
 slots:Int
 queue:Int
 pool:Int
 budget:Int
instance:Enc RCfg:=⟨5,λx=>[.int .i64 x.workers,.int .i64 x.slots,.int .i64 x.queue,.int .i64 x.pool,.int .i64 x.budget],λ_=>rfl,by intro x u hu;simp at hu;rcases hu with rfl|rfl|rfl|rfl|rfl <;> rfl,by decide⟩
structure RJob where
 mails:SV
 steps:Int
instance:Enc RJob:=⟨2,λx=>[.slice x.mails.a x.mails.n x.mails.c,.int .i64 x.steps],λ_=>rfl,by intro x u hu;simp at hu;rcases hu with rfl|rfl <;> rfl,by decide⟩
def zJob:RJob:=⟨⟨none,0,0⟩,0⟩
structure RPtr where
 b:Nat
instance:Enc RPtr:=⟨1,λx=>[.pointer (some ⟨x.b,0,none⟩)],λ_=>rfl,by intro x u hu;simp at hu;subst hu;rfl,by decide⟩
structure SrvK where
 bj:Nat
 jc:Nat
 xr:RRow
 r:List EdN
 ws:SV
 wl:List ByteArray
 ps:List RPo
 wk:SV
 sb:Nat->Nat
 sg:Nat->Nat
abbrev srvL (c : CfD) (K : SrvK) (wt hd : SV) : List Value :=
  [.int .i64 (c.workers : Nat), .int .i64 (c.slots : Nat), .int .i64 (c.queue : Nat), .int .i64 (c.pool : Nat), .int .i64 (c.budget : Nat),
   .slice K.xr.off.a K.xr.off.n K.xr.off.c, .slice K.xr.to.a K.xr.to.n K.xr.to.c, .slice K.xr.rof.a K.xr.rof.n K.xr.rof.c, .slice K.xr.rev.a K.xr.rev.n K.xr.rev.c,
   .slice K.ws.a K.ws.n K.ws.c, .slice wt.a wt.n wt.c, .slice hd.a hd.n hd.c, .slice (some ⟨K.bj, 0, none⟩) c.slots K.jc, .slice K.wk.a K.wk.n K.wk.c]
def HeldOk (kx:Nat) (w:World) (g:GrD) (x:RHeld) (j:RJob) (o:Option (RqD×Nat)) (k:Nat):Prop:=match o with
 |none=>x.used=false
 |some (d,i)=>x.used=true/\RqV w x.r d/\(k≠kx->SlF w j.mails.v (mls g d.q k i)/\j.steps=i)
structure SrvF (kx:Nat) (g:GrD) (c:CfD) (K:SrvK) (wt hd:SV) (lw:List RReq) (lh:List RHeld) (lj:List RJob) (s:SvD) (w:World):Prop where
 rows:RwF w K.xr g K.r
 pos:PosM w g K.wl K.ps
 words:SlF w (.slice K.ws.a K.ws.n K.ws.c) K.ps
 wk:SlF w (.slice K.wk.a K.wk.n K.wk.c) ((List.range c.workers).map λk=>(⟨K.sb k⟩:RPtr))
 fw:SlF w (.slice wt.a wt.n wt.c) lw
 fh:SlF w (.slice hd.a hd.n hd.c) lh
 lwn:lw.length=s.wait.length
 waits:∀i (h:i<lw.length) (h':i<s.wait.length),RqV w lw[i] s.wait[i]
 lhn:lh.length=s.held.length
 ljn:lj.length=s.held.length
 helds:∀k (h:k<lh.length) (h':k<lj.length),HeldOk kx w g lh[k] lj[k] (s.held.getD k none) k
def mutS (bs bj W:Nat) (RW:Nat->Nat->Prop):Nat->Prop:=λi=>i=bs\/i=bj\/∃k,k<W/\RW k i
structure Stos (B:Nat) (w:World) (W:Nat) (K:SrvK) (pool:Nat) (RW:Nat->Nat->Prop) (Ls:Nat->List StD):Prop where
 dis:∀k j,k<W->j<W->k≠j->∀i,RW k i->¬RW j i
 sto:∀k,k<W->StoP (RW k) B w (K.sb k) (K.sg k) pool (Ls k)
 lt:∀k,k<W->∀i,RW k i->i<w.heap.size
def updR (RW:Nat->Nat->Prop) (k:Nat) (X:Nat->Prop):Nat->Nat->Prop:=λj=>if j=k then X else RW j
def GrowR (W:Nat) (RW RW':Nat->Nat->Prop) (n:Nat):Prop:=∀k,k<W->∀i,RW' k i->RW k i\/n<=i
section
variable {B:Nat} {w w':World} {W:Nat} {K:SrvK} {pool:Nat} {RW RW':Nat->Nat->Prop} {Ls:Nat->List StD}
theorem GrowR.refl(n:Nat):GrowR W RW RW n:=λ_ _ _ h=>.inl h
theorem Stos.away(T:Stos B w W K pool RW Ls)(f:Fr D w w')(c:∀k,k<W->∀i,RW k i->¬D i):Stos B w' W K pool RW Ls:=
 ⟨T.dis,λk b=>(T.sto k b).fr f (c k b),λk b i hi=>QJ (T.lt k b i hi) f.size⟩
theorem Stos.up[L:Le w w'](T:Stos B w W K pool RW Ls):Stos B w' W K pool RW Ls:=T.away L.e λ_ _ _ _ h=>h
theorem Stos.put{L:List StD}(T:Stos B w W K pool RW Ls)(v:k<W)(S:StoP (gR (RW k) w w') B w' (K.sb k) (K.sg k) pool L)(f:Fr (RW k) w w'):
  Stos B w' W K pool (updR RW k (gR (RW k) w w')) (updL Ls k L):=by
 have e:∀j,j≠k->updR RW k (gR (RW k) w w') j=RW j:=λj h=>if_neg h;have p:updR RW k (gR (RW k) w w') k=gR (RW k) w w':=if_pos rfl;refine⟨λj r b d l i hi=>?_,λj b=>?_,λj b i hi=>?_⟩
 ·by_cases c:j=k
  ·subst c;rw [p] at hi;rw [e r (λh=>l h.symm)];rcases hi with hi|hi
   ·exact T.dis _ _ b d l i hi
   ·intro o;have:=T.lt r d i o;omega
  ·rw [e j c] at hi;by_cases o:r=k
   ·subst o;rw [p];rintro(t|t)
    ·exact T.dis _ _ b d l i hi t
    ·have:=T.lt j b i hi;omega
   ·rw [e r o];exact T.dis _ _ b d l i hi
 ·by_cases c:j=k
  ·subst c;rw [p,show updL Ls j L j=L from if_pos rfl];exact S
  ·rw [e j c,show updL Ls k L j=Ls j from if_neg c];exact(T.sto j b).fr f λi hi o=>T.dis _ _ b v c i hi o
 ·by_cases c:j=k
  ·subst c;rw [p] at hi;rcases hi with hi|hi
   ·exact QJ (T.lt j b i hi) f.size
   ·exact hi.2
  ·rw [e j c] at hi;exact QJ (T.lt j b i hi) f.size
theorem GrowR.put(h:GrowR W RW RW' n)(d:n<=w.heap.size):GrowR W RW (updR RW' k (gR (RW' k) w w')) n:=λj b i hi=>by
 by_cases c:j=k
 ·subst c;rw [show updR RW' j (gR (RW' j) w w') j=gR (RW' j) w w' from if_pos rfl] at hi;rcases hi with hi|hi
  ·exact h j b i hi
  ·exact .inr (by omega)
 ·rw [show updR RW' k (gR (RW' k) w w') j=RW' j from if_neg c] at hi;exact h j b i hi
def anyR (W:Nat) (RW:Nat->Nat->Prop):Nat->Prop:=λi=>∃k,k<W/\RW k i
theorem GrowR.fr(h:GrowR W RW RW' w.heap.size)(f:Fr (anyR W RW) w u)(b:k<W)(d:Fr (RW' k) u u'):Fr (anyR W RW) w u':=
 f.join d (λ_ _ hi=>hi) λi hi e=>(h k b i e).elim (λc=>⟨k,b,c⟩) λc=>by omega
end
structure SrvR (kx:Nat) (R:Nat->Prop) (B:Nat) (w:World) (bs:Nat) (g:GrD) (c:CfD) (s:SvD) (Ls:Nat->List StD) (K:SrvK) (wt hd:SV) (lw:List RReq) (lh:List RHeld) (lj:List RJob) (RW:Nat->Nat->Prop):Prop where
 reg:∀i,R i->B<=i/\i<w.heap.size
 rs:R bs
 rj:R K.bj
 ne:bs≠K.bj
 rw:∀k,k<c.workers->∀i,RW k i->R i/\i≠bs/\i≠K.bj
 cell:Bk w bs (srvL c K wt hd) 87
 jobs:Own B 188 w (.slice (some ⟨K.bj,0,none⟩) c.slots K.jc) lj
 st:Stos B w c.workers K c.pool RW Ls
 fz:Fz (mutS bs K.bj c.workers RW) R w (SrvF kx g c K wt hd lw lh lj s)
 gi:GrIs g
 ci:CfOk c
 ps:K.ps.length<=2000
 so:SvOk g c s
def SrvX (R:Nat->Prop) (B:Nat) (w:World) (bs:Nat) (g:GrD) (c:CfD) (s:SvD) (Ls:Nat->List StD):Prop:=
 ∃K wt hd lw lh lj RW,SrvR 1000 R B w bs g c s Ls K wt hd lw lh lj RW
def SrvZ (R:Nat->Prop) (B:Nat) (w:World) (bs:Nat) (g:GrD) (c:CfD) (s:SvD) (Ls:Nat->List StD) (k0:Nat):Prop:=
 ∃K wt hd lw lh lj RW,SrvR k0 R B w bs g c s Ls K wt hd lw lh lj RW
def SrvP (R:Nat->Prop) (B:Nat) (w:World) (bs:Nat) (g:GrD) (c:CfD) (s:SvD):Prop:=SrvX R B w bs g c s (wkS g c.workers s.held)
section
variable {kx kx':Nat} {R:Nat->Prop} {B:Nat} {w w':World} {bs:Nat} {g:GrD} {c:CfD} {s:SvD} {Ls:Nat->List StD} {K:SrvK} {wt hd:SV} {lw:List RReq} {lh:List RHeld} {lj:List RJob} {RW:Nat->Nat->Prop}
theorem SrvR.mut(S:SrvR kx R B w bs g c s Ls K wt hd lw lh lj RW)(h:mutS bs K.bj c.workers RW i):R i:=by
 rcases h with rfl|rfl|⟨k,b,h⟩
 ·exact S.rs
 ·exact S.rj
 ·exact(S.rw k b i h).1
theorem SrvR.away(S:SrvR kx R B w bs g c s Ls K wt hd lw lh lj RW)(f:Fr D w w')(b:∀i,D i->¬R i):SrvR kx R B w' bs g c s Ls K wt hd lw lh lj RW:=
 ⟨λi hi=>⟨(S.reg i hi).1,QJ (S.reg i hi).2 f.size⟩,S.rs,S.rj,S.ne,S.rw,S.cell.fr f λh=>b _ h S.rs,S.jobs.fr f λg _ d h=>by cases d;exact b _ h S.rj,
  S.st.away f λk e i hi h=>b i h (S.rw k e i hi).1,S.fz.away f b,S.gi,S.ci,S.ps,S.so⟩
theorem SrvP.away(S:SrvP R B w bs g c s)(f:Fr D w w')(b:∀i,D i->¬R i):SrvP R B w' bs g c s:=by
 obtain⟨K,wt,hd,lw,lh,lj,RW,S⟩:=S;exact⟨K,wt,hd,lw,lh,lj,RW,S.away f b⟩
theorem SrvR.up[L:Le w w'](S:SrvR kx R B w bs g c s Ls K wt hd lw lh lj RW):SrvR kx R B w' bs g c s Ls K wt hd lw lh lj RW:=S.away L.e λ_ h=>h.elim
theorem SrvP.up[L:Le w w'](S:SrvP R B w bs g c s):SrvP R B w' bs g c s:=S.away L.e λ_ h=>h.elim
theorem SrvR.wide{R':Nat->Prop}(S:SrvR kx R B w bs g c s Ls K wt hd lw lh lj RW)(h:∀i,R i->R' i)(d:∀i,R' i->B<=i/\i<w.heap.size):SrvR kx R' B w bs g c s Ls K wt hd lw lh lj RW:=
 ⟨d,h _ S.rs,h _ S.rj,S.ne,λk b i hi=>⟨h _ (S.rw k b i hi).1,(S.rw k b i hi).2⟩,S.cell,S.jobs,S.st,λu f=>S.fz u (f.mono λi _ e=>e.imp id λl o=>l (h i o)),S.gi,S.ci,S.ps,S.so⟩
theorem SrvX.wide{R':Nat->Prop}(S:SrvX R B w bs g c s Ls)(h:∀i,R i->R' i)(b:∀i,R' i->B<=i/\i<w.heap.size):SrvX R' B w bs g c s Ls:=by
 obtain⟨K,wt,hd,lw,lh,lj,RW,S⟩:=S;exact⟨K,wt,hd,lw,lh,lj,RW,S.wide h b⟩
theorem SrvX.reg(S:SrvX R B w bs g c s Ls):(∀i,R i->B<=i/\i<w.heap.size)/\GrIs g/\CfOk c/\SvOk g c s:=by
 obtain⟨K,wt,hd,lw,lh,lj,RW,S⟩:=S;exact⟨S.reg,S.gi,S.ci,S.so⟩
theorem SrvR.mutN(S:SrvR kx R B w bs g c s Ls K wt hd lw lh lj RW){b:Nat->Nat->Prop}(h:GrowR c.workers RW b n):∀i,i<n->mutS bs K.bj c.workers b i->mutS bs K.bj c.workers RW i:=λi hi l=>by
 rcases l with d|d|⟨k,e,d⟩
 ·exact .inl d
 ·exact .inr (.inl d)
 ·exact(h k e i d).elim (λf=>.inr (.inr ⟨k,e,f⟩)) λf=>by omega
theorem SrvR.fin{s':SvD}{Ls':Nat->List StD}{b d:SV}{o:List RReq}{p:List RHeld}{h:List RJob}{l:Nat->Nat->Prop}(S:SrvR kx R B w bs g c s Ls K wt hd lw lh lj RW)(e:w.heap.size<=w1.heap.size)
  (f:Fr (mutS bs K.bj c.workers RW) w1 w')(A:B<=w.heap.size)(C:Bk w' bs (srvL c K b d) 87)(J:Own B 188 w' (.slice (some ⟨K.bj,0,none⟩) c.slots K.jc) h)(T:Stos B w' c.workers K c.pool l Ls')(G:GrowR c.workers RW l w1.heap.size)
  (x:SvOk g c s')(Z:Fz (mutS bs K.bj c.workers RW) (gR R w w1) w1 (SrvF kx' g c K b d o p h s')):SrvR kx' (gR R w w') B w' bs g c s' Ls' K b d o p h l:=by
 have F:=f.size;refine⟨λi hi=>?_,.inl S.rs,.inl S.rj,S.ne,λk r i hi=>?_,C,J,T,?_,S.gi,S.ci,S.ps,x⟩
 ·rcases hi with hi|hi
  ·have:=S.reg i hi;omega
  ·omega
 ·have H:=S.reg bs S.rs;have I:=S.reg K.bj S.rj;have y:=G k r i hi;rcases y with v|v
  ·exact⟨.inl (S.rw k r i v).1,(S.rw k r i v).2⟩
  ·have:=T.lt k r i hi;exact⟨.inr ⟨by omega,this⟩,by omega,by omega⟩
 ·refine Z.step f (λi hi z=>S.mutN G i hi z) λi hi t=>?_;rcases t with t|t
  ·exact .inl t
  ·exact .inr (by omega)
theorem SrvR.loose(S:SrvR 1000 R B w bs g c s Ls K wt hd lw lh lj RW)(k0:Nat):SrvR k0 R B w bs g c s Ls K wt hd lw lh lj RW:=by
 have o:=S.so.len;have r:=S.ci.slots;refine⟨S.reg,S.rs,S.rj,S.ne,S.rw,S.cell,S.jobs,S.st,S.fz.imp λu b=>⟨b.rows,b.pos,b.words,b.wk,b.fw,b.fh,b.lwn,b.waits,b.lhn,b.ljn,λk h l=>?_⟩,S.gi,S.ci,S.ps,S.so⟩;have f:=b.helds k h l;have t:=b.lhn
 cases e:s.held.getD k none with
 |none=>rw [e] at f;exact f
 |some p=>obtain⟨d,i⟩:=p;rw [e] at f;exact⟨f.1,f.2.1,λ_=>f.2.2 (by omega)⟩
theorem SrvX.z(S:SrvX R B w bs g c s Ls)(k0:Nat):SrvZ R B w bs g c s Ls k0:=by
 obtain⟨K,wt,hd,lw,lh,lj,RW,S⟩:=S;exact⟨K,wt,hd,lw,lh,lj,RW,S.loose k0⟩
theorem SrvR.fz1[L:Le w w'](S:SrvR kx R B w bs g c s Ls K wt hd lw lh lj RW):Fz (mutS bs K.bj c.workers RW) (gR R w w') w' (SrvF kx g c K wt hd lw lh lj s):=
 S.fz.step (Fr.fr L.e) (λ_ _ h=>h) λ_ _ h=>.inl h
theorem SrvR.fzO{α:Type}[Enc α]{C:Nat}{e:TypeId}{v:Value}{l:List α}(S:SrvR kx R B w bs g c s Ls K wt hd lw lh lj RW)(O:Own C e w' v l)(d:w.heap.size<=C):Fz (mutS bs K.bj c.workers RW) (gR R w w') w' λu=>SlF u v l:=
 O.fz λi f b=>⟨.inr ⟨by omega,b⟩,λh=>by have:=S.reg i (S.mut h);omega⟩
theorem gR_gR(b:w.heap.size<=u.heap.size)(d:u.heap.size<=u'.heap.size):∀i,gR (gR R w u) u u' i->gR R w u' i:=λi hi=>by
 rcases hi with (hi|hi)|hi
 ·exact .inl hi
 ·exact .inr (by omega)
 ·exact .inr (by omega)
theorem zBJ{bs b W:Nat}{RW:Nat->Nat->Prop}(h:anyR W RW i):mutS bs b W RW i:=.inr (.inr h)
end
section
variable {kx:Nat} {R:Nat->Prop} {B:Nat} {w0 w w':World} {bs:Nat} {g:GrD} {c:CfD} {s:SvD} {Ls:Nat->List StD} {K:SrvK} {wt hd:SV} {lw:List RReq} {lh:List RHeld} {lj:List RJob} {RW:Nat->Nat->Prop}
theorem zNG{b:Hs}{k0:Nat}{a:RHeld}{j:RJob}{o:Option (RqD×Nat)}(d:k0<b.length)(H:∀k (h:k<lh.length) (f:k<lj.length),HeldOk kx u g lh[k] lj[k] (b.getD k none) k)(h:HeldOk kx u g a j o k0):
  ∀k (h:k<(lh.set k0 a).length) (f:k<(lj.set k0 j).length),HeldOk kx u g (lh.set k0 a)[k] (lj.set k0 j)[k] ((b.set k0 o).getD k none) k:=λk l p=>by
 rw [zAz d];by_cases e:k=k0
 ·subst e;rw [if_pos rfl,JX,JX];exact h
 ·rw [if_neg e,JT (Jq e),JT (Jq e)];exact H k (by simpa using l) (by simpa using p)
theorem heldsZ{f:Hs}{k0:Nat}{a:RHeld}{j:RJob}(o:k0<f.length)(H:∀k (h:k<lh.length) (r:k<lj.length),HeldOk k0 u g lh[k] lj[k] (f.getD k none) k)(t:a.used=false:=by rfl):
  ∀k (h:k<(lh.set k0 a).length) (r:k<(lj.set k0 j).length),HeldOk 1000 u g (lh.set k0 a)[k] (lj.set k0 j)[k] ((f.set k0 none).getD k none) k:=λk v x=>by
 rw [zAz o];by_cases e:k=k0
 ·subst e;rw [if_pos rfl,JX,JX];exact t
 ·rw [if_neg e,JT (Jq e),JT (Jq e)];have b:=H k (by simpa using v) (by simpa using x)
  cases l:f.getD k none with
  |none=>rw [l] at b;exact b
  |some p=>obtain⟨d,i⟩:=p;rw [l] at b;exact⟨b.1,b.2.1,λ_=>b.2.2 e⟩
theorem Stos.congr{W b:Nat}{Ls':Nat->List StD}(T:Stos B w W K b RW Ls)(h:∀k,k<W->Ls k=Ls' k):Stos B w W K b RW Ls':=
 ⟨T.dis,λk d=>h k d ▸ T.sto k d,T.lt⟩
theorem bjD{v:Nat}(h:ownD B (.slice (some ⟨v,0,none⟩) n m) i):i=v:=by have:=h.2.1;cases this;rfl
theorem zDw{k0:Nat}{x:RqD}(S:SrvR k0 R B w bs g c s Ls K wt hd lw lh lj RW)(H:ButS g c.workers s.held k0 Ls)(C:s.held.getD k0 none=some (x,i))(hB:B<=w.heap.size):
  Sp PP 54 #[.pointer (some ⟨bs,0,none⟩),.int .i64 (k0:Int)] w λ_ w'=>SrvP (gR R w w') B w' bs g c ⟨s.wait,s.held.set k0 none⟩/\Fr (mutS bs K.bj c.workers RW) w w':=by
 have e:=(zAo C).1;have r:=S.fz.here;have Y:=S.so.len;have a0:=S.ci.slots;have hW:=S.ci.workers;have t:k0<lh.length:=by rw [r.lhn];exact e
 have v:k0<lj.length:=by rw [r.ljn];exact e
 have I:lh[k0].used=true:=by
  have:=r.helds k0 t v;rw [C] at this;exact this.1
 have a1:lh.length<=64:=by rw [r.lhn];omega
 have D:=zJt (i:=(k0:Int)) r.fh (by omega)
 have J:dropH lh (k0:Int)=(lh.set k0 zeroH,0):=by
  unfold dropH;rw [if_neg (by omega),QW,zAq t,if_pos I]
 rw [J] at D;have a2:=S.reg _ S.rj;refine eN ?_;refine rX S.cell rfl (rcall D ?_);rintro _ w1 ⟨⟨v',rfl,Z⟩,e1⟩;have q_:=Z.shape;obtain⟨L,c1,rfl⟩:=q_;refine iT rfl (rS S.cell [.slice L (lh.set k0 zeroH).length c1] (sv1 _ _ _) λw2 z f2=>?_);have z:Bk w2 bs (srvL c K wt ⟨L,(lh.set k0 zeroH).length,c1⟩) 87:=z;refine rX z rfl (rbuild (cs:=enc zJob) rfl ?_);have J2:=(S.jobs.up (w':=w1)).fr f2 (λg _ M h=>by cases M;exact S.ne h.symm);refine rixO rfl J2 (x:=lj[k0]) (by simp) λgj hgj _ _=>rstO' rfl zJob J2 hgj v rfl λo J3 A _=>?_;have A:Fr (λi=>i=K.bj) w2 o:=A.mono λi _ hi=>bjD hi;have p:Fr (λi=>i=bs\/i=K.bj) w1 o:=(f2.mono λi _ hi=>.inl hi).trans (A.mono λi _ hi=>.inr hi);have C3:=z.fr A S.ne
 have Z1:Fz (mutS bs K.bj c.workers RW) (gR R w w1) w1 (SrvF 1000 g c K wt ⟨L,(lh.set k0 zeroH).length,c1⟩ lw (lh.set k0 zeroH) (lj.set k0 zJob) ⟨s.wait,s.held.set k0 none⟩):=
  ((S.fz1 (w':=w1)).and (S.fzO Z (Qe _))).imp λu ⟨l,Sh⟩ =>
   ⟨l.rows,l.pos,l.words,l.wk,l.fw,Sh,l.lwn,l.waits,by simp [l.lhn],by simp [l.ljn],heldsZ e l.helds⟩
 have y:Fr (mutS bs K.bj c.workers RW) w1 o:=p.mono λi _ hi=>hi.elim .inl λh=>.inr (.inl h);have a4:=p.size;have N:Fz (mutS bs K.bj c.workers RW) (gR R w o) o _:=Z1.step y (λ_ _ h=>h) (λi _ h=>h.imp id λh=>by omega);have T3:Stos B o c.workers K c.pool RW Ls:=(S.st.up (w':=w1)).away p λk e i hi h=>by have:=(S.rw k e i hi).2;omega
 have F3:=N.here;have a5:K.wk.n=c.workers:=by have:=F3.wk.len;simpa using this
 refine rX C3 rfl ?_
 refine cnt TBok 35 [7] 35 c.workers (λj u=>∃b,Stos B u c.workers K c.pool b (λk=>if k<j then dropS (Ls k) k0 else Ls k)/\GrowR c.workers RW b o.heap.size/\Fr (anyR c.workers RW) o u) rfl rfl
  ⟨RW,T3.congr λk _=>by simp,.refl _,Fr.refl _ _⟩ ?_
 rintro j G u hj ⟨b,T,O,f⟩;have Fu:=N u (f.mono λi _ h=>.inl (zBJ h));refine ite (λhlt=>?_) (λQ=>?_)
 ·have d:j<c.workers:=by (try dsimp only at hlt);omega
  refine rix Fu.wk (x:=⟨K.sb j⟩) (by simp [d]) λb1 o1 A1=>rload1 (A1.cell0 rfl) ?_;have Tj:StoP (b j) B u (K.sb j) (K.sg j) c.pool (Ls j):=by have:=T.sto j d;rwa [if_neg (Yc _)] at this
  refine rcall (zJv (s:=(k0:Int)) Tj) ?_;rintro _ u1 ⟨rfl,S1,_,f1⟩;refine rA ⟨rfl,d,updR b j (gR (b j) u u1),(T.put d S1 f1).congr λk _=>?_,O.put f.size,O.fr f d f1⟩;unfold updL;dsimp only;by_cases h1:k=j
  ·subst h1;rw [if_pos rfl,if_pos (by omega)]
  ·rw [if_neg h1];by_cases h2:k<j
   ·rw [if_pos h2,if_pos (by omega)]
   ·rw [if_neg h2,if_neg (by omega)]
 ·have U:j=c.workers:=by (try dsimp only at Q);omega
  subst U;have T':Stos B u c.workers K c.pool b (wkS g c.workers (s.held.set k0 none)):=T.congr λk V=>by rw [if_pos V];exact H.drop e k
  have W:¬anyR c.workers RW bs:=λ⟨k,e,h⟩=>(S.rw k e _ h).2.1 rfl;have X:¬anyR c.workers RW K.bj:=λ⟨k,e,h⟩=>(S.rw k e _ h).2.2 rfl;have z1:=lz w w1;refine⟨⟨K,wt,_,lw,_,_,b,S.fin (w1:=o) (by omega) (f.mono λi _ h=>zBJ h) hB (C3.fr f W) (J3.fr f λg _ M h=>by cases M;exact X h) T' O (zPF S.so C) N⟩,?_⟩;exact((fE w w1).trans y).trans (f.mono λi _ h=>zBJ h)
theorem zIp{k0:Nat}{x:RqD}(S:SrvZ R B w bs g c s Ls k0)(H:ButS g c.workers s.held k0 Ls)(b:s.held.getD k0 none=some (x,i))(d:B<=w.heap.size):
  Sp PP 54 #[.pointer (some ⟨bs,0,none⟩),.int .i64 (k0:Int)] w λ_ w'=>SrvP (gR R w w') B w' bs g c ⟨s.wait,s.held.set k0 none⟩/\Fr R w w':=by
 obtain⟨K,wt,hd,lw,lh,lj,RW,S⟩:=S;exact(zDw S H b d).mono λv w' h=>⟨h.1,h.2.mono λi _ h=>S.mut h⟩
theorem zKl{lw:List RReq}{l:List RqD}(b:lw.length=l.length)(h:∀i (h:i<lw.length) (o:i<l.length),lw[i].id=l[i].id)(id:Int):plc lw id=waitAt l id:=
 zGh (f:=λr:RReq=>some r.id) (f':=λr:RqD=>some r.id) (id:=id) (λx=>by simp) (λx=>by simp) (zFX b λi d e=>by rw [h i d e])
theorem zHl{h:Hs}(l:lh.length=h.length)(v:lj.length=h.length)(H:∀k (b:k<lh.length) (y:k<lj.length),HeldOk kx w g lh[k] lj[k] (h.getD k none) k)(id:Int):foundAt lh id=heldAt h id:=by
 refine zGh (f:=λr:RHeld=>if r.used then some r.r.id else none) (f':=λo=>o.map λp=>p.1.id) (id:=id) (λx=>?_) (λx=>?_) (zFX l λi b t=>?_)
 ·cases x.used <;> simp
 ·cases x <;> simp
 ·have:=H i b (by omega);rw [Qk,Qd t,QP] at this
  cases e:h[i] with
  |none=>rw [e] at this;simp only [HeldOk] at this;simp [this]
  |some p =>
   obtain⟨d,j⟩:=p;rw [e] at this;simp [this.1,this.2.1.id]
theorem SrvF.plc(b:SrvF kx g c K wt hd lw lh lj s u)(id:Int):plc lw id=waitAt s.wait id:=zKl b.lwn (λi h d=>(b.waits i h d).id) id
theorem SrvF.found(b:SrvF kx g c K wt hd lw lh lj s u)(id:Int):foundAt lh id=heldAt s.held id:=zHl b.lhn b.ljn b.helds id
theorem SrvR.small(S:SrvR kx R B w bs g c s Ls K wt hd lw lh lj RW):lw.length<=1000/\lh.length<=64:=by
 have b:=S.fz.here;have:=S.so.len;have:=S.so.wl;have:=S.ci.slots;have:=S.ci.queue;rw [b.lwn,b.lhn];omega
theorem SrvR.waits[L:Le w w1]{s':SvD}{f:Option Addr}{c1:Nat}{b:List RReq}(S:SrvR 1000 R B w bs g c s (wkS g c.workers s.held) K wt hd lw lh lj RW)(l:B<=w.heap.size)(o:s'.held=s.held)
  (p:Bk w2 bs (srvL c K ⟨f,b.length,c1⟩ hd) 87)(d:Fr (λi=>i=bs) w1 w2)(r:SvOk g c s')
  (t:Fz (mutS bs K.bj c.workers RW) (gR R w w1) w1 (SrvF 1000 g c K ⟨f,b.length,c1⟩ hd b lh lj s')):SrvP (gR R w w2) B w2 bs g c s'/\∀u,Le u w1->Fr R u w2:=by
 have z:=L.e.size;refine⟨⟨K,⟨f,b.length,c1⟩,hd,b,lh,lj,RW,?_⟩,λu v=>(Fr.fr v.e).trans (d.mono λi _ h=>h ▸ S.rs)⟩;rw [o];refine S.fin z (d.mono λi _ h=>.inl h) l p ?_ ?_ (.refl _) r t
 ·exact(S.jobs.up (w':=w1)).fr d λg _ x h=>by cases x;exact S.ne h.symm
 ·exact(S.st.up (w':=w1)).away d λk y i hi h=>(S.rw k y i hi).2.1 h
theorem SrvP.new[L:Le w w'](S:SrvP R B w bs g c s)(b:B<=w.heap.size):SrvP (gR R w w') B w' bs g c s/\Fr R w w':=by
 have h:=SrvX.reg S;refine⟨SrvX.wide (SrvP.up S) (λi hi=>.inl hi) λi hi=>?_,Fr.fr L.e⟩;have:=L.e.size;rcases hi with hi|hi
 ·have:=h.1 i hi;omega
 ·omega
theorem SrvP.gr[L:Le w w1](S:SrvP (gR R w1 w') B w' bs g c s)(h:w1.heap.size<=w'.heap.size)(b:B<=w.heap.size):SrvP (gR R w w') B w' bs g c s:=by
 have h0:=SrvX.reg S;have:=L.e.size;refine SrvX.wide S (λi hi=>hi.imp id λh=>by omega) λi hi=>?_;rcases hi with hi|hi
 ·exact h0.1 i (.inl hi)
 ·omega
theorem SrvP.lo(S:SrvP R B w bs g c s):∀i,R i->i<w.heap.size:=λi hi=>((SrvX.reg S).1 i hi).2
theorem zIo{x:RReq}(S:SrvP R B w0 bs g c s)[L:Le w0 w](o:B<=w0.heap.size):
  Sp PP 64 #[.pointer (some ⟨bs,0,none⟩),agg x] w λv w'=>v=.int .i64 (backS s x.id).2/\SrvP (gR R w0 w') B w' bs g c (backS s x.id).1/\Fr R w w':=by
 have N:=S;obtain⟨K,wt,hd,lw,lh,lj,RW,S⟩:=S;have p:=S.fz.here;have W:=S.small;have r:=p.plc x.id;have t:=p.found x.id;have ok:=(zPx S.so x.id).1;have X:=p.fw.len;refine eN ?_;refine rbx λb1 w1 n1 O=>dQ 12 λw2 e2=>tX S.cell rfl nf (tX O rfl nf ?_);refine rcall (zLc (id:=x.id) (S.fz.at (w':=w2)).fw (by omega)) ?_;rintro _ A ⟨⟨v',rfl,d⟩,Q⟩;refine⟨Fr.fr Q,?_⟩;have s3:Stp w2 A:=⟨Q⟩;unfold takeR at d ⊢;unfold backS at ok ⊢;rw [r] at d ⊢
 cases C:waitAt s.wait x.id with
 |some k =>
  rw [C] at d ok;have f:=zMN C;obtain⟨hk,Y⟩:=f;dsimp only at d ok ⊢;have f:=d.shape;obtain⟨a3,c3,rfl⟩:=f;refine rS S.cell [.slice a3 (lw.take k++lw.drop (k+1)).length c3] (sv1 _ _ _) λG H Z=>?_;have H:Bk G bs (srvL c K ⟨a3,(lw.take k++lw.drop (k+1)).length,c3⟩ hd) 87:=H;have T:=S.waits (w1:=A) (s':=⟨s.wait.eraseIdx k,s.held⟩) o rfl H Z ok ?_;exact⟨rfl,T.1,T.2 w inferInstance⟩;refine((S.fz1 (w':=A)).and (S.fzO d (lz w0 w2))).imp λu ⟨b,Sw⟩=>⟨b.rows,b.pos,b.words,b.wk,Sw,b.fh,?_,λi h h'=>?_,b.lhn,b.ljn,b.helds⟩
  ·have:=b.lwn;simp only [Qb,Qm,QR,Vt];split <;> omega
  ·have hl:=b.lwn;dsimp only at h';have I:s.wait.eraseIdx k=s.wait.take k++s.wait.drop (k+1):=Jp ..;simp only [I,VR,Qm];have J:min k lw.length=k:=by omega
   have M:min k s.wait.length=k:=by omega
   simp only [J,M];split
   ·simp only [VI];exact b.waits i (by omega) (by omega)
   ·simp only [Yf];have:i<(lw.take k++lw.drop (k+1)).length:=h;simp only [Qb,Qm,QR] at this;exact b.waits (k+1+(i - k)) (by omega) (by omega)
 |none =>
  rw [C] at ok;dsimp only at ok ⊢;refine dQ 12 λG e4=>tX S.cell rfl nf (tX O rfl nf ?_);refine rcall (zEY (id:=x.id) (S.fz.at (w':=G)).fh (by omega)) ?_;rintro _ l ⟨rfl,e5⟩;refine⟨e5.e,?_⟩;rw [t]
  cases hh:heldAt s.held x.id with
  |some k =>
   have f:=zH4 hh;obtain⟨y,i,hy,U⟩:=f;refine rcall (zIp (k0:=k) (SrvX.z (SrvP.up (w':=l) N) k) (zOp k) hy (Qw o (lz w0 l))) ?_;rintro _ w6 ⟨S6,V⟩;exact⟨rfl,SrvP.gr (w:=w0) S6 V.size o,(fE w l).trans V⟩
  |none =>
   exact⟨rfl,(SrvP.new (w':=l) N o).1,fE w l⟩
theorem RqIs.small{d:RqD}(h:RqIs d):d.q.words.length<=8/\∀s∈d.q.words,s.size<=12:=by
 obtain⟨e,r,b⟩:=h;by_cases f:d.kind=4
 ·rw [if_pos f] at b;rw [b];simp [zQy]
 ·rw [if_neg f] at b;rcases e with e|⟨e,l⟩
  ·exact absurd e f
  ·by_cases o:d.kind=3
   ·have:=l.2.2.2 (by omega);exact⟨this.1.2,λs p=>(this.2.2.2 s p).2.2⟩
   ·rw [if_neg o] at b;rw [b.1];simp
theorem RqO.up{B:Nat}[L:Le w w']{x:RReq}{d:RqD}(h:RqO B w x d):RqO B w' x d:=⟨h.1,h.2.1,h.2.2.1,h.2.2.2.1,h.2.2.2.2.1,h.2.2.2.2.2.1.up,h.2.2.2.2.2.2⟩
theorem RqO.fz{M R:Nat->Prop}{B:Nat}{x:RReq}{d:RqD}(h:RqO B w x d)(b:∀i,B<=i->i<w.heap.size->R i/\¬M i):Fz M R w λu=>RqV u x d:=λu f =>
 ⟨h.1,h.2.1,⟨h.2.2.1,h.2.2.2.1,h.2.2.2.2.1,h.2.2.2.2.2.1.fz b u f,h.2.2.2.2.2.2.1,h.2.2.2.2.2.2.2⟩⟩
theorem SrvF.off(b:SrvF kx g c K wt hd lw lh lj s u):K.xr.off.n=g.n+1:=by
 have:=b.rows.off.len;rw [zAp] at this;exact this
theorem zJs{x:RReq}{d:RqD}(S:SrvP R B w0 bs g c s)[L:Le w0 w](U:B<=w0.heap.size)(O:RqO w0.heap.size w x d)(C:RqIs d):
  Sp PP 63 #[.pointer (some ⟨bs,0,none⟩),agg x] w λv w'=>v=.int .i64 (askS g c s d (QyIs d.q g.n)).2/\SrvP (gR R w0 w') B w' bs g c (askS g c s d (QyIs d.q g.n)).1/\Fr R w w':=by
 have X:=S;obtain⟨K,wt,hd,lw,lh,lj,RW,S⟩:=S;have G:=S.fz.here;have a2:=S.small;have H:=C.small;have o:x.id=d.id:=O.1;have I:=G.plc x.id;have J:=G.found x.id;rw [o] at I J;have N:=G.off;have a4:=S.gi.ok.n2;have p:=ask_ok (x:=d) S.so C.2.1;have t:∃s' b,askS g c s d (QyIs d.q g.n)=(s',b):=⟨_,_,rfl⟩;obtain⟨s',b,l⟩:=t
 have Y:¬QyIs d.q g.n->s'=s/\b=180:=λh=>by
  unfold askS at l;rw [if_neg h] at l;cases l;exact⟨rfl,rfl⟩
 have Z:QyIs d.q g.n->∀k,heldAt s.held d.id=some k->s'=s/\b=150:=λh k hk=>by
  unfold askS at l;rw [if_pos h,hk] at l;cases l;exact⟨rfl,rfl⟩
 have a0:QyIs d.q g.n->heldAt s.held d.id=none->∃L,putR lw c.queue x=(L,b)/\(b=0/\L=lw++[x]/\s'=⟨s.wait++[d],s.held⟩\/b≠0/\s'=s):=λh hk=>by
  unfold askS at l;rw [if_pos h,hk,if_neg (by simp)] at l;unfold putR;rw [o,I]
  cases hw:waitAt s.wait d.id with
  |some k=>rw [hw] at l;cases l;exact⟨[],rfl,.inr ⟨by decide,rfl⟩⟩
  |none =>
   rw [hw,if_neg (by simp)] at l;rw [if_neg (by simp)];have e:((c.queue:Int)<=(lw.length:Nat))↔c.queue<=s.wait.length:=by rw [G.lwn];omega
   by_cases z:c.queue<=s.wait.length
   ·rw [if_pos z] at l;cases l;rw [if_pos (e.2 z)];exact⟨[],rfl,.inr ⟨by decide,rfl⟩⟩
   ·rw [if_neg z] at l;cases l;rw [if_neg (λh=>z (e.1 h))];exact⟨_,rfl,.inl ⟨rfl,rfl,rfl⟩⟩
 rw [l] at p ⊢;dsimp only at p ⊢;refine eN ?_;refine rbx λb1 w1 n1 B1=>dQ 11 λw2 e2=>tG B1 x.q nf (tX S.cell rfl nf ?_);rw [N];refine rarE (y:=(g.n:Int)) (by push_cast;omega) (by omega) ?_;have V2:QyV w2 x.q d.q:=((RqO.up (w':=w2) O).v).q;refine rcall (zES (n:=(g.n:Int)) V2 (by omega) (λs hs=>by have:=H.2 s hs;omega)) ?_;rintro _ w3 ⟨Q,e3⟩;refine⟨e3.e,?_⟩;rcases Q with ⟨W,rfl⟩|⟨W,rfl⟩
 case inr =>
  have t:=Y W;obtain⟨rfl,rfl⟩:=t;refine iT (by first|omega|decide|(dsimp only <;> omega)) ?_;exact⟨rfl,(SrvP.new (w':=w3) X U).1,fE w w3⟩
 refine iF (· rfl) (dQ 12 λw4 e4=>tX S.cell rfl nf (tX B1 rfl nf ?_));have D:=zEY (id:=x.id) (S.fz.at (w':=w4)).fh (by omega);rw [o,J] at D;refine rcall (f:=126) (by rw [o];exact D) ?_;rintro _ w5 ⟨rfl,e5⟩;refine⟨e5.e,?_⟩
 cases hh:heldAt s.held d.id with
 |some k =>
  have t:=Z W k hh;obtain⟨rfl,rfl⟩:=t;exact⟨rfl,(SrvP.new (w':=w5) X U).1,fE w w5⟩
 |none =>
  have t:=a0 W hh;obtain⟨L,T,hL⟩:=t;have a5:=G.fw.len;refine dQ 16 λw6 e6=>tX S.cell rfl nf (tX S.cell rfl nf ?_);refine tG B1 x nf ?_;have D:=zL3 (most:=(c.queue:Int)) (x:=x) (S.fz.at (w':=w6)).fw (by omega);rw [T] at D;refine rcall D ?_;rintro _ A ⟨⟨v',rfl,O7⟩,e7⟩;refine⟨Fr.fr e7,?_⟩;have s7:Stp w6 A:=⟨e7⟩;rcases hL with ⟨rfl,rfl,rfl⟩|⟨a1,rfl⟩
  case inr =>
   refine iF a1 ?_;exact⟨rfl,(SrvP.new (w':=A) X U).1,fE w A⟩
  refine iT rfl ?_;dsimp only at O7;have t:=O7.shape;obtain⟨a7,c7,rfl⟩:=t;refine rS S.cell [.slice a7 (lw++[x]).length c7] (sv1 _ _ _) λw8 C8 f8=>?_;have C8:Bk w8 bs (srvL c K ⟨a7,(lw++[x]).length,c7⟩ hd) 87:=C8
  have ok:SvOk g c ⟨s.wait++[d],s.held⟩:=by
   rcases p with ⟨_,_,h3,_⟩|⟨h1,_⟩
   ·exact h3
   ·omega
  have hW:=S.waits (w1:=A) (s':=⟨s.wait++[d],s.held⟩) U rfl C8 f8 ok ?_;exact⟨rfl,hW.1,hW.2 w inferInstance⟩;have ZO:=(RqO.up (w':=A) O).fz (M:=mutS bs K.bj c.workers RW) (R:=gR R w0 A) λi h1 h2=>⟨.inr ⟨h1,h2⟩,λh=>by have:=S.reg i (S.mut h);omega⟩;refine((S.fz1 (w':=A)).and ((S.fzO O7 (lz w0 w6)).and ZO)).imp λu ⟨r,Sw,V⟩=>⟨r.rows,r.pos,r.words,r.wk,Sw,r.fh,?_,λi h h'=>?_,r.lhn,r.ljn,r.helds⟩
  ·simp [r.lwn]
  ·have hl:=r.lwn;simp only [VR];by_cases hi:i<lw.length
   ·rw [dif_pos hi,dif_pos (by omega)];exact r.waits i hi (by omega)
   ·rw [dif_neg hi,dif_neg (by omega)];simp only [List.getElem_singleton];exact V
end
section
variable {kx:Nat} {R:Nat->Prop} {B:Nat} {w0 w w':World} {bs:Nat} {g:GrD} {c:CfD} {s:SvD} {Ls:Nat->List StD} {K:SrvK} {wt hd:SV} {lw:List RReq} {lh:List RHeld} {lj:List RJob} {RW:Nat->Nat->Prop}
theorem SrvF.wkn(b:SrvF kx g c K wt hd lw lh lj s u):K.wk.n=c.workers:=by have:=b.wk.len;simpa using this
theorem zCc(S:SrvP R B w bs g c s):Sp PP 19 #[.pointer (some ⟨bs,0,none⟩)] w λv w'=>Own w.heap.size 3 w' v ((List.range c.workers).map λk=>(liveW g c.workers s.held k:Int))/\Stp w w':=by
 obtain⟨K,wt,hd,lw,lh,lj,RW,S⟩:=S;have r:=S.ci.workers;have e:=S.fz.here.wkn;refine eN ?_;refine rpnil (rX S.cell rfl (cnt1 TBok 13 [5] 3 13 c.workers (λj v u=>Own w.heap.size 3 u v ((List.range j).map λk=>(liveW g c.workers s.held k:Int))/\Stp w u) rfl rfl ⟨Own.nil _ _ _,stp⟩ ?_));rintro j v G u t ⟨O,f⟩;refine ite (λhlt=>?_) (λd=>?_)
 ·have b:j<c.workers:=by (try dsimp only at hlt);omega
  refine rix (S.fz.at (w':=u)).wk (x:=⟨K.sb j⟩) (by simp [b]) λy z h=>rload1 (h.cell0 rfl) (rcall (zJw ((S.st.sto j b).up (w':=u))) ?_);rintro _ A ⟨rfl,C⟩;refine rbs1 ((liveW g c.workers s.held j:Nat):Int) rfl rfl (by decide) λH l I _ o=>rapp1 (u:=w) ⟨rfl,rfl⟩ (O.up (w':=l)) o (by simp;omega) λJ L p M N=>rA ⟨rfl,b,?_,stp⟩;rw [Jm,QB];exact p
 ·obtain rfl:j=c.workers:=by (try dsimp only at d);omega
  exact⟨O,f⟩
theorem SrvF.usedH(b:SrvF kx g c K wt hd lw lh lj s u):usedH lh=(usedS s.held).map λk:Nat=>(k:Int):=by
 unfold Go.W.usedH usedAt usedS;rw [b.lhn];congr 1;unfold selN;refine XC λk f=>?_;have f:=Q0.1 f;have h:k<lh.length:=by rw [b.lhn];exact f
 have:=b.helds k h (by rw [b.ljn];exact f);rw [zAq h]
 cases e:s.held.getD k none with
 |none=>rw [e] at this;simp only [HeldOk] at this;simp [this]
 |some p=>obtain⟨d,i⟩:=p;rw [e] at this;simp [this.1]
theorem zDX(S:SrvP R B w bs g c s):Sp PP 21 #[.pointer (some ⟨bs,0,none⟩)] w λv w'=>Own w.heap.size 3 w' v (idsH s.held)/\Stp w w':=by
 obtain⟨K,wt,hd,lw,lh,lj,RW,S⟩:=S;have J:=S.small;have f:=S.fz.here;have L:=f.usedH;have M:=f.fh.len;have N:(usedS s.held).length<=lh.length:=by rw [f.lhn];exact zCQ _ _
 refine eN ?_;refine rpnil (rX S.cell rfl ?_);have D:=zEZ f.fh (by omega);rw [L] at D;refine rcall D ?_;rintro v w1 ⟨C,Y⟩;have h:=C.shape;obtain⟨Z,c1,rfl⟩:=h;refine cnt1 TBok 14 [5] 3 14 (usedS s.held).length (λj v u=>Own w1.heap.size 3 u v (((usedS s.held).take j).map (idAt s.held))/\Stp w1 u) rfl rfl ⟨Own.nil _ _ _,stp⟩ ?_;rintro j v G u hj ⟨O,su⟩;have H:((usedS s.held).map λk:Nat=>(k:Int)).length=(usedS s.held).length:=by simp
 refine ite (λhlt=>?_) (λt=>?_)
 ·have b:j<(usedS s.held).length:=by (try dsimp only at hlt);omega
  have h:∃k,k=(usedS s.held)[j]:=⟨_,rfl⟩;obtain⟨k,y⟩:=h;have z:k∈usedS s.held:=by rw [y];exact Qa b
  have h:=zEz.1 z;obtain⟨l,o⟩:=h;have A:k<lh.length:=by rw [f.lhn];exact l
  have I:=f.helds k A (by rw [f.ljn];exact l);refine rix (C.sl.up (w':=u)) (x:=(k:Int)) (by simp [b,y]) λb1 o1 Q=>rload1 (Q.cell0 rfl) (rX S.cell rfl (rix (S.fz.at (w':=u)).fh (x:=lh[k]) (by simp) λb2 o2 T=>rload1 (T.cell 1 rfl) (rbs1 lh[k].r.id rfl rfl (by decide) λb3 U e3 _ V=>rapp1 (u:=w1) ⟨rfl,rfl⟩ (O.up (w':=U)) V (by simp;omega) λv4 u4 W f4 s4=>rA ⟨rfl,b,?_,stp⟩)));rw [QO b,QB,<-y]
  have X:idAt s.held k=lh[k].r.id:=by
   unfold idAt
   cases e:s.held.getD k none with
   |none=>rw [e] at o;cases o
   |some p=>obtain⟨d,i⟩:=p;rw [e] at I;exact I.2.1.id.symm
  simp only [QS,JP,X];exact W
 ·obtain rfl:j=(usedS s.held).length:=by (try dsimp only at t);omega
  rw [Qg,zPk] at O;exact⟨O.older,stp⟩
theorem zDv(S:SrvP R B w bs g c s):Sp PP 23 #[.pointer (some ⟨bs,0,none⟩)] w λv w'=>Own w.heap.size 3 w' v (idsW s.wait)/\Stp w w':=by
 obtain⟨K,wt,hd,lw,lh,lj,RW,S⟩:=S;have r:=S.small;have d:=S.fz.here;have t:=d.fw.len;have e:=d.lwn;refine eN ?_;refine rpnil (rX S.cell rfl (cnt1 TBok 13 [5] 3 13 lw.length (λj v u=>Own w.heap.size 3 u v ((s.wait.take j).map (·.id))/\Stp w u) rfl rfl ⟨Own.nil _ _ _,stp⟩ ?_));rintro j v G u J ⟨O,y⟩;refine ite (λhlt=>?_) (λf=>?_)
 ·have b:j<lw.length:=by (try dsimp only at hlt);omega
  refine rix (S.fz.at (w':=u)).fw (x:=lw[j]) (by simp) λL M z=>rloadA z rfl (ral λA N n2 l=>rE l (lw[j]) λo h p=>?_);have Q:Stp u o:=n2.st p;have h:Bk o A (enc lw[j]) 55:=h;clear l p;refine rX h rfl (rbs1 lw[j].id rfl rfl (by decide) λT C U _ H=>rapp1 (u:=w) ⟨rfl,rfl⟩ (O.up (w':=C)) H (by simp;omega) λV W I X Y=>rA ⟨rfl,b,?_,stp⟩);rw [QO (by omega),QB];have:=(d.waits j b (by omega)).id;simp only [QS,JP,<-this];exact I
 ·obtain rfl:j=lw.length:=by (try dsimp only at f);omega
  rw [e,Qg] at O;exact⟨O,y⟩
theorem SrvF.free(f:SrvF kx g c K wt hd lw lh lj s u):freeAt lh=freeS s.held:=by
 have l:freeAt lh=(lh.map (·.used)).findIdx? λb=>!b:=by unfold freeAt;rw [VH];rfl
 have r:freeS s.held=(s.held.map (·.isSome)).findIdx? λb=>!b:=by unfold freeS;rw [VH];congr 1;funext o;cases o <;> rfl
 rw [l,r];congr 1;refine zFX f.lhn λk t h=>?_;have:=f.helds k t (by rw [f.ljn];exact h);rw [Qk,Qd h,QP] at this
 cases e:s.held[k] with
 |none=>rw [e] at this;simpa [HeldOk] using this
 |some p=>obtain⟨d,j⟩:=p;rw [e] at this;simpa using this.1
theorem zHS(S:SrvP R B w bs g c s)(hB:B<=w.heap.size):
  Sp PP 51 #[.pointer (some ⟨bs,0,none⟩)] w λ_ w'=>SrvP (gR R w w') B w' bs g c ⟨(admitS s.wait s.held).1,(admitS s.wait s.held).2⟩/\Fr R w w':=by
 refine eN ?_;have S0:SrvP (gR R w w) B w bs g c ⟨s.wait,s.held⟩:=SrvX.wide S (λi hi=>.inl hi) λi hi=>hi.elim ((SrvX.reg S).1 i) λh=>by omega
 refine loop0G TBok 8 [2,3,4,5,6,7] (λi u=>∃l h,l.length=i/\admitS l h=admitS s.wait s.held/\SrvP (gR R w u) B u bs g c ⟨l,h⟩/\Fr R w u) rfl ⟨_,s.wait,s.held,rfl,rfl,S0,Fr.refl _ _⟩ ?_;rintro i G u ⟨l,h,hi,I,S,f⟩;clear S0;have z0:=f.size;have SP:=S;obtain⟨K,wt,hd,lw,lh,lj,RW,S⟩:=S;have Q:=S.fz.here;have a7:=S.small;have p:=Q.lwn;have a4:=Q.fw.len;have a8:=S.reg _ S.rs;have b0:=S.reg _ S.rj;have z:=Q.free;dsimp only at p z;refine rX S.cell rfl (rcall (zLb Q.fw (by omega)) ?_);rintro _ u1 ⟨⟨v1,rfl,X⟩,e1⟩;have s1:Stp u u1:=⟨e1⟩;refine ral λbx u2 n2 X2=>?_;have b1:=n2.lo (u:=u);have a6:=n2.lt;refine rE X2 ((nextR lw).1) λu3 O f3=>?_;have O:Bk u3 bx (enc (nextR lw).1) 55:=O;have s3:Stp u1 u3:=n2.st f3;clear X2 f3;refine dQ 13 λu4 e4=>tX S.cell rfl nf (tG O ((nextR lw).1) nf (rcall (zKY (x:=(nextR lw).1) (S.fz.at (w':=u4)).fh (by omega)) ?_));rintro _ b ⟨⟨v5,rfl,J⟩,e5⟩;refine⟨e5.e,?_⟩
 have out:admitS l h=(l,h)->SrvP (gR R w b) B b bs g c ⟨(admitS s.wait s.held).1,(admitS s.wait s.held).2⟩/\Fr R w b:=λhe=>by
  rw [<-I,he];have h1:=lz u b;refine⟨SrvX.wide (SrvP.up (w':=b) SP) (λi hi=>hi.imp id λh=>by omega) λi hi=>?_,f.trans (fE u b)⟩;have T:=(SrvX.reg SP).1;rcases hi with hi|hi
  ·have:=T i (.inl hi);omega
  ·omega
 cases C:lw with
 |nil =>
  subst C;have a0:l=[]:=Qn (by simpa using p.symm);subst a0;exact out rfl
 |cons x r =>
  cases l with
  |nil=>rw [C] at p;simp at p
  |cons d l =>
  rw [C] at X J O;dsimp only [nextR] at X J O ⊢;unfold putH at J ⊢;rw [z] at J ⊢
  cases U:freeS h with
  |none =>
   dsimp only;refine iT (by first|omega|decide|(dsimp only <;> omega)) (out ?_);unfold admitS;rw [U]
  |some k =>
   have L:=zCo U;obtain⟨M,hn⟩:=L;rw [U] at J;dsimp only at J ⊢;refine iF (· rfl) ?_;have a1:k<lj.length:=by rw [Q.ljn];exact M
   have hV:Fz (mutS bs K.bj c.workers RW) (gR R w u) u λu'=>RqV u' x d:=S.fz.imp λu' y=>by
    have:=y.waits 0 (by rw [C];simp) (by simp);simp only [C,Vb] at this;exact this
   have V5:=hV.at (w':=b);have V:=S.so.wait d (by simp);have ok:=zIy S.ci S.so U;have L:=X.shape;obtain⟨Y,c1,rfl⟩:=L;have L:=J.shape;obtain⟨a5,c5,rfl⟩:=L;refine rS S.cell [.slice Y r.length c1] (sv1 _ _ _) λu6 C6 f6=>?_;have C6:Bk u6 bs (srvL c K ⟨Y,r.length,c1⟩ hd) 87:=C6;refine rS C6 [.slice a5 (lh.set k ⟨true,x⟩).length c5] (sv1 _ _ _) λA Z f7=>?_;have Z:Bk A bs (srvL c K ⟨Y,r.length,c1⟩ ⟨a5,(lh.set k ⟨true,x⟩).length,c5⟩) 87:=Z;have t:Fr (λi=>i=bs) b A:=f6.trans f7;have b2:=t.size;have z5:=lz u b;have z3:=lz u3 b;have W:Fr (mutS bs K.bj c.workers RW) b A:=t.mono λi _ hi=>.inl hi;have X7:=(O.mv (w:=b)).fr t (by omega);have J7:=(S.jobs.up (w':=b)).fr t λg _ hg h=>by cases hg;exact S.ne h.symm
   have T7:=(S.st.up (w':=b)).away t λk M i hi h=>(S.rw k M i hi).2.1 h;have Z5:=((S.fz1 (w':=b)).and ((S.fzO (w':=b) (X.up (w':=b)) (Qe _)).and (S.fzO J (lz u u4))));have Z7:Fz (mutS bs K.bj c.workers RW) (gR (gR R w u) u A) A _:=Z5.step W (λ_ _ h=>h) λi _ h=>h.imp id λh=>by omega
   have N:RqV A x d:=hV A (((fE u b).trans W).mono λi _ h=>.inl h);refine dD (λi=>i=K.bj) (upF 12 0) λu8 e8=>tX Z rfl (λh=>S.ne h) (tG X7 x.q (by omega) (rcall (zJm (g:=g) (q:=d.q) (slot:=(k:Int)) ⟨N.q.kind,N.q.frm,N.q.to⟩ V.q.ok) ?_));rintro v9 v ⟨O9,e9⟩;refine⟨Fr.fr e9.e,?_⟩;have L:=O9.shape;obtain⟨a9,c9,rfl⟩:=L;refine tbuild (cs:=enc (⟨⟨a9,(mls g d.q k 0).length,c9⟩,0⟩:RJob)) rfl ?_;have J9:=J7.up (w':=v);refine tixO rfl J9 (x:=lj[k]) (by simp) λgj hgj _ _=>rstO' rfl (⟨⟨a9,(mls g d.q k 0).length,c9⟩,0⟩:RJob) J9 hgj a1 rfl λH a2 o _=>?_;have o:Fr (λi=>i=K.bj) v H:=o.mono λi _ hi=>bjD hi;refine⟨o,?_⟩;have z9:=lz A v;have Z9:=(Z7.step (M':=mutS bs K.bj c.workers RW) (R':=gR (gR R w u) u v) (w':=v) (fE A v) (λ_ _ h=>h) (λi _ h=>h.imp id λh=>by omega)).and (S.fzO (w':=v) O9 (by have:=lz A u8;omega))
   have Zn:Fz (mutS bs K.bj c.workers RW) (gR (gR R w u) u v) v (SrvF 1000 g c K ⟨Y,r.length,c1⟩ ⟨a5,(lh.set k ⟨true,x⟩).length,c5⟩ r (lh.set k ⟨true,x⟩) (lj.set k ⟨⟨a9,(mls g d.q k 0).length,c9⟩,0⟩) ⟨l,h.set k (some (d,0))⟩):=
    Z9.imp λu' ⟨⟨y,Sw,Sh⟩,Sm⟩=>by
     have p:=y.lwn;refine⟨y.rows,y.pos,y.words,y.wk,Sw,Sh,?_,λi h1 T=>?_,by simp [y.lhn],by simp [y.ljn],zNG M y.helds ⟨rfl,?_,λ_=>⟨Sm,rfl⟩⟩⟩
     ·rw [C] at p;simpa using p
     ·have:=y.waits (i+1) (by rw [C];simpa using h1) (by simpa using T);simp only [C,List.getElem_cons_succ] at this;exact this
     ·have:=y.waits 0 (by rw [C];simp) (by simp);simp only [C,Vb] at this;exact this
   have fin:=S.fin (w1:=v) (w':=H) (s':=⟨l,h.set k (some (d,0))⟩) (by omega) (o.mono λi _ h=>.inr (.inl h)) (Qw hB z0) ((Z.mv (w:=v)).fr o S.ne) a2 (((T7.up (w':=v)).away o λk M i hi h=>(S.rw k M i hi).2.2 h)) (.refl _) ok Zn;have b3:=o.size
   have hm:Fr R w H:=by
    refine f.join (E:=gR R w u) (D:=R) (((fE u b).trans (t.mono λi _ h=>h ▸ S.rs)).trans ((fE A v).trans (o.mono λi _ h=>h ▸ S.rj))) (λ_ _ h=>h) λi hi h=>h.elim id λh=>by omega
   refine⟨l.length,by rw [<-hi];simp,l,h.set k (some (d,0)),rfl,?_,?_,hm⟩
   ·rw [<-I]
    conv=>rhs;unfold admitS
    rw [U]
   ·have e2:wkS g c.workers h=wkS g c.workers (h.set k (some (d,0))):=(zQj M hn d).symm;dsimp only at fin;rw [e2] at fin;refine SrvX.wide (R:=gR (gR R w u) u H) ⟨K,_,_,_,_,_,RW,fin⟩ (gR_gR z0 (by omega)) λi hi=>?_
    ·have T:=(SrvX.reg SP).1;rcases hi with hi|hi
     ·have:=T i (.inl hi);omega
     ·omega
end
section
variable {kx:Nat} {R:Nat->Prop} {B:Nat} {w0 w w':World} {bs:Nat} {g:GrD} {c:CfD} {s:SvD} {Ls:Nat->List StD} {K:SrvK} {wt hd:SV} {lw:List RReq} {lh:List RHeld} {lj:List RJob} {RW:Nat->Nat->Prop}
theorem zFJ{a b:StD}{w:World}:Sp PP 195 #[agg a,agg b] w λv w'=>v=.int .i64 (cfS a b)/\Gw w w':=by
 refine eN ?_;refine rbx λp w1 n1 d=>rbx λr w2 n2 f=>drawRE TBok mixed (λ_=>False) (.one 0 (.one 1 (.one 2 (.one 3 (.one 4 (.one 5 (.one 7 (.one 8 (.one 9 (.one 10 (.one 11 (.one 12 (.one 6 (.one 13 (.one 14 (.one 15 (.one 16 .nil))))))))))))))))) (by kernel_rfl) λt x l=>?_;refine tX d rfl nf (tX f rfl nf ?_);refine tX d rfl nf (tX f rfl nf ?_);refine rcall zAc ?_;rintro v y ⟨rfl,rfl⟩;refine⟨Fr.refl _ _,?_⟩;refine rcall zAc ?_;rintro v z ⟨rfl,rfl⟩;refine⟨Fr.refl _ _,?_⟩;refine rbsN [cmpI a.key.dir b.key.dir,cmpI a.key.v b.key.v] rfl (vs:=[.int .i64 (cmpI a.key.dir b.key.dir),.int .i64 (cmpI a.key.v b.key.v)]) rfl rfl (by decide) λA C h o=>⟨h.e,?_⟩;refine rcall (zBO o (by simp)) ?_;rintro v E ⟨rfl,rfl⟩;refine⟨Fr.refl _ _,?_⟩;exact⟨rfl,n1.gw.trans (n2.gw.trans (l.trans h.gw))⟩
theorem zLZ{l':List StD}{o:Option (RqD×Nat)}(h:l'.Perm (sts1 g o k))(p:l'.Pairwise λa b=>¬cfS b a<0):l'=sts1 g o k:=by
 have M:=zEE g o k;refine SRis.uniq ?_ M λx=>h.mem_iff;have d:l'.Nodup:=h.nodup_iff.2 M.nodup;rw [Qx] at d;refine Vv (λ{a b} r t l=>?_) (p.and d);have e:=h.mem_iff.1 r;have f:=h.mem_iff.1 t;have v:=zBn e;have y:=zBn f;refine zCq (λz=>l.1 ((zHZ _ _).2 ?_)) (λA=>l.2 (M.inj e f A.symm));unfold lessK at z;omega
theorem SrvP.lens(S:SrvP R B w bs g c s):∀k,k<c.workers->(wkS g c.workers s.held k).length<=c.pool:=λk b=>by
 obtain⟨K,wt,hd,lw,lh,lj,RW,S⟩:=S;exact(S.st.sto k b).lt.2.2.2.1
theorem zC7{k0:Nat}(S:SrvP R B w bs g c s)(A:k0<s.held.length):
  Sp PP 110 #[.pointer (some ⟨bs,0,none⟩),.int .i64 (k0:Int)] w λv w'=>Own w.heap.size 222 w' v (sts1 g (s.held.getD k0 none) k0)/\Stp w w':=by
 have b:=S.lens;obtain⟨K,wt,hd,lw,lh,lj,RW,S⟩:=S;have V:=S.ci.workers;have C:=S.ci.pool;have H:=S.fz.here.wkn
 have e:∀j,j<=c.workers->((List.range j).flatMap λk=>ofS (wkS g c.workers s.held k) (k0:Int)).length<=j*400:=by
  intro j
  induction j with
  |zero=>intro _;simp
  |succ j I =>
   intro t;have z:=I (by omega);rw [Jm,Jl,Qb];have J:(ofS (wkS g c.workers s.held j) (k0:Int)).length<=(wkS g c.workers s.held j).length:=Qv _ _;have L:=b j (by omega);simp only [JV,XM,QE];rw [Jo];omega
 refine eN ?_;refine rX S.cell rfl (cnt1 TBok 14 [7,8] 5 14 c.workers (λj v u=>Own w.heap.size 222 u v ((List.range j).flatMap λk=>ofS (wkS g c.workers s.held k) (k0:Int))/\Stp w u) rfl rfl ⟨Own.nil _ _ _,stp⟩ ?_);rintro j v G u t ⟨O,X⟩;refine ite (λhlt=>?_) (λh=>?_)
 ·have d:j<c.workers:=by (try dsimp only at hlt);omega
  refine rix (S.fz.at (w':=u)).wk (x:=⟨K.sb j⟩) (by simp [d]) λY Z M=>rload1 (M.cell0 rfl) (rcall (zLY (s:=(k0:Int)) ((S.st.sto j d).up (w':=u))) ?_);rintro v1 l ⟨o,e1⟩;have z:=e j t;have J:(ofS (wkS g c.workers s.held j) (k0:Int)).length<=(wkS g c.workers s.held j).length:=Qv _ _;have L:=b j (by omega);refine rapp (u:=w) ⟨rfl,rfl⟩ (O.up (w':=l)) o.sl (by omega) λv2 u2 N f2 s2=>rA ⟨rfl,d,?_,stp⟩;rw [Jm,Jl];simp only [JV,XM,QE];exact N
 ·obtain rfl:j=c.workers:=by (try dsimp only at h);omega
  have z:=e c.workers (Qe _);refine rcall (zCT Tryz.sortS (k:=4) (show Agg PP 222 4 from inferInstance) rfl cfS zMd (f:=191) rfl (λx y W=>zFJ) O (by omega)) ?_;rintro r l ⟨rfl,l',Q,T,o,U⟩;have s1:Stw w u l:=zAH U;have p:=zLZ (Q.trans (of_all A (by omega))) T;rw [<-p];exact⟨o,stp⟩
theorem zDY{k0:Nat}{t:RqD}{C:Nat}{e:TypeId}{n':Nat}(S:SrvR 1000 R B w bs g c s (wkS g c.workers s.held) K wt hd lw lh lj RW)(hB:B<=w.heap.size)(hu:s.held.getD k0 none=some (t,i))(O:Own C e w (.slice a n n') (sts g t.q k0 (i+1)))(hC:∀i,R i->i<C):
  Sp PP 111 #[.pointer (some ⟨bs,0,none⟩),.slice a n n'] w λv w'=>(∃b Ls d,v=.bool b/\SrvR 1000 (gR R w w') B w' bs g c s Ls K wt hd lw lh lj d/\GrowR c.workers RW d w.heap.size/\overS g c (aftS s.held k0 t i) = !b/\ButS g c.workers s.held k0 Ls/\(b=true->Ls=wkS g c.workers (aftS s.held k0 t i)))/\Fr (anyR c.workers RW) w w':=by
 have L:=zAo hu;obtain⟨r,hm⟩:=L;have a9:=S.so.len;have M:=(S.so.held t i hm).1;have a0:=S.gi.ok.n2;have hW:=S.ci.workers;have b0:=S.ci.slots;have b3:=S.fz.here.wkn;have b4:=O.sl.len
 have b5:(sts g t.q k0 (i+1)).length<=400:=by
  rw [zFZ];have:=sn_le (dir:=0) M.q.ok (i+1);have:=sn_le (dir:=1) M.q.ok (i+1);omega
 have a1:=S.reg _ S.rs;have b6:=S.reg _ S.rj
 have fin:∀{u:World} {d:Nat->Nat->Prop} {Ls:Nat->List StD},Stos B u c.workers K c.pool d Ls->GrowR c.workers RW d w.heap.size->Fr (anyR c.workers RW) w u->SrvR 1000 (gR R w u) B u bs g c s Ls K wt hd lw lh lj d:=λ{u d Ls} T I f=>by
  have a2:¬anyR c.workers RW bs:=λ⟨k,r,h⟩=>(S.rw k r _ h).2.1 rfl;have a4:¬anyR c.workers RW K.bj:=λ⟨k,r,h⟩=>(S.rw k r _ h).2.2 rfl;exact S.fin (w1:=w) (Qe _) (f.mono λi _ h=>zBJ h) hB (S.cell.fr f a2) (S.jobs.fr f λg _ hg h=>by cases hg;exact a4 h) T I S.so (S.fz1 (w':=w))
 refine eN ?_
 refine cnt TBok 12 [4,6,7,8,9] 12 (sts g t.q k0 (i+1)).length (λj u=>∃d Ls',Stos B u c.workers K c.pool d Ls'/\GrowR c.workers RW d w.heap.size/\Fr (anyR c.workers RW) w u/\KeepI g c.workers s.held (sts g t.q k0 (i+1)) j Ls') rfl rfl
  ⟨RW,_,S.st,.refl _,Fr.refl _ _,zNJ _⟩ ?_
 rintro j G u hj ⟨d,Ls',T,I,f,H⟩;refine ite (λhlt=>?_) (λa5=>?_)
 ·have A:j<(sts g t.q k0 (i+1)).length:=by (try dsimp only at hlt);omega
  have L:∃x,(sts g t.q k0 (i+1))[j]=x:=⟨_,rfl⟩;obtain⟨x,hx⟩:=L;have X:x∈sts g t.q k0 (i+1):=hx ▸ Qa A;have J:=zD1 M.q.ok a0 (by omega) X;have hv:=sts1_v (g:=g) (o:=some (t,i+1)) (k:=k0) X;have a6:=zJZ (W:=c.workers) (v:=x.key.v) (by omega);have L:∃p:Nat,homW c.workers x.key.v=(p:Int):=⟨(homW c.workers x.key.v).toNat,by omega⟩;obtain⟨p,hp⟩:=L;have y:p<c.workers:=by omega
  have Ou:=O.fr f λb hb _ ⟨k,r,h⟩=>by have:=hC b (S.rw k r b h).1;omega
  refine rix Ou.sl (x:=x) (by rw [Qd A,hx]) λb1 o1 A1=>rloadA A1 rfl (ral λbx u2 n2 X2=>?_);have b7:=n2.lo (u:=u);refine rE X2 x λu3 Z f3=>?_;have Z:Bk u3 bx (enc x) 222:=Z;have s3:Stp u u3:=n2.st f3;clear X2 f3;have zf:=f.size;have Cu:=S.cell.fr f λ⟨k,r,h⟩=>(S.rw k r _ h).2.1 rfl;refine dQ 14 λu4 e4=>tX Z rfl nf (tX Cu rfl nf ?_);refine rcall (zCx (v:=x.key.v) (W:=c.workers)) ?_;rintro _ u5 ⟨rfl,rfl⟩
  have e5:homV c.workers x.key.v=.tuple #[.int .i64 (p:Int),.bool true]:=by
   rw [<-hp];exact if_pos ⟨hv,by have:=J.2.1;omega,hW⟩
  rw [e5];refine⟨Fr.refl _ _,?_⟩;have nD:∀b,b<w.heap.size->¬anyR c.workers RW b->¬anyR c.workers d b:=λb hb hn ⟨k,r,h⟩=>(I k r b h).elim (λz=>hn ⟨k,r,z⟩) λz=>by omega
  refine dD (anyR c.workers d) (upF 10 0) λN e6=>tX Cu rfl (nD _ a1.2 λ⟨k,r,h⟩=>(S.rw k r _ h).2.1 rfl) (tixF (l:=(List.range c.workers).map λk=>(⟨K.sb k⟩:RPtr)) (x:=⟨K.sb p⟩) (λw' f'=>?_) (by simp [y]) λb2 o2 A2=>tload1F A2 ?_)
  ·exact(S.fz w' ((f.join ((Fr.fr (D:=anyR c.workers d) (lE u N)).trans f') (λ_ _ h=>h) λi hi ⟨k,r,h⟩=>(I k r i h).elim (λz=>⟨k,r,z⟩) λz=>by omega).mono λi _ h=>.inl (zBJ h))).wk
  refine tG Z x (λ⟨k,r,h⟩=>by have:=T.lt k r _ h;omega) (rcall (zK2 (x:=x) ((T.sto p y).up (w':=N))) ?_);rintro _ u7 ⟨rfl,S7,_,f7⟩;refine⟨f7.mono λi _ h=>⟨p,y,h⟩,?_⟩;have T6:=T.up (w':=N);have T7:=T6.put y S7 f7;have z6:=lz u N;have Q:GrowR c.workers RW (updR d p (gR (d p) N u7)) w.heap.size:=I.put (by omega);have f6:Fr (anyR c.workers RW) w N:=f.trans (fE u N);have U:=I.fr f6 y f7;have L:=H.put hu A hx J.1 (n:=c.pool) hp;rcases L with ⟨z,Y,h3⟩|⟨z,Y⟩
  ·refine iT z ?_;have hq:=fin T7 Q U;have V:overS g c (aftS s.held k0 t i) = !false:=zB8.2 ⟨p,y,h3⟩
   have he:updL Ls' p (putS' c.pool (Ls' p) x).1=Ls':=by
    funext k;unfold updL;split
    ·rename_i a7;rw [Y,a7]
    ·rfl
   rw [he] at hq;exact⟨⟨false,Ls',_,rfl,hq,Q,V,H.but,λh=>by cases h⟩,U⟩
  ·refine iF z ?_;exact rA ⟨rfl,A,_,_,T7,Q,U,Y⟩
 ·have a8:j=(sts g t.q k0 (i+1)).length:=by (try dsimp only at a5);omega
  subst a8;have he:=H.end hu;have hq:=fin T I f
  have V:overS g c (aftS s.held k0 t i) = !true:=by
   show _=false;rw [<-Vy,zB8];rintro⟨k,r,z⟩;have Y:=(T.sto k r).lt.2.2.2.1;rw [he,zMO] at Y;omega
  exact⟨⟨true,Ls',_,rfl,hq,I,V,H.but,λ_=>he⟩,f⟩
end
theorem zM1{k:Int}{l:List HitD}:(firstK k l).length<=k.toNat/\∀h∈firstK k l,h∈l:=by
 unfold firstK;split
 ·simp
 ·rename_i d;have b:=QU (show (0:Int)<=k by omega);obtain⟨m,rfl⟩:=b;rw [zGk];refine⟨by simp;omega,λh c=>?_⟩;exact(zEA l).2.mem_iff.1 (Vu c)
theorem zJS(r:GrOk g)(p:QyOk q g.n)(I:k<=1000){id:Int}(b:0<=id/\id<=2147483647):
  RepOk (repOf id 0 (doneL g q (sts g q k i) (mls g q k i)).1) (doneL g q (sts g q k i) (mls g q k i)).1.hits:=by
 have t:=r.n2
 have f:∀x∈sts g q k i,0<=x.key.v/\x.key.v<200/\0<=x.d/\x.d<200:=λx e=>by
  have c:=zD1 p t (by omega) e;have w:=c.1.1;unfold mayK at w;omega
 have zr:RepOk (repOf id 0 zAn) zAn.hits:=⟨b,by simp [repOf],by simp [repOf,zAn],by simp [zAn],by simp [repOf],by simp [repOf,zAn],by simp [zAn],by simp [zAn]⟩;unfold doneL;split
 ·unfold distL;split
  ·rename_i m z;have c:=(zFn.1 z).1;have o:=zC3.1 c;obtain⟨x,e,y,A,_,_,_,rfl⟩:=o;have:=f x e;have:=f y A;exact⟨b,by simp [repOf],by simp only [repOf];omega,by simp,by simp [repOf],by simp [repOf],by simp,by simp⟩
  ·exact zr
 split
 ·unfold reachL;split
  ·exact⟨b,by simp [repOf],by simp [repOf],by simp,by simp [repOf],by simp [repOf],by simp,by simp⟩
  ·exact zr
 split
 ·rename_i C;have E:=p.near C;unfold nearL;split
  ·have F:=zM1 (k:=q.most) (l:=hitsL (placesL g q.words) (sts g q k i));refine⟨b,by simp [repOf],by simp [repOf],by dsimp only;omega,by simp [repOf],λG=>?_,.inr rfl,λh H=>?_⟩
   ·refine⟨rfl,?_⟩;simpa [repOf] using G
   ·have c:=F.2 h H;unfold hitsL at c;have o:=Qq.1 c;obtain⟨x,e,rfl⟩:=o;have:=f x (QC.1 e).1;exact⟨by show 0<=x.key.v;omega,by show x.key.v<200;omega,by show 0<=x.d;omega,by show x.d<=200;omega⟩
  ·exact zr
 ·exact zr
theorem zGJ{id b:Int}(c:0<=id/\id<=2147483647)(d:0<=b/\b<=1000):RepOk (repOf id b zAn) zAn.hits:=
 ⟨c,d,by simp [repOf,zAn],by simp [zAn],λ_=>by simp [repOf,zAn],by simp [repOf,zAn],by simp [zAn],by simp [zAn]⟩
section
variable {g:GrD} {q:QyD}
end
section
variable {g:GrD} {c:CfD}
theorem zNt{h:Hs}(f:j≠k):(stepS g c h k).1.getD j none=h.getD j none:=by
 have d:=zGD (g:=g) (c:=c) (h:=h) (k:=k);rcases d with ⟨_,e⟩|⟨p,r,l,e⟩
 ·rw [e]
 ·have d:=zAo l;obtain⟨o,_⟩:=d;rcases e with ⟨_,b⟩|⟨_,_,b⟩|⟨_,_,_,b⟩|⟨_,_,_,b⟩ <;> rw [b] <;> dsimp only <;> rw [zAz o,if_neg f]
theorem zJf{h:Hs}(b:k∈usedS h):∃x i,h.getD k none=some (x,i):=by
 unfold usedS at b;have f:=zEz.1 b;obtain⟨_,d⟩:=f
 cases e:h.getD k none with
 |none=>rw [e] at d;cases d
 |some p=>exact⟨p.1,p.2,rfl⟩
theorem zML(h:Hs):(usedS h).Nodup:=List.nodup_range.filter _
end
noncomputable def stepR (g:GrD) (c:CfD) (h:Hs) (k:Nat):Option (Int×Int×AnP):=match h.getD k none with
 |none=>none
 |some (x,i) =>
  if overS g c (h.set k (some (x,i+1))) then some (x.id,250,zAn)
  else if (doneL g x.q (sts g x.q k (i+1)) (mls g x.q k (i+1))).2 then some (x.id,0,(doneL g x.q (sts g x.q k (i+1)) (mls g x.q k (i+1))).1)
  else if c.budget<=i+1 then some (x.id,251,zAn) else none
noncomputable def bytR (p:Int×Int×AnP):List UInt8:=repB p.1 p.2.1 p.2.2
section
variable {g:GrD} {c:CfD}
theorem zEB(h:Hs)(k:Nat):(stepS g c h k).2=(stepR g c h k).map bytR/\repIds g c h k=((stepR g c h k).map (·.1)).toList:=by
 unfold repIds stepS stepR
 cases e:h.getD k none with
 |none=>exact⟨rfl,rfl⟩
 |some p =>
  obtain⟨x,i⟩:=p;dsimp only;split
  ·exact⟨rfl,rfl⟩
  ·split
   ·exact⟨rfl,rfl⟩
   ·split
    ·exact⟨rfl,rfl⟩
    ·exact⟨rfl,rfl⟩
def TickRep (g:GrD) (c:CfD) (h:Hs) (p:Int×Int×AnP):Prop:=
 ∃x k i,k<h.length/\h.getD k none=some (x,i)/\RqOk g x/\x.id=p.1/\i+1<=c.budget/\k<=1000 /\
  (p.2=(250,zAn)\/p.2=(251,zAn) \/
   (doneL g x.q (sts g x.q k (i+1)) (mls g x.q k (i+1))).2=true/\p.2=(0,(doneL g x.q (sts g x.q k (i+1)) (mls g x.q k (i+1))).1))
theorem zPh{l:List RqD}{h:Hs}(f:CfOk c)(s:SvOk g c ⟨l,h⟩){p:Int×Int×AnP}(b:stepR g c h k=some p):TickRep g c h p:=by
 unfold stepR at b
 cases e:h.getD k none with
 |none=>rw [e] at b;cases b
 |some q =>
  obtain⟨x,i⟩:=q;rw [e] at b;have o:=zAo e;obtain⟨d,r⟩:=o;have t:=s.held x i r;have v:=s.len;have w:=f.slots.2;dsimp only at b v d;refine⟨x,k,i,d,e,t.1,?_⟩;split at b
  ·cases b;exact⟨rfl,by omega,by omega,.inl rfl⟩
  ·split at b
   ·rename_i y;cases b;exact⟨rfl,by omega,by omega,.inr (.inr ⟨y,rfl⟩)⟩
   ·split at b
    ·cases b;exact⟨rfl,by omega,by omega,.inr (.inl rfl)⟩
    ·cases b
theorem TickRep.ok(o:GrOk g){h:Hs}{p:Int×Int×AnP}(t:TickRep g c h p):RepOk (repOf p.1 p.2.1 p.2.2) p.2.2.hits/\(p.2.1=0\/p.2.1=250\/p.2.1=251):=by
 obtain⟨id,l,a⟩:=p;obtain⟨x,k,i,r,e,d,rfl,_,f,b⟩:=t;rcases b with b|b|⟨_,b⟩
 ·cases b;exact⟨zGJ d.id (by dsimp only;decide),by simp⟩
 ·cases b;exact⟨zGJ d.id (by dsimp only;decide),by simp⟩
 ·cases b;exact⟨zJS o d.q.ok f d.id,by simp⟩
end
section
variable {g:GrD} {c:CfD} {h:Hs} {k:Nat} {x:RqD} {i:Nat}
theorem zI9(e:h.getD k none=some (x,i))(b:overS g c (h.set k (some (x,i+1)))=true):stepR g c h k=some (x.id,250,zAn)/\(stepS g c h k).1=h.set k none:=by
 unfold stepR stepS;rw [e];dsimp only;rw [if_pos b,if_pos b];exact⟨rfl,rfl⟩
theorem zCt(e:h.getD k none=some (x,i))(d:overS g c (h.set k (some (x,i+1)))=false)(hd:(doneL g x.q (sts g x.q k (i+1)) (mls g x.q k (i+1))).2=true):
  stepR g c h k=some (x.id,0,(doneL g x.q (sts g x.q k (i+1)) (mls g x.q k (i+1))).1)/\(stepS g c h k).1=h.set k none:=by
 have b:¬overS g c (h.set k (some (x,i+1)))=true:=by rw [d];simp
 unfold stepR stepS;rw [e];dsimp only;rw [if_neg b,if_neg b,if_pos hd,if_pos hd];exact⟨rfl,rfl⟩
theorem zEC(e:h.getD k none=some (x,i))(l:overS g c (h.set k (some (x,i+1)))=false)(hd:(doneL g x.q (sts g x.q k (i+1)) (mls g x.q k (i+1))).2=false)(d:c.budget<=i+1):
  stepR g c h k=some (x.id,251,zAn)/\(stepS g c h k).1=h.set k none:=by
 have f:¬overS g c (h.set k (some (x,i+1)))=true:=by rw [l];simp
 have b:¬(doneL g x.q (sts g x.q k (i+1)) (mls g x.q k (i+1))).2=true:=by rw [hd];simp
 unfold stepR stepS;rw [e];dsimp only;rw [if_neg f,if_neg f,if_neg b,if_neg b,if_pos d,if_pos d];exact⟨rfl,rfl⟩
theorem zD0(e:h.getD k none=some (x,i))(l:overS g c (h.set k (some (x,i+1)))=false)(hd:(doneL g x.q (sts g x.q k (i+1)) (mls g x.q k (i+1))).2=false)(d:¬c.budget<=i+1):
  stepR g c h k=none/\(stepS g c h k).1=h.set k (some (x,i+1)):=by
 have f:¬overS g c (h.set k (some (x,i+1)))=true:=by rw [l];simp
 have b:¬(doneL g x.q (sts g x.q k (i+1)) (mls g x.q k (i+1))).2=true:=by rw [hd];simp
 unfold stepR stepS;rw [e];dsimp only;rw [if_neg f,if_neg f,if_neg b,if_neg b,if_neg d,if_neg d];exact⟨rfl,rfl⟩
end
section
variable {kx:Nat} {R:Nat->Prop} {B:Nat} {w0 w w':World} {bs:Nat} {g:GrD} {c:CfD} {s:SvD} {Ls:Nat->List StD} {K:SrvK} {wt hd:SV} {lw:List RReq} {lh:List RHeld} {lj:List RJob} {RW:Nat->Nat->Prop}
theorem zIL{b:Hs}{k0:Nat}{f:RJob}{d:RqD}{o:Nat}(r:k0<b.length)(e:b.getD k0 none=some (d,i))(H:∀k (h:k<lh.length) (t:k<lj.length),HeldOk 1000 u g lh[k] lj[k] (b.getD k none) k)(h:SlF u f.mails.v (mls g d.q k0 o)/\f.steps=o):
  ∀k (h:k<lh.length) (t:k<(lj.set k0 f).length),HeldOk 1000 u g lh[k] (lj.set k0 f)[k] ((b.set k0 (some (d,o))).getD k none) k:=λk x y=>by
 have l:=H k x (by simpa using y);rw [zAz r];by_cases p:k=k0
 ·subst p;rw [if_pos rfl,JX];rw [e] at l;exact⟨l.1,l.2.1,λ_=>h⟩
 ·rw [if_neg p,JT (Jq p)];exact l
theorem zGl{e:Hs}{k0:Nat}{l:RJob}(x:lh.length<=64)(H:∀k (h:k<lh.length) (r:k<lj.length),HeldOk 1000 u g lh[k] lj[k] (e.getD k none) k):
  ∀k (h:k<lh.length) (r:k<(lj.set k0 l).length),HeldOk k0 u g lh[k] (lj.set k0 l)[k] (e.getD k none) k:=λk t v=>by
 have b:=H k t (by simpa using v)
 cases o:e.getD k none with
 |none=>rw [o] at b;exact b
 |some p =>
  obtain⟨d,i⟩:=p;rw [o] at b;refine⟨b.1,b.2.1,λf=>?_⟩;rw [JT (Jq f)];exact b.2.2 (by omega)
def StepT (R : Nat -> Prop) (B : Nat) (bs : Nat) (g : GrD) (c : CfD) (s : SvD) (k0 : Nat) (w : World) (v : Value) (w' : World) : Prop :=
  (∃ (y : RepD) (all : Bool), v = .tuple #[agg y, .bool all] /\
    ((all = true /\ ∃ p Ls K wt hd lw lh lj RW, stepR g c s.held k0 = some p /\ y.id = p.1 /\ y.code = p.2.1 /\ y.a.found = p.2.2.found /\ y.a.num = p.2.2.num /\ Fz (mutS bs K.bj c.workers RW) (gR R w w') w' (λu => SlF u (.slice y.a.s.a y.a.s.n y.a.s.c) p.2.2.hits) /\
        SrvR k0 (gR R w w') B w' bs g c s Ls K wt hd lw lh lj RW /\ ButS g c.workers s.held k0 Ls /\ (stepS g c s.held k0).1 = s.held.set k0 none) \/
     (all = false /\ stepR g c s.held k0 = none /\ SrvP (gR R w w') B w' bs g c ⟨s.wait, (stepS g c s.held k0).1⟩))) /\ Fr R w w'
def zRp (id code:Int):RepD:=⟨id,code,⟨false,0,⟨none,0,0⟩⟩⟩
theorem zBh{k0:Nat}{b:RqD}(d:k0<s.held.length):ButS g c.workers s.held k0 (wkS g c.workers (aftS s.held k0 b i)):=λk=>⟨zBz ..,λx e=>by rw [zAP,zAP,zBC d e]⟩
theorem zIq{k0:Nat}{C:RqD}{c3:Nat}(S:SrvP R B w bs g c s)(hB:B<=w.heap.size)(hu:s.held.getD k0 none=some (C,i))(h3:SlF w (.slice a3 n3 c3) ps):
  Sp PP 53 #[.pointer (some ⟨bs,0,none⟩),.int .i64 (k0:Int),.slice a3 n3 c3] w (StepT R B bs g c s k0 w):=by
 have SP:=S
 obtain⟨K,wt,hd,lw,lh,lj,RW,S⟩:=S
 have H:=zAo hu
 obtain⟨hk,hm⟩:=H
 have F0:=S.fz.here
 have p2:=S.so.len
 have g4:=(S.so.held C i hm).1
 have p5:=(S.so.held C i hm).2
 have m5:=S.gi.ok.n2
 have hW:=S.ci.workers
 have p6:=S.ci.slots
 have p7:=S.ci.budget
 have g7:=S.gi
 have p8:=S.ps
 have g5:k0<lh.length:=by rw [F0.lhn];exact hk
 have g6:k0<lj.length:=by rw [F0.ljn];exact hk
 have m6:=F0.helds k0 g5 g6
 rw [hu] at m6
 obtain⟨o2,b8,g8⟩:=m6
 have g8:=g8 (by omega)
 have a0:=g8.2
 have p9:=F0.wkn
 have q0:=F0.fh.len
 have b7:=SP.lo
 have d0:∀{j:Nat} {x:StD},x∈sts g C.q k0 j->mayX x/\x.key.v<g.n/\0<=x.d/\x.d<g.n:=λ{j x} hx=>by
  have:=zD1 g4.q.ok m5 (by omega) hx
  exact⟨this.1,this.2.1,this.2.2.1,this.2.2.2.1⟩
 have j7:∀{j:Nat} {x:StD},x∈mls g C.q k0 j->mayX x/\x.key.v<g.n/\0<=x.d/\x.d<g.n:=λ{j x} hx=>zH8 g4.q.ok m5 (by omega) hx
 have g9:∀j,(sts g C.q k0 j).length<=400:=λj=>by
  rw [zFZ]
  have:=sn_le (dir:=0) g4.q.ok j
  have:=sn_le (dir:=1) g4.q.ok j
  omega
 have j8:∀j,(mls g C.q k0 j).length<=400:=λj=>by
  have h1:=g9 (j+1)
  have h2:=(zBc (mls g C.q k0 j) (sts g C.q k0 j)).length_eq
  have h4:sts g C.q k0 (j+1)=insAll (mls g C.q k0 j) (sts g C.q k0 j):=rfl
  rw [<-h4,List.length_append] at h2;omega
 have k1:=zK0 (g:=g) (q:=C.q) (slot:=(k0:Int)) g7.ok i
 have H:∃rr,lh[k0]? = some rr:=⟨lh[k0],List.getElem?_eq_getElem g5⟩
 obtain⟨rr,k2⟩:=H
 have H:∃jj,lj[k0]? = some jj:=⟨lj[k0],List.getElem?_eq_getElem g6⟩
 obtain⟨jj,k3⟩:=H
 have er:lh[k0]=rr:=by rw [List.getElem?_eq_getElem g5] at k2;exact Option.some.inj k2
 have ej:lj[k0]=jj:=by rw [List.getElem?_eq_getElem g6] at k3;exact Option.some.inj k3
 rw [er] at o2 b8
 rw [ej] at g8 a0
 have o1:jj.mails.n=(mls g C.q k0 i).length:=SlF.len (a:=jj.mails.a) (c:=jj.mails.c) g8.1
 have g0:Fz (mutS bs K.bj c.workers RW) R w λu=>RqV u rr.r C/\SlF u jj.mails.v (mls g C.q k0 i):=S.fz.imp λu N=>by
  have:=N.helds k0 g5 g6
  rw [hu,er,ej] at this
  exact⟨this.2.1,(this.2.2 (by omega)).1⟩
 have m7:=(S.reg _ S.rj).2
 have p3:=(S.reg _ S.rs).2
 refine en TBok rfl ?_
 refine ral λb6 w1 n1 Y1=>?_
 have j9:=n1.lo (u:=w)
 have p4:=n1.lt
 have m8:=F0.fh.lt (λh=>by rw [h] at g5;simp at g5)
 refine drawRT TBok mixed (λi=>w.heap.size<=i) (.one 0 (.one 1 (.one 2 (.one 3 (.one 4 (.one 5 (.one 6 (.one 7 (.one 8 (.one 9 (.one 10 (.one 11 (.one 12 (.one 13 (.one 14 (.two 15 (.one 16 (.one 17 (.one 18 .nil))) 16 (.one 15 (.one 17 (.one 18 .nil))))))))))))))))))) (by kernel_rfl) λw2 e2 _=>?_
 refine tld (B:=S.cell) rfl (by omega) ?_
 refine tix (S.fz.at (w':=w2)).fh k2 λb o A hb=>tloadA (cs:=enc rr.r) (A.sub 1 8) (Enc.len _) ?_ ?_
 ·obtain⟨b',h1,h2⟩:=m8
  rw [hb] at h1;cases h1;omega
 refine tld (B:=S.cell) rfl (by omega) ?_
 refine tix (S.jobs.up (w':=w2)).sl k3 λb o A hb=>tloadA A (Enc.len _) ?_ ?_
 ·cases hb;exact Nat.not_le.2 m7
 refine⟨?_,?_⟩
 ·refine ral λbx w3 n3 X3=>⟨Fr.fr n3.e,?_⟩
  refine ral λbJ w4 n4 h0=>⟨Fr.fr n4.e,?_⟩
  have h5:=n3.lo (u:=w)
  have e1:=n4.lo (u:=w)
  have m9:=n3.lo (u:=w1)
  have n0:=n4.lo (u:=w1)
  have d5:¬bJ=bx:=by have:=n4.b;have:=n3.lt;omega
  have X4:=X3.mv (w:=w4)
  refine rsto (B:=X4) (vs:=enc rr.r) rfl rfl rfl (Enc.one _) λw5 X5 f5 _=>?_
  have X5:Bk w5 bx (enc rr.r) 55:=X5
  have s5:Stp w1 w5:=⟨Fr.st (Le.e (a:=w1) (b:=w4)) f5 λi hi=>by omega⟩
  have h6:=h0.fr f5 d5
  refine⟨f5.mono λi _ hi=>by omega,?_⟩
  refine rsto (B:=h6) (vs:=enc jj) rfl rfl rfl (Enc.one _) λw6 e3 f6 _=>?_
  have e3:Bk w6 bJ (enc jj) 188:=e3
  have s6:Stp w1 w6:=⟨Fr.st s5.e f6 λi hi=>by omega⟩
  have X6:=X5.fr f6 (λh=>d5 h.symm)
  refine⟨f6.mono λi _ hi=>by omega,?_⟩
  clear X4 h0 X5 h6
  refine rld (B:=X6) rfl ?_
  refine rbuild (cs:=enc (zRp rr.r.id 0)) rfl ?_
  refine ral λa6 w7 n7 Y7=>?_
  have h7:=n7.lo (u:=w)
  have n5:b6<a6:=by have:=n7.b;have:=Le.size (a:=w1) (b:=w6);omega
  refine rsto (B:=Y7) (vs:=enc (zRp rr.r.id 0)) rfl rfl rfl (Enc.one _) λw8 Y8 f8 _=>?_
  have Y8:Bk w8 a6 (enc (zRp rr.r.id 0)) 67:=Y8
  have s8:Stp w6 w8:=⟨Fr.st (Le.e (a:=w6) (b:=w7)) f8 λi hi=>by have:=n7.b;omega⟩
  clear Y7 f8
  have X8:=X6.mv (w:=w8)
  have e4:=e3.mv (w:=w8)
  refine drawR TBok mixed (λ_=>False) [0,1,2,3,4,5,6,7,9,10,11,12,13,14,15,16,8,17,18,19,20,21,22,23,24] (by kernel_rfl) λw9 e9 _=>?_
  refine tldG (ds:=enc rr.r.q) (B:=X8) rfl (Enc.len _) nf ?_
  refine tldG (ds:=enc K.xr) (B:=S.cell) rfl (Enc.len _) nf ?_
  refine tld (B:=e4) rfl nf (tld (B:=S.cell) rfl nf ?_)
  refine rcall (zC7 (SrvP.up (w':=w9) SP) hk) ?_
  rintro _ d1 ⟨b9,h8⟩
  rw [hu] at b9
  have b9:Own w9.heap.size 222 d1 _ (sts g C.q k0 i):=b9
  have H:=b9.shape
  obtain⟨sa,sc,rfl⟩:=H
  refine⟨h8.e,?_⟩
  have Fu:=S.fz.at (w':=d1)
  have hV:=(g0.at (w':=d1))
  have D:=zEV (W:=c.workers) (xq:=rr.r.q) (S:=sts g C.q k0 i) (M:=mls g C.q k0 i) g7 Fu.rows ⟨hV.1.q.kind,hV.1.q.rad⟩ b9.sl hV.2 (h3.up (w':=d1)) hW (zF0 i) (λx hx=>⟨(d0 hx).1,(d0 hx).2.1⟩) (λx hx=>⟨(j7 hx).1,(j7 hx).2.1⟩) (by have:=g9 i;omega) (j8 i)
  rw [k1] at D
  refine rcall D ?_
  rintro _ V ⟨⟨v1,v2,rfl,c0,c1⟩,h9⟩
  dsimp only at c0 c1
  refine⟨h9.e,?_⟩
  have H:=c0.shape
  obtain⟨i0,i1,rfl⟩:=H
  have H:=c1.shape
  obtain⟨d2,d3,rfl⟩:=H
  refine iF (· rfl) ?_
  have z9:=Le.size (a:=w) (b:=w9)
  have o3:=h8.e.size
  have o4:=h9.e.size
  have ly:=(Y8.mv (w:=w9)).lt
  have lq:=(Y1.mv (w:=w9)).lt
  have lx:=(X8.mv (w:=w9)).lt
  have lJ:=(e4.mv (w:=w9)).lt
  refine rcall (zDY (S.up (w':=V)) (Nat.le_trans hB (Le.size (a:=w) (b:=V))) hu c0 (λi hi=>by have:=b7 i hi;omega)) ?_
  rintro _ t ⟨⟨b,Ls,X,rfl,Y,k4,k5,i2,i3⟩,d6⟩
  have a2:Fr R V t:=d6.mono λi _ ⟨k,hk,h⟩=>(S.rw k hk i h).1
  have k6:Fr (mutS bs K.bj c.workers RW) w t:=(Fr.fr (Le.e (a:=w) (b:=V))).trans (d6.mono λi _ h=>zBJ h)
  have a7:∀{b:Nat},w.heap.size<=b->¬R b:=λ{b} hb h=>by have:=b7 b h;omega
  have i4:=(Y8.mv (w:=V)).fr a2 (a7 h7)
  have i5:=(Y1.mv (w:=V)).fr a2 (a7 j9)
  have k7:=(X8.mv (w:=V)).fr a2 (a7 h5)
  have d7:=(e4.mv (w:=V)).fr a2 (a7 e1)
  have k8:=c0.fr a2 λb hb _=>a7 (by omega)
  have i6:=c1.fr a2 λb hb _=>a7 (by omega)
  have o5:=a2.size
  have d8:Fr R w t:=(Fr.fr (Le.e (a:=w) (b:=V))).trans a2
  have O:overS g c (s.held.set k0 (some (C,i+1))) = !b:=k5
  cases b with
  |false =>
   have H:=zI9 hu O
   obtain⟨q1,q2⟩:=H
   refine rsto (B:=i4) (vs:=[.int .i64 250]) rfl rfl rfl (zAa _) λZ e5 i7 _=>?_
   have e5:Bk Z a6 (enc (zRp rr.r.id 250)) 67:=e5
   have k9:=i5.fr i7 (by omega)
   refine rldG (ds:=enc (zRp rr.r.id 250)) (B:=e5) rfl (Enc.len _) ?_
   refine rsto (B:=k9) (vs:=enc (zRp rr.r.id 250)) rfl rfl rfl (Enc.one _) λl b4 Q _=>?_
   have b4:Bk l b6 (enc (zRp rr.r.id 250)) 67:=b4
   refine rresG (B:=b4) rfl ?_
   have p:Fr (λi=>w.heap.size<=i/\i<w9.heap.size) t l:=(i7.mono λi _ hi=>by omega).trans (Q.mono λi _ hi=>by omega)
   have c2:Fr R w l:=d8.join p (λ_ _ h=>h) λi hi h=>by omega
   have l0:=p.size
   have l1:=(Y.away p (λi hi h=>by rcases h with h|h;exact a7 hi.1 h;omega)).wide (R':=gR R w l) (λi hi=>hi.imp id λh=>by omega) λi hi=>by
    have:=(SrvX.reg SP).1
    rcases hi with hi|hi
    ·have:=this i hi;omega
    ·omega
   exact⟨⟨zRp rr.r.id 250,true,rfl,.inl ⟨rfl,_,Ls,K,wt,hd,lw,lh,lj,X,q1,b8.id,rfl,rfl,rfl,(λu _=>SlF.nil u),l1.loose k0,i2,q2⟩⟩,c2⟩
  |true =>
   have l2:=i3 rfl
   subst l2
   have d9:=(SrvX.reg SP).1
   have l3:∀i,mutS bs K.bj c.workers X i->mutS bs K.bj c.workers RW i\/V.heap.size<=i:=λi h=>by
    rcases h with h|h|⟨k,hk,h⟩
    ·exact .inl (.inl h)
    ·exact .inl (.inr (.inl h))
    ·exact(k4 k hk i h).imp (λh1=>.inr (.inr ⟨k,hk,h1⟩)) id
   have Y:=Y.wide (R':=gR R w9 t) (λi hi=>hi.imp id λh=>by omega) λi hi=>by
    rcases hi with hi|hi
    ·have:=d9 i hi;omega
    ·omega
   have F2:=Y.fz.here
   have n6:k0<lj.length:=by rw [F2.ljn];exact hk
   have l4:lh.length<=64:=by rw [F2.lhn];omega
   have c4:∀{b:Nat},w.heap.size<=b->¬b=K.bj:=λ{b} h1 h=>by omega
   have H:∃nj:RJob,nj=⟨⟨d2,(mls g C.q k0 (i+1)).length,d3⟩,((i+1:Nat):Int)⟩:=⟨_,rfl⟩
   obtain⟨nj,e6⟩:=H
   refine drawR TBok mixed (λi=>i=K.bj) [0,1,2,3,4,5,6,7,8,9,10,11] (by kernel_rfl) λZ o6 _=>?_
   refine tld (B:=Y.cell) rfl (λh=>Y.ne h) ?_
   refine tld (B:=d7) rfl (c4 e1) ?_
   refine rarE (y:=((i+1:Nat):Int)) (by rw [a0];push_cast;rfl) (by omega) ?_
   refine tbuild (cs:=enc nj) (by rw [e6];rfl) ?_
   have i8:=Y.jobs.up (w':=Z)
   refine tixO rfl i8 (x:=lj[k0]) (by simp) λgj hgj _ _=>?_
   refine rstO' rfl nj i8 hgj g6 rfl λl i9 Q _=>?_
   have Q:Fr (λi=>i=K.bj) Z l:=Q.mono λi _ hi=>bjD hi
   refine⟨Q,?_⟩
   have j0:=(i4.mv (w:=Z)).fr Q (c4 h7)
   have b4:=(i5.mv (w:=Z)).fr Q (c4 j9)
   have l5:=(k7.mv (w:=Z)).fr Q (c4 h5)
   have e0:=(d7.mv (w:=Z)).fr Q (c4 e1)
   have c5:=(Y.cell.mv (w:=Z)).fr Q Y.ne
   have p:Fr (λi=>i=K.bj) t l:=(Fr.fr (Le.e (a:=t) (b:=Z))).trans Q
   have a8:Fr (mutS bs K.bj c.workers X) t l:=p.mono λi _ h=>.inr (.inl h)
   have l6:SlF l (.slice i0 (sts g C.q k0 (i+1)).length i1) (sts g C.q k0 (i+1)):=by
    by_cases hl:sts g C.q k0 (i+1)=[]
    ·rw [hl];exact SlF.nil' _ _ _
    ·have H:=c0.lt hl
     obtain⟨gq,g1,g2,g3⟩:=H
     exact k8.sl.fr p λb hb h=>by rw [g1] at hb;cases hb;omega
   have l7:SlF l (.slice d2 (mls g C.q k0 (i+1)).length d3) (mls g C.q k0 (i+1)):=by
    by_cases hl:mls g C.q k0 (i+1)=[]
    ·rw [hl];exact SlF.nil' _ _ _
    ·have H:=c1.lt hl
     obtain⟨gq,g1,g2,g3⟩:=H
     exact i6.sl.fr p λb hb h=>by rw [g1] at hb;cases hb;omega
   have j1:=Y.st.away p λk hk i hi h=>(Y.rw k hk i hi).2.2 h
   have j2:=Y.fz l (a8.mono λi _ h=>.inl h)
   have j3:RqV l rr.r C:=(g0 l ((k6.trans (p.mono λi _ h=>.inr (.inl h))).mono λi _ h=>.inl h)).1
   have l0:=p.size
   have n8:=F2.words.len
   have j4:B<=t.heap.size:=by omega
   have wide:∀{u:World},l.heap.size<=u.heap.size->(∀i,gR (gR R w9 t) t l i->gR R w u i)/\∀i,gR R w u i->B<=i/\i<u.heap.size:=λ{u} hz=>by
    refine⟨λi hi=>?_,λi hi=>?_⟩
    ·rcases hi with (hi|hi)|hi
     ·exact .inl hi
     ·exact .inr (by omega)
     ·exact .inr (by omega)
    ·rcases hi with hi|hi
     ·have:=d9 i hi;omega
     ·omega
   have apart:∀i,(w.heap.size<=i/\i<w9.heap.size)\/l.heap.size<=i->¬gR (gR R w9 t) t l i:=λi h hi=>by
    rcases hi with (hi|hi)|hi
    ·have:=b7 i hi;omega
    ·omega
    ·omega
   have c2:Fr R w l:=d8.trans (p.mono λi _ h=>h ▸ S.rj)
   have mF:∀{u:World},Fr (λi=>(w.heap.size<=i/\i<w9.heap.size)\/l.heap.size<=i) l u->Fr R w u:=λ{u} f=>c2.join f (λ_ _ h=>h) λi hi h=>by omega
   have mZ:∀{u:World},Fr (λi=>(w.heap.size<=i/\i<w9.heap.size)\/l.heap.size<=i) l u->SrvR k0 (gR R w u) B u bs g c s (wkS g c.workers (aftS s.held k0 C i)) K wt hd lw lh (lj.set k0 nj) X:=λ{u} f =>
    ((Y.fin (w1:=t) (w':=l) (kx':=k0) (s':=s) (Ls':=wkS g c.workers (aftS s.held k0 C i)) (Nat.le_refl _) a8 j4 c5 i9 j1 (.refl _) Y.so
     ((Y.fz1 (w':=t)).imp λu N=>⟨N.rows,N.pos,N.words,N.wk,N.fw,N.fh,N.lwn,N.waits,N.lhn,by simp [N.ljn],zGl l4 N.helds⟩)).away f apart).wide (wide f.size).1 (wide f.size).2
   have Zm:Fz (mutS bs K.bj c.workers X) (gR (gR R w9 t) t t) t λu=>SlF u (.slice d2 (mls g C.q k0 (i+1)).length d3) (mls g C.q k0 (i+1)):=
    c1.fzB i6.sl λi h1 h2=>⟨.inl (.inr (by omega)),λh=>by
     have H:=l3 i h
     rcases H with h4|h4
     ·have:=b7 i (S.mut h4);omega
     ·omega⟩
   have mP:∀{u:World},Fr (λi=>(w.heap.size<=i/\i<w9.heap.size)\/l.heap.size<=i) l u->SvOk g c ⟨s.wait,aftS s.held k0 C i⟩->SrvP (gR R w u) B u bs g c ⟨s.wait,aftS s.held k0 C i⟩:=λ{u} f b5 =>
    ⟨K,wt,hd,lw,lh,lj.set k0 nj,X,((Y.fin (w1:=t) (w':=l) (kx':=1000) (s':=⟨s.wait,aftS s.held k0 C i⟩) (Ls':=wkS g c.workers (aftS s.held k0 C i)) (Nat.le_refl _) a8 j4 c5 i9 j1 (.refl _) b5
     (((Y.fz1 (w':=t)).and Zm).imp λu ⟨N,Sm⟩=>⟨N.rows,N.pos,N.words,N.wk,N.fw,N.fh,N.lwn,N.waits,by simp [N.lhn],by simp [N.ljn],zIL hk hu N.helds ⟨by rw [e6];exact Sm,by rw [e6]⟩⟩)).away f apart).wide (wide f.size).1 (wide f.size).2⟩
   clear wide Zm
   have b5:=(zIs k0 S.so).1
   have H:∃an,an=(doneL g C.q (sts g C.q k0 (i+1)) (mls g C.q k0 (i+1))).1:=⟨_,rfl⟩
   obtain⟨an,e7⟩:=H
   have H:∃dn,dn=(doneL g C.q (sts g C.q k0 (i+1)) (mls g C.q k0 (i+1))).2:=⟨_,rfl⟩
   obtain⟨dn,hdn⟩:=H
   have DD:∀{u:World},Le l u->Sp PP 112 #[agg rr.r.q,.slice K.ws.a K.ws.n K.ws.c,.slice i0 (sts g C.q k0 (i+1)).length i1,.slice d2 (mls g C.q k0 (i+1)).length d3] u λv w'=>(∃v1,v=.tuple #[v1,.bool dn]/\AnsO u.heap.size w' v1 an)/\Stp u w':=λ{u} L=>by
    have D:=zFr (j3.q.up (w':=u)) g4.q.ok g7 (j2.words.up (w':=u)) (j2.pos.up (w':=u)) (by omega) (l6.up (w':=u)) (by have:=g9 (i+1);omega) (λx hx=>by have:=d0 hx;omega) (l7.up (w':=u)) (by have:=j8 (i+1);omega)
    rw [<-e7,<-hdn] at D
    exact D
   have o7:bs<l.heap.size:=by omega
   have o8:bx<l.heap.size:=by omega
   have o9:bJ<l.heap.size:=by omega
   refine drawRT TBok mixed (λi=>l.heap.size<=i) (.one 0 (.one 1 (.one 2 (.one 3 (.one 4 (.one 5 (.one 6 (.one 7 (.two 8 (.one 9 (.one 10 (.one 11 (.one 12 (.one 13 (.one 14 .nil)))))) 12 (.one 8 (.one 9 (.one 10 (.one 11 (.one 13 (.one 14 .nil))))))))))))))) (by kernel_rfl) λj5 p0 _=>?_
   refine tldG (ds:=enc rr.r.q) (B:=l5) rfl (Enc.len _) (by omega) ?_
   refine tld (B:=c5) rfl (by omega) ?_
   refine⟨?_,?_⟩
   ·refine rcall (DD (u:=j5) inferInstance) ?_
    rintro _ e8 ⟨⟨v1,rfl,ax,rfl,f0,f1,OA⟩,l8⟩
    refine⟨Fr.fr l8.e,?_⟩
    refine ral λba d4 f2 j6=>⟨Fr.fr f2.e,?_⟩
    have l9:=f2.lo (u:=l)
    refine rsto (B:=j6) (vs:=enc ax) rfl rfl rfl (Enc.one _) λG a9 b0 _=>?_
    have a9:Bk G ba (enc ax) 65:=a9
    refine⟨b0.mono λi _ h=>by omega,?_⟩
    have m0:Stp l G:=⟨Fr.st (Le.e (a:=l) (b:=d4)) b0 λi h=>by omega⟩
    have n9:=f2.b
    have c6:=((OA.up (w':=d4)).frc b0 j6 (by decide)).mono (B':=l.heap.size) (Le.size (a:=l) (b:=j5))
    have c7:=j0.mv (w:=G)
    have c8:=b4.mv (w:=G)
    have m1:=Le.size (a:=l) (b:=G)
    have a4:Fr (λi=>(w.heap.size<=i/\i<w9.heap.size)\/l.heap.size<=i) l G:=Fr.fr (Le.e (a:=l) (b:=G))
    cases dn with
    |true =>
     have H:=zCt hu O hdn.symm
     obtain⟨q1,q2⟩:=H
     rw [<-e7] at q1
     refine rldG (ds:=enc ax) (B:=a9) rfl (Enc.len _) ?_
     refine rsto (B:=c7) (vs:=enc ax) rfl rfl rfl (Enc.one _) λT J b1 _=>?_
     have J:Bk T a6 (enc (⟨rr.r.id,0,ax⟩:RepD)) 67:=J
     have a1:=c8.fr b1 (by omega)
     refine rldG (ds:=enc (⟨rr.r.id,0,ax⟩:RepD)) (B:=J) rfl (Enc.len _) ?_
     refine rsto (B:=a1) (vs:=enc (⟨rr.r.id,0,ax⟩:RepD)) rfl rfl rfl (Enc.one _) λU z I _=>?_
     have z:Bk U b6 (enc (⟨rr.r.id,0,ax⟩:RepD)) 67:=z
     refine rresG (B:=z) rfl ?_
     have fl:=(a4.trans (b1.mono λi _ h=>.inl (by omega))).trans (I.mono λi _ h=>.inl (by omega))
     have c9:=((c6.fr b1 λb hb _ h=>by omega).fr I λb hb _ h=>by omega)
     have SZ:=mZ fl
     exact⟨⟨⟨rr.r.id,0,ax⟩,true,rfl,.inl ⟨rfl,_,_,K,wt,hd,lw,lh,_,X,q1,b8.id,rfl,f0,f1,c9.fz (λi h1 h2=>⟨.inr ⟨by omega,h2⟩,λh=>by have:=(Y.reg i (Y.mut h)).2;omega⟩),SZ,zBh hk,q2⟩⟩,mF fl⟩
    |false =>
     refine drawR TBok mixed (λ_=>False) (upF 10 0) (by kernel_rfl) λT m2 _=>?_
     refine tld (B:=e0) rfl nf ?_
     refine rarE (y:=((i+1:Nat):Int)) (by rw [a0];push_cast;rfl) (by omega) ?_
     refine tld (B:=c5) rfl nf ?_
     have J:=c7.mv (w:=T)
     have a1:=c8.mv (w:=T)
     have a5:=a4.trans (Fr.fr (Le.e (a:=G) (b:=T)))
     refine ite (λf3=>?_) (λf3=>?_)
     ·have H:=zEC hu O hdn.symm (by omega)
      obtain⟨q1,q2⟩:=H
      refine rsto (B:=J) (vs:=[.int .i64 251]) rfl rfl rfl (zAa _) λU b2 I _=>?_
      have b2:Bk U a6 (enc (zRp rr.r.id 251)) 67:=b2
      have z:=a1.fr I (by omega)
      refine rldG (ds:=enc (zRp rr.r.id 251)) (B:=b2) rfl (Enc.len _) ?_
      refine rsto (B:=z) (vs:=enc (zRp rr.r.id 251)) rfl rfl rfl (Enc.one _) λf4 b3 f7 _=>?_
      have b3:Bk f4 b6 (enc (zRp rr.r.id 251)) 67:=b3
      refine rresG (B:=b3) rfl ?_
      have fl:=(a5.trans (I.mono λi _ h=>.inl (by omega))).trans (f7.mono λi _ h=>.inl (by omega))
      exact⟨⟨zRp rr.r.id 251,true,rfl,.inl ⟨rfl,_,_,K,wt,hd,lw,lh,_,X,q1,b8.id,rfl,rfl,rfl,(λu _=>SlF.nil u),mZ fl,zBh hk,q2⟩⟩,mF fl⟩
     ·have H:=zD0 hu O hdn.symm (by omega)
      obtain⟨q1,q2⟩:=H
      refine rldG (ds:=enc (zRp rr.r.id 0)) (B:=J) rfl (Enc.len _) ?_
      refine rsto (B:=a1) (vs:=enc (zRp rr.r.id 0)) rfl rfl rfl (Enc.one _) λU z I _=>?_
      have z:Bk U b6 (enc (zRp rr.r.id 0)) 67:=z
      refine rresG (B:=z) rfl ?_
      have fl:=a5.trans (I.mono λi _ h=>.inl (by omega))
      rw [q2] at b5
      have q3:=mP fl b5
      rw [show aftS s.held k0 C i=(stepS g c s.held k0).1 from q2.symm] at q3
      exact⟨⟨zRp rr.r.id 0,false,rfl,.inr ⟨rfl,q1,q3⟩⟩,mF fl⟩
   ·refine ral λba e8 f9 m3=>⟨Fr.fr f9.e,?_⟩
    have l9:=f9.lo (u:=l)
    refine rcall (DD (u:=e8) inferInstance) ?_
    rintro _ d4 ⟨⟨v1,rfl,ax,rfl,f0,f1,OA⟩,m4⟩
    refine⟨Fr.fr m4.e,?_⟩
    refine rsto (B:=m3) (vs:=enc ax) rfl rfl rfl (Enc.one _) λG a9 b0 _=>?_
    have a9:Bk G ba (enc ax) 65:=a9
    refine⟨b0.mono λi _ h=>by omega,?_⟩
    have m0:Stp l G:=⟨Fr.st (Le.e (a:=l) (b:=d4)) b0 λi h=>by omega⟩
    have o0:=f9.lt
    have c6:=(OA.fr b0 λb hb _ h=>by omega).mono (B':=l.heap.size) (Le.size (a:=l) (b:=e8))
    have c7:=j0.mv (w:=G)
    have c8:=b4.mv (w:=G)
    have m1:=Le.size (a:=l) (b:=G)
    have a4:Fr (λi=>(w.heap.size<=i/\i<w9.heap.size)\/l.heap.size<=i) l G:=Fr.fr (Le.e (a:=l) (b:=G))
    cases dn with
    |true =>
     have H:=zCt hu O hdn.symm
     obtain⟨q1,q2⟩:=H
     rw [<-e7] at q1
     refine rldG (ds:=enc ax) (B:=a9) rfl (Enc.len _) ?_
     refine rsto (B:=c7) (vs:=enc ax) rfl rfl rfl (Enc.one _) λT J b1 _=>?_
     have J:Bk T a6 (enc (⟨rr.r.id,0,ax⟩:RepD)) 67:=J
     have a1:=c8.fr b1 (by omega)
     refine rldG (ds:=enc (⟨rr.r.id,0,ax⟩:RepD)) (B:=J) rfl (Enc.len _) ?_
     refine rsto (B:=a1) (vs:=enc (⟨rr.r.id,0,ax⟩:RepD)) rfl rfl rfl (Enc.one _) λU z I _=>?_
     have z:Bk U b6 (enc (⟨rr.r.id,0,ax⟩:RepD)) 67:=z
     refine rresG (B:=z) rfl ?_
     have fl:=(a4.trans (b1.mono λi _ h=>.inl (by omega))).trans (I.mono λi _ h=>.inl (by omega))
     have c9:=((c6.fr b1 λb hb _ h=>by omega).fr I λb hb _ h=>by omega)
     have SZ:=mZ fl
     exact⟨⟨⟨rr.r.id,0,ax⟩,true,rfl,.inl ⟨rfl,_,_,K,wt,hd,lw,lh,_,X,q1,b8.id,rfl,f0,f1,c9.fz (λi h1 h2=>⟨.inr ⟨by omega,h2⟩,λh=>by have:=(Y.reg i (Y.mut h)).2;omega⟩),SZ,zBh hk,q2⟩⟩,mF fl⟩
    |false =>
     refine drawR TBok mixed (λ_=>False) (upF 10 0) (by kernel_rfl) λT m2 _=>?_
     refine tld (B:=e0) rfl nf ?_
     refine rarE (y:=((i+1:Nat):Int)) (by rw [a0];push_cast;rfl) (by omega) ?_
     refine tld (B:=c5) rfl nf ?_
     have J:=c7.mv (w:=T)
     have a1:=c8.mv (w:=T)
     have a5:=a4.trans (Fr.fr (Le.e (a:=G) (b:=T)))
     refine ite (λf3=>?_) (λf3=>?_)
     ·have H:=zEC hu O hdn.symm (by omega)
      obtain⟨q1,q2⟩:=H
      refine rsto (B:=J) (vs:=[.int .i64 251]) rfl rfl rfl (zAa _) λU b2 I _=>?_
      have b2:Bk U a6 (enc (zRp rr.r.id 251)) 67:=b2
      have z:=a1.fr I (by omega)
      refine rldG (ds:=enc (zRp rr.r.id 251)) (B:=b2) rfl (Enc.len _) ?_
      refine rsto (B:=z) (vs:=enc (zRp rr.r.id 251)) rfl rfl rfl (Enc.one _) λf4 b3 f7 _=>?_
      have b3:Bk f4 b6 (enc (zRp rr.r.id 251)) 67:=b3
      refine rresG (B:=b3) rfl ?_
      have fl:=(a5.trans (I.mono λi _ h=>.inl (by omega))).trans (f7.mono λi _ h=>.inl (by omega))
      exact⟨⟨zRp rr.r.id 251,true,rfl,.inl ⟨rfl,_,_,K,wt,hd,lw,lh,_,X,q1,b8.id,rfl,rfl,rfl,(λu _=>SlF.nil u),mZ fl,zBh hk,q2⟩⟩,mF fl⟩
     ·have H:=zD0 hu O hdn.symm (by omega)
      obtain⟨q1,q2⟩:=H
      refine rldG (ds:=enc (zRp rr.r.id 0)) (B:=J) rfl (Enc.len _) ?_
      refine rsto (B:=a1) (vs:=enc (zRp rr.r.id 0)) rfl rfl rfl (Enc.one _) λU z I _=>?_
      have z:Bk U b6 (enc (zRp rr.r.id 0)) 67:=z
      refine rresG (B:=z) rfl ?_
      have fl:=a5.trans (I.mono λi _ h=>.inl (by omega))
      rw [q2] at b5
      have q3:=mP fl b5
      rw [show aftS s.held k0 C i=(stepS g c s.held k0).1 from q2.symm] at q3
      exact⟨⟨zRp rr.r.id 0,false,rfl,.inr ⟨rfl,q1,q3⟩⟩,mF fl⟩
 ·refine ral λbJ w3 n3 p1=>⟨Fr.fr n3.e,?_⟩
  refine ral λbx w4 n4 X4=>⟨Fr.fr n4.e,?_⟩
  have h5:=n4.lo (u:=w)
  have e1:=n3.lo (u:=w)
  have m9:=n4.lo (u:=w1)
  have n0:=n3.lo (u:=w1)
  have d5:¬bJ=bx:=by have:=n4.b;have:=n3.lt;omega
  have h0:=p1.mv (w:=w4)
  refine rsto (B:=X4) (vs:=enc rr.r) rfl rfl rfl (Enc.one _) λw5 X5 f5 _=>?_
  have X5:Bk w5 bx (enc rr.r) 55:=X5
  have s5:Stp w1 w5:=⟨Fr.st (Le.e (a:=w1) (b:=w4)) f5 λi hi=>by omega⟩
  have h6:=h0.fr f5 d5
  refine⟨f5.mono λi _ hi=>by omega,?_⟩
  refine rsto (B:=h6) (vs:=enc jj) rfl rfl rfl (Enc.one _) λw6 e3 f6 _=>?_
  have e3:Bk w6 bJ (enc jj) 188:=e3
  have s6:Stp w1 w6:=⟨Fr.st s5.e f6 λi hi=>by omega⟩
  have X6:=X5.fr f6 (λh=>d5 h.symm)
  refine⟨f6.mono λi _ hi=>by omega,?_⟩
  clear X4 h0 X5 h6
  refine rld (B:=X6) rfl ?_
  refine rbuild (cs:=enc (zRp rr.r.id 0)) rfl ?_
  refine ral λa6 w7 n7 Y7=>?_
  have h7:=n7.lo (u:=w)
  have n5:b6<a6:=by have:=n7.b;have:=Le.size (a:=w1) (b:=w6);omega
  refine rsto (B:=Y7) (vs:=enc (zRp rr.r.id 0)) rfl rfl rfl (Enc.one _) λw8 Y8 f8 _=>?_
  have Y8:Bk w8 a6 (enc (zRp rr.r.id 0)) 67:=Y8
  have s8:Stp w6 w8:=⟨Fr.st (Le.e (a:=w6) (b:=w7)) f8 λi hi=>by have:=n7.b;omega⟩
  clear Y7 f8
  have X8:=X6.mv (w:=w8)
  have e4:=e3.mv (w:=w8)
  refine drawR TBok mixed (λ_=>False) [0,1,2,3,4,5,6,7,9,10,11,12,13,14,15,16,8,17,18,19,20,21,22,23,24] (by kernel_rfl) λw9 e9 _=>?_
  refine tldG (ds:=enc rr.r.q) (B:=X8) rfl (Enc.len _) nf ?_
  refine tldG (ds:=enc K.xr) (B:=S.cell) rfl (Enc.len _) nf ?_
  refine tld (B:=e4) rfl nf (tld (B:=S.cell) rfl nf ?_)
  refine rcall (zC7 (SrvP.up (w':=w9) SP) hk) ?_
  rintro _ d1 ⟨b9,h8⟩
  rw [hu] at b9
  have b9:Own w9.heap.size 222 d1 _ (sts g C.q k0 i):=b9
  have H:=b9.shape
  obtain⟨sa,sc,rfl⟩:=H
  refine⟨h8.e,?_⟩
  have Fu:=S.fz.at (w':=d1)
  have hV:=(g0.at (w':=d1))
  have D:=zEV (W:=c.workers) (xq:=rr.r.q) (S:=sts g C.q k0 i) (M:=mls g C.q k0 i) g7 Fu.rows ⟨hV.1.q.kind,hV.1.q.rad⟩ b9.sl hV.2 (h3.up (w':=d1)) hW (zF0 i) (λx hx=>⟨(d0 hx).1,(d0 hx).2.1⟩) (λx hx=>⟨(j7 hx).1,(j7 hx).2.1⟩) (by have:=g9 i;omega) (j8 i)
  rw [k1] at D
  refine rcall D ?_
  rintro _ V ⟨⟨v1,v2,rfl,c0,c1⟩,h9⟩
  dsimp only at c0 c1
  refine⟨h9.e,?_⟩
  have H:=c0.shape
  obtain⟨i0,i1,rfl⟩:=H
  have H:=c1.shape
  obtain⟨d2,d3,rfl⟩:=H
  refine iF (· rfl) ?_
  have z9:=Le.size (a:=w) (b:=w9)
  have o3:=h8.e.size
  have o4:=h9.e.size
  have ly:=(Y8.mv (w:=w9)).lt
  have lq:=(Y1.mv (w:=w9)).lt
  have lx:=(X8.mv (w:=w9)).lt
  have lJ:=(e4.mv (w:=w9)).lt
  refine rcall (zDY (S.up (w':=V)) (Nat.le_trans hB (Le.size (a:=w) (b:=V))) hu c0 (λi hi=>by have:=b7 i hi;omega)) ?_
  rintro _ t ⟨⟨b,Ls,X,rfl,Y,k4,k5,i2,i3⟩,d6⟩
  have a2:Fr R V t:=d6.mono λi _ ⟨k,hk,h⟩=>(S.rw k hk i h).1
  have k6:Fr (mutS bs K.bj c.workers RW) w t:=(Fr.fr (Le.e (a:=w) (b:=V))).trans (d6.mono λi _ h=>zBJ h)
  have a7:∀{b:Nat},w.heap.size<=b->¬R b:=λ{b} hb h=>by have:=b7 b h;omega
  have i4:=(Y8.mv (w:=V)).fr a2 (a7 h7)
  have i5:=(Y1.mv (w:=V)).fr a2 (a7 j9)
  have k7:=(X8.mv (w:=V)).fr a2 (a7 h5)
  have d7:=(e4.mv (w:=V)).fr a2 (a7 e1)
  have k8:=c0.fr a2 λb hb _=>a7 (by omega)
  have i6:=c1.fr a2 λb hb _=>a7 (by omega)
  have o5:=a2.size
  have d8:Fr R w t:=(Fr.fr (Le.e (a:=w) (b:=V))).trans a2
  have O:overS g c (s.held.set k0 (some (C,i+1))) = !b:=k5
  cases b with
  |false =>
   have H:=zI9 hu O
   obtain⟨q1,q2⟩:=H
   refine rsto (B:=i4) (vs:=[.int .i64 250]) rfl rfl rfl (zAa _) λZ e5 i7 _=>?_
   have e5:Bk Z a6 (enc (zRp rr.r.id 250)) 67:=e5
   have k9:=i5.fr i7 (by omega)
   refine rldG (ds:=enc (zRp rr.r.id 250)) (B:=e5) rfl (Enc.len _) ?_
   refine rsto (B:=k9) (vs:=enc (zRp rr.r.id 250)) rfl rfl rfl (Enc.one _) λl b4 Q _=>?_
   have b4:Bk l b6 (enc (zRp rr.r.id 250)) 67:=b4
   refine rresG (B:=b4) rfl ?_
   have p:Fr (λi=>w.heap.size<=i/\i<w9.heap.size) t l:=(i7.mono λi _ hi=>by omega).trans (Q.mono λi _ hi=>by omega)
   have c2:Fr R w l:=d8.join p (λ_ _ h=>h) λi hi h=>by omega
   have l0:=p.size
   have l1:=(Y.away p (λi hi h=>by rcases h with h|h;exact a7 hi.1 h;omega)).wide (R':=gR R w l) (λi hi=>hi.imp id λh=>by omega) λi hi=>by
    have:=(SrvX.reg SP).1
    rcases hi with hi|hi
    ·have:=this i hi;omega
    ·omega
   exact⟨⟨zRp rr.r.id 250,true,rfl,.inl ⟨rfl,_,Ls,K,wt,hd,lw,lh,lj,X,q1,b8.id,rfl,rfl,rfl,(λu _=>SlF.nil u),l1.loose k0,i2,q2⟩⟩,c2⟩
  |true =>
   have l2:=i3 rfl
   subst l2
   have d9:=(SrvX.reg SP).1
   have l3:∀i,mutS bs K.bj c.workers X i->mutS bs K.bj c.workers RW i\/V.heap.size<=i:=λi h=>by
    rcases h with h|h|⟨k,hk,h⟩
    ·exact .inl (.inl h)
    ·exact .inl (.inr (.inl h))
    ·exact(k4 k hk i h).imp (λh1=>.inr (.inr ⟨k,hk,h1⟩)) id
   have Y:=Y.wide (R':=gR R w9 t) (λi hi=>hi.imp id λh=>by omega) λi hi=>by
    rcases hi with hi|hi
    ·have:=d9 i hi;omega
    ·omega
   have F2:=Y.fz.here
   have n6:k0<lj.length:=by rw [F2.ljn];exact hk
   have l4:lh.length<=64:=by rw [F2.lhn];omega
   have c4:∀{b:Nat},w.heap.size<=b->¬b=K.bj:=λ{b} h1 h=>by omega
   have H:∃nj:RJob,nj=⟨⟨d2,(mls g C.q k0 (i+1)).length,d3⟩,((i+1:Nat):Int)⟩:=⟨_,rfl⟩
   obtain⟨nj,e6⟩:=H
   refine drawR TBok mixed (λi=>i=K.bj) [0,1,2,3,4,5,6,7,8,9,10,11] (by kernel_rfl) λZ o6 _=>?_
   refine tld (B:=Y.cell) rfl (λh=>Y.ne h) ?_
   refine tld (B:=d7) rfl (c4 e1) ?_
   refine rarE (y:=((i+1:Nat):Int)) (by rw [a0];push_cast;rfl) (by omega) ?_
   refine tbuild (cs:=enc nj) (by rw [e6];rfl) ?_
   have i8:=Y.jobs.up (w':=Z)
   refine tixO rfl i8 (x:=lj[k0]) (by simp) λgj hgj _ _=>?_
   refine rstO' rfl nj i8 hgj g6 rfl λl i9 Q _=>?_
   have Q:Fr (λi=>i=K.bj) Z l:=Q.mono λi _ hi=>bjD hi
   refine⟨Q,?_⟩
   have j0:=(i4.mv (w:=Z)).fr Q (c4 h7)
   have b4:=(i5.mv (w:=Z)).fr Q (c4 j9)
   have l5:=(k7.mv (w:=Z)).fr Q (c4 h5)
   have e0:=(d7.mv (w:=Z)).fr Q (c4 e1)
   have c5:=(Y.cell.mv (w:=Z)).fr Q Y.ne
   have p:Fr (λi=>i=K.bj) t l:=(Fr.fr (Le.e (a:=t) (b:=Z))).trans Q
   have a8:Fr (mutS bs K.bj c.workers X) t l:=p.mono λi _ h=>.inr (.inl h)
   have l6:SlF l (.slice i0 (sts g C.q k0 (i+1)).length i1) (sts g C.q k0 (i+1)):=by
    by_cases hl:sts g C.q k0 (i+1)=[]
    ·rw [hl];exact SlF.nil' _ _ _
    ·have H:=c0.lt hl
     obtain⟨gq,g1,g2,g3⟩:=H
     exact k8.sl.fr p λb hb h=>by rw [g1] at hb;cases hb;omega
   have l7:SlF l (.slice d2 (mls g C.q k0 (i+1)).length d3) (mls g C.q k0 (i+1)):=by
    by_cases hl:mls g C.q k0 (i+1)=[]
    ·rw [hl];exact SlF.nil' _ _ _
    ·have H:=c1.lt hl
     obtain⟨gq,g1,g2,g3⟩:=H
     exact i6.sl.fr p λb hb h=>by rw [g1] at hb;cases hb;omega
   have j1:=Y.st.away p λk hk i hi h=>(Y.rw k hk i hi).2.2 h
   have j2:=Y.fz l (a8.mono λi _ h=>.inl h)
   have j3:RqV l rr.r C:=(g0 l ((k6.trans (p.mono λi _ h=>.inr (.inl h))).mono λi _ h=>.inl h)).1
   have l0:=p.size
   have n8:=F2.words.len
   have j4:B<=t.heap.size:=by omega
   have wide:∀{u:World},l.heap.size<=u.heap.size->(∀i,gR (gR R w9 t) t l i->gR R w u i)/\∀i,gR R w u i->B<=i/\i<u.heap.size:=λ{u} hz=>by
    refine⟨λi hi=>?_,λi hi=>?_⟩
    ·rcases hi with (hi|hi)|hi
     ·exact .inl hi
     ·exact .inr (by omega)
     ·exact .inr (by omega)
    ·rcases hi with hi|hi
     ·have:=d9 i hi;omega
     ·omega
   have apart:∀i,(w.heap.size<=i/\i<w9.heap.size)\/l.heap.size<=i->¬gR (gR R w9 t) t l i:=λi h hi=>by
    rcases hi with (hi|hi)|hi
    ·have:=b7 i hi;omega
    ·omega
    ·omega
   have c2:Fr R w l:=d8.trans (p.mono λi _ h=>h ▸ S.rj)
   have mF:∀{u:World},Fr (λi=>(w.heap.size<=i/\i<w9.heap.size)\/l.heap.size<=i) l u->Fr R w u:=λ{u} f=>c2.join f (λ_ _ h=>h) λi hi h=>by omega
   have mZ:∀{u:World},Fr (λi=>(w.heap.size<=i/\i<w9.heap.size)\/l.heap.size<=i) l u->SrvR k0 (gR R w u) B u bs g c s (wkS g c.workers (aftS s.held k0 C i)) K wt hd lw lh (lj.set k0 nj) X:=λ{u} f =>
    ((Y.fin (w1:=t) (w':=l) (kx':=k0) (s':=s) (Ls':=wkS g c.workers (aftS s.held k0 C i)) (Nat.le_refl _) a8 j4 c5 i9 j1 (.refl _) Y.so
     ((Y.fz1 (w':=t)).imp λu N=>⟨N.rows,N.pos,N.words,N.wk,N.fw,N.fh,N.lwn,N.waits,N.lhn,by simp [N.ljn],zGl l4 N.helds⟩)).away f apart).wide (wide f.size).1 (wide f.size).2
   have Zm:Fz (mutS bs K.bj c.workers X) (gR (gR R w9 t) t t) t λu=>SlF u (.slice d2 (mls g C.q k0 (i+1)).length d3) (mls g C.q k0 (i+1)):=
    c1.fzB i6.sl λi h1 h2=>⟨.inl (.inr (by omega)),λh=>by
     have H:=l3 i h
     rcases H with h4|h4
     ·have:=b7 i (S.mut h4);omega
     ·omega⟩
   have mP:∀{u:World},Fr (λi=>(w.heap.size<=i/\i<w9.heap.size)\/l.heap.size<=i) l u->SvOk g c ⟨s.wait,aftS s.held k0 C i⟩->SrvP (gR R w u) B u bs g c ⟨s.wait,aftS s.held k0 C i⟩:=λ{u} f b5 =>
    ⟨K,wt,hd,lw,lh,lj.set k0 nj,X,((Y.fin (w1:=t) (w':=l) (kx':=1000) (s':=⟨s.wait,aftS s.held k0 C i⟩) (Ls':=wkS g c.workers (aftS s.held k0 C i)) (Nat.le_refl _) a8 j4 c5 i9 j1 (.refl _) b5
     (((Y.fz1 (w':=t)).and Zm).imp λu ⟨N,Sm⟩=>⟨N.rows,N.pos,N.words,N.wk,N.fw,N.fh,N.lwn,N.waits,by simp [N.lhn],by simp [N.ljn],zIL hk hu N.helds ⟨by rw [e6];exact Sm,by rw [e6]⟩⟩)).away f apart).wide (wide f.size).1 (wide f.size).2⟩
   clear wide Zm
   have b5:=(zIs k0 S.so).1
   have H:∃an,an=(doneL g C.q (sts g C.q k0 (i+1)) (mls g C.q k0 (i+1))).1:=⟨_,rfl⟩
   obtain⟨an,e7⟩:=H
   have H:∃dn,dn=(doneL g C.q (sts g C.q k0 (i+1)) (mls g C.q k0 (i+1))).2:=⟨_,rfl⟩
   obtain⟨dn,hdn⟩:=H
   have DD:∀{u:World},Le l u->Sp PP 112 #[agg rr.r.q,.slice K.ws.a K.ws.n K.ws.c,.slice i0 (sts g C.q k0 (i+1)).length i1,.slice d2 (mls g C.q k0 (i+1)).length d3] u λv w'=>(∃v1,v=.tuple #[v1,.bool dn]/\AnsO u.heap.size w' v1 an)/\Stp u w':=λ{u} L=>by
    have D:=zFr (j3.q.up (w':=u)) g4.q.ok g7 (j2.words.up (w':=u)) (j2.pos.up (w':=u)) (by omega) (l6.up (w':=u)) (by have:=g9 (i+1);omega) (λx hx=>by have:=d0 hx;omega) (l7.up (w':=u)) (by have:=j8 (i+1);omega)
    rw [<-e7,<-hdn] at D
    exact D
   have o7:bs<l.heap.size:=by omega
   have o8:bx<l.heap.size:=by omega
   have o9:bJ<l.heap.size:=by omega
   refine drawRT TBok mixed (λi=>l.heap.size<=i) (.one 0 (.one 1 (.one 2 (.one 3 (.one 4 (.one 5 (.one 6 (.one 7 (.two 8 (.one 9 (.one 10 (.one 11 (.one 12 (.one 13 (.one 14 .nil)))))) 12 (.one 8 (.one 9 (.one 10 (.one 11 (.one 13 (.one 14 .nil))))))))))))))) (by kernel_rfl) λj5 p0 _=>?_
   refine tldG (ds:=enc rr.r.q) (B:=l5) rfl (Enc.len _) (by omega) ?_
   refine tld (B:=c5) rfl (by omega) ?_
   refine⟨?_,?_⟩
   ·refine rcall (DD (u:=j5) inferInstance) ?_
    rintro _ e8 ⟨⟨v1,rfl,ax,rfl,f0,f1,OA⟩,l8⟩
    refine⟨Fr.fr l8.e,?_⟩
    refine ral λba d4 f2 j6=>⟨Fr.fr f2.e,?_⟩
    have l9:=f2.lo (u:=l)
    refine rsto (B:=j6) (vs:=enc ax) rfl rfl rfl (Enc.one _) λG a9 b0 _=>?_
    have a9:Bk G ba (enc ax) 65:=a9
    refine⟨b0.mono λi _ h=>by omega,?_⟩
    have m0:Stp l G:=⟨Fr.st (Le.e (a:=l) (b:=d4)) b0 λi h=>by omega⟩
    have n9:=f2.b
    have c6:=((OA.up (w':=d4)).frc b0 j6 (by decide)).mono (B':=l.heap.size) (Le.size (a:=l) (b:=j5))
    have c7:=j0.mv (w:=G)
    have c8:=b4.mv (w:=G)
    have m1:=Le.size (a:=l) (b:=G)
    have a4:Fr (λi=>(w.heap.size<=i/\i<w9.heap.size)\/l.heap.size<=i) l G:=Fr.fr (Le.e (a:=l) (b:=G))
    cases dn with
    |true =>
     have H:=zCt hu O hdn.symm
     obtain⟨q1,q2⟩:=H
     rw [<-e7] at q1
     refine rldG (ds:=enc ax) (B:=a9) rfl (Enc.len _) ?_
     refine rsto (B:=c7) (vs:=enc ax) rfl rfl rfl (Enc.one _) λT J b1 _=>?_
     have J:Bk T a6 (enc (⟨rr.r.id,0,ax⟩:RepD)) 67:=J
     have a1:=c8.fr b1 (by omega)
     refine rldG (ds:=enc (⟨rr.r.id,0,ax⟩:RepD)) (B:=J) rfl (Enc.len _) ?_
     refine rsto (B:=a1) (vs:=enc (⟨rr.r.id,0,ax⟩:RepD)) rfl rfl rfl (Enc.one _) λU z I _=>?_
     have z:Bk U b6 (enc (⟨rr.r.id,0,ax⟩:RepD)) 67:=z
     refine rresG (B:=z) rfl ?_
     have fl:=(a4.trans (b1.mono λi _ h=>.inl (by omega))).trans (I.mono λi _ h=>.inl (by omega))
     have c9:=((c6.fr b1 λb hb _ h=>by omega).fr I λb hb _ h=>by omega)
     have SZ:=mZ fl
     exact⟨⟨⟨rr.r.id,0,ax⟩,true,rfl,.inl ⟨rfl,_,_,K,wt,hd,lw,lh,_,X,q1,b8.id,rfl,f0,f1,c9.fz (λi h1 h2=>⟨.inr ⟨by omega,h2⟩,λh=>by have:=(Y.reg i (Y.mut h)).2;omega⟩),SZ,zBh hk,q2⟩⟩,mF fl⟩
    |false =>
     refine drawR TBok mixed (λ_=>False) (upF 10 0) (by kernel_rfl) λT m2 _=>?_
     refine tld (B:=e0) rfl nf ?_
     refine rarE (y:=((i+1:Nat):Int)) (by rw [a0];push_cast;rfl) (by omega) ?_
     refine tld (B:=c5) rfl nf ?_
     have J:=c7.mv (w:=T)
     have a1:=c8.mv (w:=T)
     have a5:=a4.trans (Fr.fr (Le.e (a:=G) (b:=T)))
     refine ite (λf3=>?_) (λf3=>?_)
     ·have H:=zEC hu O hdn.symm (by omega)
      obtain⟨q1,q2⟩:=H
      refine rsto (B:=J) (vs:=[.int .i64 251]) rfl rfl rfl (zAa _) λU b2 I _=>?_
      have b2:Bk U a6 (enc (zRp rr.r.id 251)) 67:=b2
      have z:=a1.fr I (by omega)
      refine rldG (ds:=enc (zRp rr.r.id 251)) (B:=b2) rfl (Enc.len _) ?_
      refine rsto (B:=z) (vs:=enc (zRp rr.r.id 251)) rfl rfl rfl (Enc.one _) λf4 b3 f7 _=>?_
      have b3:Bk f4 b6 (enc (zRp rr.r.id 251)) 67:=b3
      refine rresG (B:=b3) rfl ?_
      have fl:=(a5.trans (I.mono λi _ h=>.inl (by omega))).trans (f7.mono λi _ h=>.inl (by omega))
      exact⟨⟨zRp rr.r.id 251,true,rfl,.inl ⟨rfl,_,_,K,wt,hd,lw,lh,_,X,q1,b8.id,rfl,rfl,rfl,(λu _=>SlF.nil u),mZ fl,zBh hk,q2⟩⟩,mF fl⟩
     ·have H:=zD0 hu O hdn.symm (by omega)
      obtain⟨q1,q2⟩:=H
      refine rldG (ds:=enc (zRp rr.r.id 0)) (B:=J) rfl (Enc.len _) ?_
      refine rsto (B:=a1) (vs:=enc (zRp rr.r.id 0)) rfl rfl rfl (Enc.one _) λU z I _=>?_
      have z:Bk U b6 (enc (zRp rr.r.id 0)) 67:=z
      refine rresG (B:=z) rfl ?_
      have fl:=a5.trans (I.mono λi _ h=>.inl (by omega))
      rw [q2] at b5
      have q3:=mP fl b5
      rw [show aftS s.held k0 C i=(stepS g c s.held k0).1 from q2.symm] at q3
      exact⟨⟨zRp rr.r.id 0,false,rfl,.inr ⟨rfl,q1,q3⟩⟩,mF fl⟩
   ·refine ral λba e8 f9 m3=>⟨Fr.fr f9.e,?_⟩
    have l9:=f9.lo (u:=l)
    refine rcall (DD (u:=e8) inferInstance) ?_
    rintro _ d4 ⟨⟨v1,rfl,ax,rfl,f0,f1,OA⟩,m4⟩
    refine⟨Fr.fr m4.e,?_⟩
    refine rsto (B:=m3) (vs:=enc ax) rfl rfl rfl (Enc.one _) λG a9 b0 _=>?_
    have a9:Bk G ba (enc ax) 65:=a9
    refine⟨b0.mono λi _ h=>by omega,?_⟩
    have m0:Stp l G:=⟨Fr.st (Le.e (a:=l) (b:=d4)) b0 λi h=>by omega⟩
    have o0:=f9.lt
    have c6:=(OA.fr b0 λb hb _ h=>by omega).mono (B':=l.heap.size) (Le.size (a:=l) (b:=e8))
    have c7:=j0.mv (w:=G)
    have c8:=b4.mv (w:=G)
    have m1:=Le.size (a:=l) (b:=G)
    have a4:Fr (λi=>(w.heap.size<=i/\i<w9.heap.size)\/l.heap.size<=i) l G:=Fr.fr (Le.e (a:=l) (b:=G))
    cases dn with
    |true =>
     have H:=zCt hu O hdn.symm
     obtain⟨q1,q2⟩:=H
     rw [<-e7] at q1
     refine rldG (ds:=enc ax) (B:=a9) rfl (Enc.len _) ?_
     refine rsto (B:=c7) (vs:=enc ax) rfl rfl rfl (Enc.one _) λT J b1 _=>?_
     have J:Bk T a6 (enc (⟨rr.r.id,0,ax⟩:RepD)) 67:=J
     have a1:=c8.fr b1 (by omega)
     refine rldG (ds:=enc (⟨rr.r.id,0,ax⟩:RepD)) (B:=J) rfl (Enc.len _) ?_
     refine rsto (B:=a1) (vs:=enc (⟨rr.r.id,0,ax⟩:RepD)) rfl rfl rfl (Enc.one _) λU z I _=>?_
     have z:Bk U b6 (enc (⟨rr.r.id,0,ax⟩:RepD)) 67:=z
     refine rresG (B:=z) rfl ?_
     have fl:=(a4.trans (b1.mono λi _ h=>.inl (by omega))).trans (I.mono λi _ h=>.inl (by omega))
     have c9:=((c6.fr b1 λb hb _ h=>by omega).fr I λb hb _ h=>by omega)
     have SZ:=mZ fl
     exact⟨⟨⟨rr.r.id,0,ax⟩,true,rfl,.inl ⟨rfl,_,_,K,wt,hd,lw,lh,_,X,q1,b8.id,rfl,f0,f1,c9.fz (λi h1 h2=>⟨.inr ⟨by omega,h2⟩,λh=>by have:=(Y.reg i (Y.mut h)).2;omega⟩),SZ,zBh hk,q2⟩⟩,mF fl⟩
    |false =>
     refine drawR TBok mixed (λ_=>False) (upF 10 0) (by kernel_rfl) λT m2 _=>?_
     refine tld (B:=e0) rfl nf ?_
     refine rarE (y:=((i+1:Nat):Int)) (by rw [a0];push_cast;rfl) (by omega) ?_
     refine tld (B:=c5) rfl nf ?_
     have J:=c7.mv (w:=T)
     have a1:=c8.mv (w:=T)
     have a5:=a4.trans (Fr.fr (Le.e (a:=G) (b:=T)))
     refine ite (λf3=>?_) (λf3=>?_)
     ·have H:=zEC hu O hdn.symm (by omega)
      obtain⟨q1,q2⟩:=H
      refine rsto (B:=J) (vs:=[.int .i64 251]) rfl rfl rfl (zAa _) λU b2 I _=>?_
      have b2:Bk U a6 (enc (zRp rr.r.id 251)) 67:=b2
      have z:=a1.fr I (by omega)
      refine rldG (ds:=enc (zRp rr.r.id 251)) (B:=b2) rfl (Enc.len _) ?_
      refine rsto (B:=z) (vs:=enc (zRp rr.r.id 251)) rfl rfl rfl (Enc.one _) λf4 b3 f7 _=>?_
      have b3:Bk f4 b6 (enc (zRp rr.r.id 251)) 67:=b3
      refine rresG (B:=b3) rfl ?_
      have fl:=(a5.trans (I.mono λi _ h=>.inl (by omega))).trans (f7.mono λi _ h=>.inl (by omega))
      exact⟨⟨zRp rr.r.id 251,true,rfl,.inl ⟨rfl,_,_,K,wt,hd,lw,lh,_,X,q1,b8.id,rfl,rfl,rfl,(λu _=>SlF.nil u),mZ fl,zBh hk,q2⟩⟩,mF fl⟩
     ·have H:=zD0 hu O hdn.symm (by omega)
      obtain⟨q1,q2⟩:=H
      refine rldG (ds:=enc (zRp rr.r.id 0)) (B:=J) rfl (Enc.len _) ?_
      refine rsto (B:=a1) (vs:=enc (zRp rr.r.id 0)) rfl rfl rfl (Enc.one _) λU z I _=>?_
      have z:Bk U b6 (enc (zRp rr.r.id 0)) 67:=z
      refine rresG (B:=z) rfl ?_
      have fl:=a5.trans (I.mono λi _ h=>.inl (by omega))
      rw [q2] at b5
      have q3:=mP fl b5
      rw [show aftS s.held k0 C i=(stepS g c s.held k0).1 from q2.symm] at q3
      exact⟨⟨zRp rr.r.id 0,false,rfl,.inr ⟨rfl,q1,q3⟩⟩,mF fl⟩
end
section
variable {kx:Nat} {R:Nat->Prop} {B:Nat} {w0 w w':World} {bs:Nat} {g:GrD} {c:CfD} {s:SvD} {Ls:Nat->List StD} {K:SrvK} {wt hd:SV} {lw:List RReq} {lh:List RHeld} {lj:List RJob} {RW:Nat->Nat->Prop}
theorem zDE(k:Nat):∀(b:List Nat) (h:Hs),stepsS g c (b++[k]) h=((stepS g c (stepsS g c b h).1 k).1,(stepsS g c b h).2++(stepS g c (stepsS g c b h).1 k).2.toList)
 |[],h=>by simp [stepsS]
 |a::r,h=>by
  have:=zDE k r (stepS g c h a).1;show ((stepsS g c (r++[k]) (stepS g c h a).1).1,(stepS g c h a).2.toList++(stepsS g c (r++[k]) (stepS g c h a).1).2)=_;rw [this];refine Prod.ext rfl ?_;show _++(_++_)=(_++_)++_;rw [Qp];rfl
theorem zCN:∀(b:List Nat) (h:Hs),(stepsS g c b h).2.length<=b.length
 |[],h=>Qe _
 |a::r,h=>by
  have:=zCN r (stepS g c h a).1;show ((stepS g c h a).2.toList++(stepsS g c r (stepS g c h a).1).2).length<=r.length+1;rw [Qb];cases (stepS g c h a).2 <;> simp <;> omega
theorem zDF:∀(d:List Nat) (h:Hs),j∉d->(stepsS g c d h).1.getD j none=h.getD j none
 |[],h,_=>rfl
 |a::r,h,b=>by
  rw [Ql,not_or] at b;show (stepsS g c r (stepS g c h a).1).1.getD j none=_;rw [zDF r _ b.2,zNt b.1]
theorem zKM{y:RepD}{p:Int×Int×AnP}(b:y.id=p.1)(d:y.code=p.2.1)(e:y.a.found=p.2.2.found)(f:y.a.num=p.2.2.num):(RepOk y p.2.2.hits↔RepOk (repOf p.1 p.2.1 p.2.2) p.2.2.hits)/\encR y p.2.2.hits=encR (repOf p.1 p.2.1 p.2.2) p.2.2.hits:=by
 obtain⟨id,h,found,l,s⟩:=y;obtain⟨o,pc,pa⟩:=p;dsimp only at b d e f;subst b d e f;exact⟨Iff.rfl,rfl⟩
theorem zBv{c3:Nat}(S:SrvP R B w bs g c s)(hB:B<=w.heap.size)(h3:∀u,Fr R w u->SlF u (.slice a3 n3 c3) ps):
  Sp PP 14 #[.pointer (some ⟨bs,0,none⟩),.slice a3 n3 c3] w λv w'=>∃R':Nat->Prop,Own w.heap.size 9 w' v ((tickS g c s).2.map bsOf)/\(∀b,Value.blk v=some b->b<w'.heap.size/\¬R' b)/\SrvP R' B w' bs g c (tickS g c s).1/\(∀i,R' i->gR R w w' i)/\Fr R w w':=by
 have hR:=(SrvX.reg S).1;refine eN ?_;refine rpnil (rcall (zHS S hB) ?_);rintro _ w1 ⟨S1,f1⟩;have z1:=f1.size;have A:∃d:SvD,d=⟨(admitS s.wait s.held).1,(admitS s.wait s.held).2⟩:=⟨_,rfl⟩;obtain⟨d,V⟩:=A;rw [<-V] at S1;have c6:=(SrvX.reg S1).1;have a7:=S1;obtain⟨K,wt,hd,lw,lh,lj,RW,S2⟩:=a7;have c7:=S2.small;have F2:=S2.fz.here;have hu:=F2.usedH;have c8:=F2.fh.len;have c9:(usedS d.held).length<=lh.length:=by rw [F2.lhn];exact zCQ _ _
 refine rX S2.cell rfl ?_;have D:=zEZ F2.fh (by omega);rw [hu] at D;refine rcall D ?_;rintro v w2 ⟨O2,e2⟩;have A:=O2.shape;obtain⟨ua,uc,rfl⟩:=A;have z2:=e2.e.size;have c2:((usedS d.held).map λk:Nat=>(k:Int)).length=(usedS d.held).length:=by simp
 have P0:SrvP (gR R w w1) B w2 bs g c ⟨d.wait,(stepsS g c ((usedS d.held).take 0) d.held).1⟩:=SrvP.up (w':=w2) S1
 refine cnt1 TBok 22 [7,8,9,10,11] 5 22 (usedS d.held).length (λj v u=>∃r:Nat->Prop,Own w2.heap.size 9 u v ((stepsS g c ((usedS d.held).take j) d.held).2.map bsOf)/\(∀b,Value.blk v=some b->b<u.heap.size/\¬r b) /\
   SrvP r B u bs g c ⟨d.wait,(stepsS g c ((usedS d.held).take j) d.held).1⟩/\(∀i,r i->gR R w w1 i\/w2.heap.size<=i)/\Fr (λi=>r i/\i<w2.heap.size) w2 u) rfl rfl
  ⟨gR R w w1,Own.nil _ _ _,(λb C=>by cases C),P0,(λi hi=>.inl hi),Fr.refl _ _⟩ ?_
 clear P0;rintro j v G u hj ⟨r,O,o,P,Q,f⟩;have zu:=f.size;have ff:Fr (λi=>gR R w w1 i/\i<w2.heap.size) w2 u:=f.mono λi hi h=>⟨(Q i h.1).elim id λN=>by omega,h.2⟩;have fR:Fr R w u:=(f1.join (H:=λi=>R i) ((Fr.fr (D:=λi=>gR R w w1 i/\i<w2.heap.size) e2.e).trans ff) (λ_ _ h=>h) λi hi h=>h.1.elim id λh=>by omega);have Ou:=O2.fr ff λb C d0 h=>by rcases h.1 with h4|h4;(have:=hR b h4;omega);omega
 refine ite (λhlt=>?_) (λa8=>?_)
 ·have L:j<(usedS d.held).length:=by (try dsimp only at hlt);omega
  have A:∃k,k=(usedS d.held)[j]:=⟨_,rfl⟩;obtain⟨k,hk⟩:=A;have a9:k∈usedS d.held:=by rw [hk];exact Qa L
  have A:=zJf a9;obtain⟨x0,i,b0⟩:=A
  have b2:k∉(usedS d.held).take j:=λh=>by
   have A:=QI.1 h;obtain⟨m,hm,he⟩:=A;rw [Qm] at hm;rw [VI,hk] at he;have:=(VQ (zML d.held)).1 he;omega
  have W:(stepsS g c ((usedS d.held).take j) d.held).1.getD k none=some (x0,i):=by rw [zDF _ _ b2];exact b0
  have l:=zDE (g:=g) (c:=c) k ((usedS d.held).take j) d.held;rw [show (usedS d.held).take j++[k]=(usedS d.held).take (j+1) by rw [hk,<-QO L]] at l;have A:∃I,I=(stepsS g c ((usedS d.held).take j) d.held).1:=⟨_,rfl⟩;obtain⟨I,b3⟩:=A;have A:∃lo,lo=(stepsS g c ((usedS d.held).take j) d.held).2:=⟨_,rfl⟩;obtain⟨lo,X⟩:=A;rw [<-b3] at W P l;rw [<-X] at O l;have b4:B<=u.heap.size:=by omega
  have Y:=(SrvX.reg P).1;refine rix Ou.sl (x:=(k:Int)) (by simp [L,hk]) λb1 o1 A1=>rload1 (A1.cell0 rfl) (rcall (zIq P b4 W (h3 u fR)) ?_);rintro _ t ⟨⟨y,d1,rfl,U⟩,fs⟩;have zs:=fs.size;refine ral λb5 u2 n2 Y2=>?_;have b7:=n2.lo (u:=t);have c4:=n2.lt;refine rE Y2 y λz Y3 f3=>?_;have Y3:Bk z b5 (enc y) 67:=Y3;have s3:Stp t z:=⟨Fr.st Le.e f3 λi hi=>by subst hi;exact b7⟩;clear Y2 f3;have z3:=lz t z;have T:∀{b:Nat},b<u.heap.size->¬r b->∀{x y:World},u.heap.size<=x.heap.size->¬gR r x y b:=λ{b} C hn {x y} W h=>h.elim hn λh=>by omega
  have c5:lo.length<=64:=by
   have:=zCN (g:=g) (c:=c) ((usedS d.held).take j) d.held;rw [<-X,Qm] at this;omega
  have Os:Own w2.heap.size 9 t v (lo.map bsOf):=O.fr fs λb _ C=>(o b C).2;have Z:Fr (λi=>gR r u t i/\i<w2.heap.size) w2 t:=f.join fs (λi _ h=>⟨.inl h.1,h.2⟩) λi hi h=>⟨.inl h,hi⟩;have a0:∀{y x:World},w2.heap.size<=x.heap.size->∀i,gR r x y i->gR R w w1 i\/w2.heap.size<=i:=λ{y x} W i hi=>hi.elim (Q i) λh=>.inr (by omega);rcases U with ⟨rfl,p,Ls,K,wt,hd,lw,lh,lj,RW,q1,b8,b9,c0,c1,HZ,SZ,a1,q2⟩|⟨rfl,q1,P1⟩
  ·have a2:=SZ.up (w':=z);refine rcall (zDw a2 a1 W (by omega)) ?_;rintro _ J ⟨P4,m4⟩;have f4:Fr (gR r u t) z J:=m4.mono λi _ h=>a2.mut h;have z4:=f4.size;have Y4:=Y3.fr f4 λh=>h.elim (λh=>by have:=(Y _ h).2;omega) λh=>by omega
   have H4:SlF J (.slice y.a.s.a y.a.s.n y.a.s.c) p.2.2.hits:=HZ J (((fE t z).trans m4).mono λi _ h=>.inl h);refine rG Y4 y ?_;have a4:=((zPh (SrvX.reg P).2.2.1 (SrvX.reg P).2.2.2 q1).ok (SrvX.reg P).2.1.ok).1;refine rcall (zCB (x:=y) H4 (by have:=a4.2.2.2.1;omega)) ?_;rintro v5 u5 ⟨M,e5⟩
   have M:∃e,v5=Value.tuple #[txt (bytR p),e]:=by
    have A:=zKM b8 b9 c0 c1;obtain⟨r1,r2⟩:=A;rcases M with ⟨h1,N⟩|⟨h1,N⟩
    ·refine⟨.int .i64 0,?_⟩;rw [N,r2,bytR,zIj (r1.1 h1)]
    ·refine⟨.int .i64 1,?_⟩;rw [N,bytR,zIi (λh=>h1 (r1.2 h))]
   obtain⟨ee,rfl⟩:=M;refine rbs1 (bsOf (bytR p)) rfl rfl (by decide) λb6 u6 n6 _ S6=>?_;have O4:Own w2.heap.size 9 J v (lo.map bsOf):=(Os.up (w':=z)).fr f4 λb _ C=>T (o b C).1 (o b C).2 (Qe _);have z6:=lz J u6;refine rappD ⟨rfl,rfl⟩ (O4.up (w':=u6)) S6 (by simp) (by omega) (by rw [Qr];simp;omega) λv7 u7 O7 f7 a5=>?_;have z7:=f7.size;have P7:=P4.up (w':=u6);have nv:∀b,ownD w2.heap.size v b->b<u.heap.size/\¬r b:=λb C=>o b C.2.1
   have a6:∀b,ownD w2.heap.size v b->¬gR (gR r u t) z J b:=λb C h=>by
    have:=nv b C;rcases h with (h|h)|h
    ·exact this.2 h
    ·omega
    ·omega
   have P8:=SrvP.away P7 f7 a6
   have k1:Own w2.heap.size 9 u7 v7 ((stepsS g c ((usedS d.held).take (j+1)) d.held).2.map bsOf):=by
    have:(stepsS g c ((usedS d.held).take (j+1)) d.held).2.map bsOf=lo.map bsOf++[bsOf (bytR p)]:=by
     rw [l];show (lo++(stepS g c I k).2.toList).map bsOf=_;rw [(zEB I k).1,q1,QB];rfl
    rw [this];exact O7
   have k2:∀b,Value.blk v7=some b->b<u7.heap.size/\¬gR (gR r u t) z J b:=λb C=>by
    rcases a5 with h|h
    ·rw [h] at C;have:=o b C;refine⟨by omega,λN=>?_⟩;rcases N with (N|N)|N
     ·exact this.2 N
     ·omega
     ·omega
    ·rw [h] at C;cases C;have A:=O7.lt (by simp);obtain⟨gq,g1,_,g3⟩:=A;rw [h] at g1;cases g1;refine⟨g3,λh=>?_⟩;rcases h with (h|h)|h
     ·have:=(Y _ h).2;omega
     ·omega
     ·omega
   have k3:SrvP (gR (gR r u t) z J) B u7 bs g c ⟨d.wait,(stepsS g c ((usedS d.held).take (j+1)) d.held).1⟩:=by
    rw [l];show SrvP _ _ _ _ _ _ ⟨d.wait,(stepS g c I k).1⟩;rw [q2];exact P8
   have k4:∀i,gR (gR r u t) z J i->gR R w w1 i\/w2.heap.size<=i:=λi hi=>by
    rcases hi with (h|h)|h
    ·exact Q i h
    ·exact .inr (by omega)
    ·exact .inr (by omega)
   have k5:Fr (λi=>gR (gR r u t) z J i/\i<w2.heap.size) w2 u7:=by
    refine((Z.trans (fE t z)).join (H:=λi=>gR (gR r u t) z J i/\i<w2.heap.size) f4 (λi _ h=>⟨.inl h.1,h.2⟩) λi hi h=>⟨.inl h,hi⟩).join ((Fr.fr (D:=ownD w2.heap.size v) (lE J u6)).trans f7) (λ_ _ h=>h) λi hi h=>?_;have:=h.1;omega
   clear Y4 H4 O4 S6 P7 P8 nv a6 O7 f7 a5;exact rA ⟨rfl,L,_,k1,k2,k3,k4,k5⟩
  ·have P3:=SrvP.up (w':=z) P1
   have k1:Own w2.heap.size 9 z v ((stepsS g c ((usedS d.held).take (j+1)) d.held).2.map bsOf):=by
    have:(stepsS g c ((usedS d.held).take (j+1)) d.held).2.map bsOf=lo.map bsOf:=by
     rw [l];show (lo++(stepS g c I k).2.toList).map bsOf=_;rw [(zEB I k).1,q1];simp
    rw [this];exact Os.up
   have k2:∀b,Value.blk v=some b->b<z.heap.size/\¬gR r u t b:=λb C=>by
    have:=o b C;exact⟨by omega,T this.1 this.2 (Qe _)⟩
   have k3:SrvP (gR r u t) B z bs g c ⟨d.wait,(stepsS g c ((usedS d.held).take (j+1)) d.held).1⟩:=by rw [l];exact P3
   have k5:Fr (λi=>gR r u t i/\i<w2.heap.size) w2 z:=Z.trans (fE t z);exact rA ⟨rfl,L,gR r u t,k1,k2,k3,a0 (by omega),k5⟩
 ·obtain rfl:j=(usedS d.held).length:=by (try dsimp only at a8);omega
  rw [Qg] at O P;have h1:tickS g c s=(⟨d.wait,(stepsS g c (usedS d.held) d.held).1⟩,(stepsS g c (usedS d.held) d.held).2):=by rw [V];rfl
  rw [h1];refine⟨r,O.mono (by omega),o,P,λi hi=>?_,fR⟩;have:=(SrvX.reg P).1 i hi;have A:=Q i hi;rcases A with (h|h)|h
  ·exact .inl h
  ·exact .inr (by omega)
  ·exact .inr (by omega)
end
section
variable {R:Nat->Prop} {B:Nat} {w0 w w':World} {bs:Nat} {g:GrD} {c:CfD} {s:SvD}
def comeV (o:Option (List UInt8)):Value:=.tuple #[txt (o.getD []),.bool o.isSome]
theorem zPw(s:SvD)(id:Int):(backS s id).2≠0:=by
 unfold backS;split
 ·exact(by decide:(253:Int)≠0)
 ·split
  ·exact(by decide:(253:Int)≠0)
  ·exact(by decide:(141:Int)≠0)
theorem zKd(f:Fn)(a b:Array Value):∀u∈[Value.func f a b],u.oneCell'=true:=by intro u d;simp at d;subst d;rfl
theorem zCb{f:List UInt8}(S:SrvP R B w bs g c s)(V:B<=w.heap.size)(hf:f.length<=4611686018427387904):
  Sp PP 16 #[.pointer (some ⟨bs,0,none⟩),txt f] w λv w'=>v=comeV (comeS g c s f).2/\SrvP (gR R w w') B w' bs g c (comeS g c s f).1/\Fr R w w':=by
 have J:=S.lo;have t:∃s' o,comeS g c s f=(s',o):=⟨_,_,rfl⟩;obtain⟨s',o,b⟩:=t
 have Y:reqOf f=none->idOf f=none->s'=s/\o=none:=λl z=>by
  unfold comeS at b;rw [l] at b;dsimp only at b;rw [z] at b;cases b;exact⟨rfl,rfl⟩
 have Z:reqOf f=none->∀id,idOf f=some id->s'=s/\o=some (repB id 220 zAn):=λl id z=>by
  unfold comeS at b;rw [l] at b;dsimp only at b;rw [z] at b;cases b;exact⟨rfl,rfl⟩
 have a0:∀d,reqOf f=some d->d.kind=4->s'=(backS s d.id).1/\o=some (repB d.id (backS s d.id).2 zAn):=λd l z=>by
  unfold comeS at b;rw [l] at b;dsimp only at b;rw [if_pos z] at b;cases b;exact⟨rfl,rfl⟩
 have a1:∀d,reqOf f=some d->d.kind≠4->((askS g c s d (QyIs d.q g.n)).2=0/\s'=(askS g c s d (QyIs d.q g.n)).1/\o=none)\/((askS g c s d (QyIs d.q g.n)).2≠0/\s'=(askS g c s d (QyIs d.q g.n)).1/\o=some (repB d.id (askS g c s d (QyIs d.q g.n)).2 zAn)):=λd l z=>by
  unfold comeS at b;rw [l] at b;dsimp only at b;rw [if_neg z] at b;by_cases K:(askS g c s d (QyIs d.q g.n)).2=0
  ·rw [if_pos K] at b;cases b;exact .inl ⟨K,rfl,rfl⟩
  ·rw [if_neg K] at b;cases b;have hs:=(SrvX.reg S).2.2.2;have t:=ask_ok (x:=d) hs (zC5 l).2.1;rcases t with ⟨A,_⟩|⟨_,A⟩
   ·exact absurd A K
   ·exact .inr ⟨K,A.symm,rfl⟩
 rw [b];dsimp only;refine eN ?_;refine rpnil (rcall (zE3 hf) ?_);rintro _ w1 ⟨⟨d,x,hr,rfl,O⟩|⟨L,rfl⟩,e1⟩
 case inr =>
  refine ral λbx w2 n2 M=>rE M zRq λC y N=>?_;have s3:Stp w1 C:=n2.st N;clear M N;refine iT (by first|omega|decide|(dsimp only <;> omega)) (rcall (zLm hf) ?_);rintro _ w4 ⟨⟨id,G,rfl⟩|⟨G,rfl⟩,e4⟩
  ·have t:=Z L id G;obtain⟨rfl,rfl⟩:=t;refine rcall zB0 ?_;rintro _ r ⟨rfl,e5⟩;exact⟨rfl,SrvP.new (w':=r) S V⟩
  ·have t:=Y L G;obtain⟨rfl,rfl⟩:=t;exact⟨rfl,SrvP.new (w':=w4) S V⟩
 case inl =>
  have hd:=zC5 hr;refine ral λbx w2 n2 M=>?_;have a4:=n2.lo (u:=w);refine rE M x λC y N=>?_;have y:Bk C bx (enc x) 55:=y;have s3:Stp w1 C:=n2.st N;clear M N;refine iF (· rfl) (rbuild (cs:=[.func (.func 63) #[.pointer (some ⟨bs,0,none⟩)] #[]]) rfl (ral λbd w4 n4 D4=>rS D4 [.func (.func 63) #[.pointer (some ⟨bs,0,none⟩)] #[]] (zKd _ _ _) λr W f5=>?_));have W:Bk r bd [.func (.func 63) #[.pointer (some ⟨bs,0,none⟩)] #[]] 121:=W;have s5:Stp C r:=n4.st f5;clear D4 f5;refine rX y rfl ?_;have hk:=O.2.1;refine ite (λA=>?_) (λA=>?_)
  ·refine rbuild (cs:=[.func (.func 64) #[.pointer (some ⟨bs,0,none⟩)] #[]]) rfl (rS W [.func (.func 64) #[.pointer (some ⟨bs,0,none⟩)] #[]] (zKd _ _ _) λI D6 f6=>?_);have D6:Bk I bd [.func (.func 64) #[.pointer (some ⟨bs,0,none⟩)] #[]] 121:=D6;have s6:Stp C I:=⟨Fr.st (lE C r) f6 λi hi=>by subst hi;exact n4.lo⟩;refine rX D6 rfl (rG y x (rcall (zIo (x:=x) (w0:=w) (w:=I) S V) ?_));rintro _ w7 ⟨rfl,X,H⟩;refine iT (zPw s x.id) ?_;have X7:=(y.mv (w:=I)).fr H λh=>by have:=J _ h;omega
   refine rX X7 rfl (rcall zB0 ?_);rintro _ Q ⟨rfl,T⟩;obtain⟨rfl,rfl⟩:=a0 d hr (by rw [<-hk];exact A);have hz:=H.size;have a2:=lz w I;rw [<-O.1];refine⟨rfl,?_,((fE w I).trans H).trans (fE w7 Q)⟩;have p:=(SrvX.reg S).1
   exact SrvX.wide (SrvP.up (w':=Q) X) (λi hi=>hi.imp id λh=>by have:=T.e.size;omega) λi hi=>by
    rcases hi with hi|hi
    ·have:=p i hi;have:=T.e.size;omega
    ·omega
  ·refine rX W rfl (rG y x (rcall (zJs (w0:=w) (w:=r) S V (RqO.up (w':=r) O) hd) ?_));rintro _ w7 ⟨rfl,X,H⟩;have hz:=H.size;have a2:=lz w r;have U:=(Fr.fr (D:=R) (lE w r)).trans H;have p:=(SrvX.reg S).1;have t:=a1 d hr (by rw [<-hk];exact A);rcases t with ⟨l,rfl,rfl⟩|⟨l,rfl,rfl⟩
   ·refine iF (· l) ?_;exact⟨rfl,X,U⟩
   ·refine iT l ?_;have X7:=(y.mv (w:=r)).fr H λh=>by have:=J _ h;omega
    refine rX X7 rfl (rcall zB0 ?_);rintro _ Q ⟨rfl,T⟩;rw [<-O.1];refine⟨rfl,?_,U.trans (fE w7 Q)⟩
    exact SrvX.wide (SrvP.up (w':=Q) X) (λi hi=>hi.imp id λh=>by have:=T.e.size;omega) λi hi=>by
     rcases hi with hi|hi
     ·have:=p i hi;have:=T.e.size;omega
     ·omega
end
def cfgOk (x:RCfg):Prop:=(1<=x.workers/\x.workers<=16)/\(1<=x.slots/\x.slots<=64)/\(1<=x.queue/\x.queue<=1000)/\(1<=x.pool/\x.pool<=400)/\(1<=x.budget/\x.budget<=1000)
def cfOf (x:RCfg):CfD:=⟨x.workers.toNat,x.slots.toNat,x.queue.toNat,x.pool.toNat,x.budget.toNat⟩
theorem zMc{x:RCfg}(h:cfgOk x):CfOk (cfOf x):=by
 unfold cfgOk at h;refine⟨?_,?_,?_,?_,?_⟩ <;> simp only [cfOf] <;> omega
section
variable {B B':Nat} {w w':World} {g:GrD}
theorem StoP.low{b d size:Nat}{L:List StD}(h:StoP R B w b d size L)(c:B'<=B):StoP R B' w b d size L:=by
 obtain⟨f,ta,tc,ts,l,o,fr,p,st,t,m,ch,h,T,M,C,Z⟩:=h;have x:=h.tab;obtain⟨g0,y,H,r⟩:=x;have z:=h.lo;exact⟨f,ta,tc,ts,l,o,fr,p,st,t,m,ch,⟨⟨by omega,by omega,by omega⟩,h.cell,⟨Qw c g0,y,⟨H.cell,H.row.mono c,H.len,H.tab,H.bnd,H.may,H.zero⟩,r⟩,h.free,h.sts.mono c,h.map,λs v e=>⟨(h.rows s v e).1.mono c,(h.rows s v e).2⟩,h.empt,h.apart,h.apart2⟩,T,M,C,Z⟩
theorem Stos.add{W c:Nat}{K:SrvK}{f:Nat->Nat->Prop}{b r:Nat}{L:List StD}{Ls:Nat->List StD}(T:Stos B w W K c f Ls)[Le w w'](S:StoP (λi=>w.heap.size<=i/\i<w'.heap.size) B w' b r c L)(x:Ls W=L):
  Stos B w' (W+1) { K with sb:=λk=>if k=W then b else K.sb k,sg:=λk=>if k=W then r else K.sg k } c (updR f W λi=>w.heap.size<=i/\i<w'.heap.size) Ls:=by
 have t:=T.up (w':=w');have z:=lz w w';have e:∀{j},j<W->updR f W (λi=>w.heap.size<=i/\i<w'.heap.size) j=f j:=λ{j} h=>if_neg (by omega);have l:updR f W (λi=>w.heap.size<=i/\i<w'.heap.size) W=λi=>w.heap.size<=i/\i<w'.heap.size:=if_pos rfl;refine⟨λk j v y o i hi=>?_,λk v=>?_,λk v i hi=>?_⟩
 ·by_cases d:k=W
  ·subst d;rw [l] at hi;rw [e (show j<k by omega)];intro p;have:=T.lt j (by omega) i p;omega
  ·rw [e (show k<W by omega)] at hi;by_cases p:j=W
   ·subst p;rw [l];intro A;have:=T.lt k (by omega) i hi;omega
   ·rw [e (show j<W by omega)];exact T.dis k j (by omega) (by omega) o i hi
 ·by_cases d:k=W
  ·subst d;rw [l,x];simp only [if_true];exact S
  ·rw [e (show k<W by omega)];simp only [if_neg d];exact t.sto k (by omega)
 ·by_cases d:k=W
  ·subst d;rw [l] at hi;exact hi.2
  ·rw [e (show k<W by omega)] at hi;exact t.lt k (by omega) i hi
theorem zQi(g:GrD)(W n k:Nat):wkS g W (List.replicate n none) k=[]:=by
 unfold wkS allS;rw [JA];intro x b;have c:=VP.1 b;obtain⟨j,_,h⟩:=c;rw [Qk,Vk] at h;split at h <;> cases h
def zSrvK (bj jc:Nat) (xr:RRow) (r:List EdN) (ws:SV) (wl:List ByteArray) (ps:List RPo):SrvK:=⟨bj,jc,xr,r,ws,wl,ps,⟨none,0,0⟩,λ_=>0,λ_=>0⟩
theorem zBH{x:RCfg}{f:List UInt8}(hf:f.length<=4611686018427387904):
  Sp PP 10 #[agg x,txt f] w λv w'=>((¬cfgOk x/\v=.tuple #[.pointer none,.int .i64 1])\/(cfgOk x/\imgOf f=none/\v=.tuple #[.pointer none,.int .i64 30]) \/
   ∃g bs,cfgOk x/\imgOf f=some g/\v=.tuple #[.pointer (some ⟨bs,0,none⟩),.int .i64 0]/\SrvP (λi=>w.heap.size<=i/\i<w'.heap.size) w.heap.size w' bs g (cfOf x) (newS (cfOf x)))/\Stp w w':=by
 obtain⟨xw,xs,xq,xp,xb⟩:=x
 refine en TBok rfl ?_
 refine rbx λbc w1 n1 S=>?_
 refine rld (B:=S) rfl ?_
 refine rcall (zKX (n:=xs)) ?_
 rintro _ w2 ⟨⟨v2,rfl,O2⟩,e2⟩
 by_cases b8:xs<1\/64<xs
 ·have V:newH xs=([],1):=if_pos b8
  rw [V] at O2 ⊢
  refine iT (by first|omega|decide|(dsimp only <;> omega)) ?_
  exact⟨.inl ⟨λh=>by have M:1<=xs/\xs<=64:=h.2.1;omega,rfl⟩,stp⟩
 have V:newH xs=(List.replicate xs.toNat zeroH,0):=if_neg b8
 rw [V] at O2 ⊢
 refine iF (· rfl) ?_
 refine rld (B:=S) rfl ?_
 refine rcall zA6 ?_
 rintro _ w3 ⟨⟨rfl,X⟩|⟨rfl,X⟩,rfl⟩
 case' inr=>exact⟨.inl ⟨λh=>X h.1,rfl⟩,stp⟩
 refine rld (B:=S) rfl ?_
 refine rcall zA6 ?_
 rintro _ w3 ⟨⟨rfl,Y⟩|⟨rfl,Y⟩,rfl⟩
 case' inr=>exact⟨.inl ⟨λh=>Y h.2.2.1,rfl⟩,stp⟩
 refine rld (B:=S) rfl ?_
 refine rcall zA6 ?_
 rintro _ w3 ⟨⟨rfl,Z⟩|⟨rfl,Z⟩,rfl⟩
 case' inr=>exact⟨.inl ⟨λh=>Z h.2.2.2.1,rfl⟩,stp⟩
 refine rld (B:=S) rfl ?_
 refine rcall zA6 ?_
 rintro _ w3 ⟨⟨rfl,a0⟩|⟨rfl,a0⟩,rfl⟩
 case' inr=>exact⟨.inl ⟨λh=>a0 h.2.2.2.2,rfl⟩,stp⟩
 have X:1<=xw/\xw<=16:=X
 have Y:1<=xq/\xq<=1000:=Y
 have Z:1<=xp/\xp<=400:=Z
 have a0:1<=xb/\xb<=1000:=a0
 have a1:cfgOk ⟨xw,xs,xq,xp,xb⟩:=⟨X,by dsimp only;omega,Y,Z,a0⟩
 have c0:=zMc a1
 have t:=Int.eq_ofNat_of_zero_le (show (0:Int)<=xw by omega)
 obtain⟨W,rfl⟩:=t
 have t:=Int.eq_ofNat_of_zero_le (show (0:Int)<=xs by omega)
 obtain⟨N,rfl⟩:=t
 have t:=Int.eq_ofNat_of_zero_le (show (0:Int)<=xq by omega)
 obtain⟨Q,rfl⟩:=t
 have t:=Int.eq_ofNat_of_zero_le (show (0:Int)<=xp by omega)
 obtain⟨P,rfl⟩:=t
 have t:=Int.eq_ofNat_of_zero_le (show (0:Int)<=xb by omega)
 obtain⟨U,rfl⟩:=t
 have S:Bk w1 bc [.int .i64 (W:Int),.int .i64 (N:Int),.int .i64 (Q:Int),.int .i64 (P:Int),.int .i64 (U:Int)] 23:=S
 have c1:cfOf ⟨W,N,Q,P,U⟩=⟨W,N,Q,P,U⟩:=by simp [cfOf]
 rw [c1] at c0
 rw [Int.toNat_natCast] at O2
 have t:=O2.shape
 obtain⟨a2,c2,rfl⟩:=t
 have d5:(List.replicate N zeroH).length=N:=by simp
 refine rcall (zH6 hf) ?_
 rintro _ w4 ⟨⟨g,gx,vs,a6,rfl,V4⟩|⟨a6,rfl⟩,e4⟩
 case' inr =>
  refine ral λbg w5 n5 G5=>?_
  refine rsto (B:=G5) (vs:=enc zGr) rfl rfl rfl (Enc.one _) λw6 G6 f6 _=>?_
  have s6:Stp w4 w6:=⟨Fr.st Le.e f6 λi hi=>by subst hi;exact n5.lo⟩
  clear G5 f6
  refine iT (by first|omega|decide|(dsimp only <;> omega)) ?_
  exact⟨.inr (.inl ⟨a1,a6,rfl⟩),stp⟩
 have b4:=zJ3 a6
 refine ral λbg w5 n5 G5=>?_
 refine rsto (B:=G5) (vs:=enc gx) rfl rfl rfl (Enc.one _) λw6 G6 f6 _=>?_
 have G6:Bk w6 bg (enc gx) 77:=G6
 have s6:Stp w4 w6:=⟨Fr.st Le.e f6 λi hi=>by subst hi;exact n5.lo⟩
 clear G5 f6
 refine iF (· rfl) ?_
 refine drawR TBok mixed (λ_=>False) (upF 8 0) (by kernel_rfl) λw7 e7 _=>?_
 refine tldG (ds:=enc (⟨W,N,Q,P,U⟩:RCfg)) (B:=S) rfl rfl nf ?_
 refine tld (B:=S) rfl nf ?_
 refine rmk zJob rfl rfl (by omega) λz w8 OJ s8 f9=>⟨s8.e,?_⟩
 refine tbuild (cs:=srvL ⟨W,N,Q,P,U⟩ (zSrvK z N ⟨⟨none,0,0⟩,⟨none,0,0⟩,⟨none,0,0⟩,⟨none,0,0⟩⟩ [] ⟨none,0,0⟩ [] []) ⟨none,0,0⟩ ⟨a2,(List.replicate N zeroH).length,c2⟩) (by rw [d5];rfl) ?_
 refine rbx λbs w9 n9 S9=>⟨n9.e,?_⟩
 have b1:=n1.b;have l1:=n1.lt
 have b9:=n9.b;have l9:=n9.lt
 have z8:=Le.size (a:=w) (b:=w8)
 have g0:=Le.size (a:=w) (b:=w7)
 have f7:z<bs:=by
  have M:=OJ.lt (by intro h;have:=congrArg List.length h;simp at this;omega)
  obtain⟨gq,M,_,h3⟩:=M
  have h4:z=gq:=Option.some.inj M
  omega
 refine rldG (ds:=enc gx) (B:=G6) rfl (Enc.len _) ?_
 refine rcall (zKQ (V4.up (w':=w9)) b4) ?_
 rintro _ c4 ⟨⟨y,r,rfl,RO⟩,d6⟩
 refine ral λbr g2 c5 c6=>?_
 refine rsto (B:=c6) (vs:=enc y) rfl rfl rfl (Enc.one _) λa7 b5 c7 _=>?_
 have b5:Bk a7 br (enc y) 82:=b5
 have g4:Stp c4 a7:=⟨Fr.st Le.e c7 λi hi=>by subst hi;exact c5.lo⟩
 have g5:=c5.lo (u:=w9)
 clear c6 c7
 refine rldG (ds:=enc gx) (B:=G6) rfl (Enc.len _) ?_
 refine rcall (zHB (V4.up (w':=a7)) b4) ?_
 rintro _ o ⟨⟨pa,pc,ps,wl,rfl,PM,_,d7,OP,c8⟩,d8⟩
 refine rldG (ds:=enc y) (B:=b5) rfl (Enc.len _) ?_
 have g6:=d6.e.size
 have g7:=Le.size (a:=c4) (b:=a7)
 have g8:=d8.e.size
 refine rsto (B:=S9) (vs:=enc y) rfl rfl rfl (Enc.one _) λg9 c9 d9 _=>?_
 refine rsto (B:=c9) (vs:=[.slice pa ps.length pc]) rfl rfl rfl (sv1 _ _ _) λd a8 e0 _=>?_
 have t:∃K:SrvK,K=zSrvK z N y r ⟨pa,ps.length,pc⟩ wl ps:=⟨_,rfl⟩
 obtain⟨K,hK⟩:=t
 have a8:Bk d bs (srvL ⟨W,N,Q,P,U⟩ K ⟨none,0,0⟩ ⟨a2,(List.replicate N zeroH).length,c2⟩) 87:=by
  rw [hK];exact a8
 clear c9 S9
 have H:Fr (λi=>i=bs) o d:=d9.trans e0
 have h0:=H.size
 have h1:Stp w8 d:=⟨Fr.st (Le.e (a:=w8) (b:=o)) H λi hi=>by omega⟩
 refine rld (B:=S) rfl ?_
 refine cnt TBok 82 [4,5,14,15] 82 W (λj u=>∃(wa:Option Addr) (wc:Nat) (sb sg:Nat->Nat) (J:Nat->Nat->Prop),
   Own w.heap.size 92 u (.slice wa j wc) ((List.range j).map λk=>(⟨sb k⟩:RPtr)) /\
   Bk u bs (srvL ⟨W,N,Q,P,U⟩ { K with wk:=⟨wa,j,wc⟩ } ⟨none,0,0⟩ ⟨a2,(List.replicate N zeroH).length,c2⟩) 87 /\
   Stos w.heap.size u j { K with sb:=sb,sg:=sg } P J (λ_=>[])/\(∀k,k<j->∀i,J k i->d.heap.size<=i) /\
   (∀b,Value.blk (.slice wa j wc)=some b->d.heap.size<=b/\b<u.heap.size/\∀k,k<j->¬J k b)/\Fr (λi=>i=bs) d u) rfl rfl
  ⟨none,0,λ_=>0,λ_=>0,λ_ _=>False,Own.nil _ _ _,by rw [hK] at a8 ⊢;exact a8,⟨λk j p=>by omega,λk p=>by omega,λk p=>by omega⟩,(λk p=>by omega),(λb hb=>by cases hb),Fr.refl _ _⟩ ?_
 rintro j G u hj ⟨wa,wc,sb,sg,J,OW,Su,T,a9,a4,f⟩
 have zu:=f.size
 have su:Stp w8 u:=⟨Fr.st (Le.e (a:=w8) (b:=d)) f λi hi=>by omega⟩
 refine ite (λhlt=>?_) (λe3=>?_)
 ·have e5:j<W:=Int.ofNat_lt.1 hlt
  refine rld (B:=S) rfl ?_
  refine rcall (zK1 (size:=(P:Int))) ?_
  rintro _ u1 ⟨⟨h6,_⟩|⟨N',b,gs,h7,_,_,rfl,SN⟩,e1⟩
  ·omega
  have t:P=N':=by omega
  obtain rfl:=t
  have z1:=e1.e.size
  refine iF (· rfl) ?_
  refine rld (B:=Su) rfl ?_
  refine rbs1 (⟨b⟩:RPtr) rfl rfl (by decide) λb2 u2 n2 _ S2=>?_
  have z2:=n2.e.size
  refine rappD ⟨rfl,rfl⟩ (OW.up (w':=u2)) S2 (by simp) (by omega) (by simp;omega) λv3 u3 O3 f3 b0=>?_
  have b0:Value.blk v3=Value.blk (.slice wa j wc)\/Value.blk v3=some u2.heap.size:=b0
  have f3:Fr (ownD w.heap.size (.slice wa j wc)) u2 u3:=f3
  have z3:=f3.size
  have hv:∀b,ownD w.heap.size (.slice wa j wc) b->d.heap.size<=b/\b<u.heap.size/\∀k,k<j->¬J k b:=λb hb=>a4 b hb.2.1
  have f8:bs<d.heap.size:=by omega
  have d0:=(Su.mv (w:=u2)).fr f3 λh=>by have:=hv _ h;omega
  have e6:((List.range j).map (λk=>(⟨sb k⟩:RPtr))++[(⟨b⟩:RPtr)]).length=j+1:=by simp
  have e8:∃a c,v3=.slice a (j+1) c:=by
   have h:=O3.shape
   rw [e6] at h;exact h
  obtain⟨a3,c3,d1⟩:=e8
  subst d1
  refine rsto (B:=d0) (vs:=[.slice a3 (j+1) c3]) rfl rfl rfl (sv1 _ _ _) λu4 S4 f4 _=>?_
  have S4:Bk u4 bs (srvL ⟨W,N,Q,P,U⟩ { K with wk:=⟨a3,j+1,c3⟩ } ⟨none,0,0⟩ ⟨a2,(List.replicate N zeroH).length,c2⟩) 87:=S4
  have z4:=f4.size
  have b6:∀A,Value.blk (.slice a3 (j+1) c3)=some A->d.heap.size<=A/\A<u3.heap.size/\(∀k,k<j->¬J k A)/\¬(u.heap.size<=A/\A<u1.heap.size):=λA I=>by
   have t:=O3.lt (by simp)
   obtain⟨gq,g1,_,g3⟩:=t
   rw [I] at g1;cases g1
   rcases b0 with h|h
   ·rw [I] at h
    have:=a4 A h.symm
    exact⟨this.1,g3,this.2.2,by omega⟩
   ·rw [I] at h;cases h
    exact⟨by omega,g3,λk p h2=>by have:=T.lt k p _ h2;omega,by omega⟩
  have k1:Own w.heap.size 92 u4 (.slice a3 (j+1) c3) ((List.range (j+1)).map λk=>(⟨(λk=>if k=j then b else sb k) k⟩:RPtr)):=by
   have e:((List.range (j+1)).map λk=>(⟨(λk=>if k=j then b else sb k) k⟩:RPtr))=(List.range j).map (λk=>(⟨sb k⟩:RPtr))++[(⟨b⟩:RPtr)]:=by
    rw [List.range_succ,List.map_append]
    congr 1
    ·apply List.map_congr_left
     intro k p
     have:=List.mem_range.1 p
     dsimp only
     rw [if_neg (by omega)]
    ·simp
   rw [e]
   exact O3.fr f4 λA _ I h=>by have:=b6 A I;omega
  have T1:=(Stos.add (L:=[]) (Ls:=λ_=>[]) T (SN.low (by omega)) rfl)
  have T4:Stos w.heap.size u4 (j+1) { K with sb:=λk=>if k=j then b else sb k,sg:=λk=>if k=j then gs else sg k } P (updR J j λi=>u.heap.size<=i/\i<u1.heap.size) (λ_=>[]):=by
   refine((T1.up (w':=u2)).away f3 λk p i hi h=>?_).away f4 λk p i hi h=>?_
   ·have h5:=hv i h
    unfold updR at hi
    split at hi
    ·omega
    ·exact h5.2.2 k (by omega) hi
   ·unfold updR at hi
    split at hi
    ·omega
    ·have:=a9 k (by omega) i hi;omega
  have k4:∀k,k<j+1->∀i,updR J j (λi=>u.heap.size<=i/\i<u1.heap.size) k i->d.heap.size<=i:=λk p i hi=>by
   unfold updR at hi
   split at hi
   ·omega
   ·exact a9 k (by omega) i hi
  have k5:∀A,Value.blk (.slice a3 (j+1) c3)=some A->d.heap.size<=A/\A<u4.heap.size/\∀k,k<j+1->¬updR J j (λi=>u.heap.size<=i/\i<u1.heap.size) k A:=λA I=>by
   have h5:=b6 A I
   refine⟨h5.1,by omega,λk p hi=>?_⟩
   unfold updR at hi
   split at hi
   ·exact h5.2.2.2 hi
   ·exact h5.2.2.1 k (by omega) hi
  have k6:Fr (λi=>i=bs) d u4:=(f.join ((Fr.fr (D:=ownD w.heap.size (.slice wa j wc)) (Le.e (a:=u) (b:=u2))).trans f3) (λ_ _ h=>h) λi hi h=>by have:=hv i h;omega).trans f4
  clear O3 f3 b0 hv b6 T1 d0 OW
  exact rA ⟨rfl,e5,a3,c3,_,_,_,k1,S4,T4,k4,k5,k6⟩
 ·have e9:j=W:=by have h5:=Int.ofNat_le.1 (Int.not_lt.1 e3);exact Nat.le_antisymm hj h5
  subst e9
  have hR:∀{C:Nat},w.heap.size<=C->∀{b3:Nat},b3<=d.heap.size->(∀i,C<=i->i<b3->¬i=bs/\¬i=z)->∀i,C<=i->i<b3->(w.heap.size<=i/\i<u.heap.size)/\¬mutS bs z j J i:=λ{C} hC {b3} hl hn i M h2=>by
   refine⟨by omega,λh=>?_⟩
   rcases h with h|h|⟨k,p,h⟩
   ·exact(hn i M h2).1 h
   ·exact(hn i M h2).2 h
   ·have:=a9 k p i h;omega
  have h8:K.bj=z:=by rw [hK];rfl
  have a5:Fr (λi=>i=bs) o u:=H.trans f
  have rowF:∀{α:Type} [Enc α] {e:TypeId} {C:Nat} {v:Value} {l:List α} {u0:World},Own C e u0 v l->Le w9 u0->u0.heap.size<=o.heap.size->w9.heap.size<=C->Own C e o v l->Fz (mutS bs z j J) (λi=>w.heap.size<=i/\i<u.heap.size) u λu=>SlF u v l:=λ{α _ e C v l u0} O L0 hz hC b7 =>
   O.fzB (b7.fr a5 λb hb _ h=>by omega).sl (hR (by omega) (by omega) λi M h2=>by omega)
  have d2:=rowF RO.off inferInstance (by omega) (Nat.le_refl _) (RO.off.up (w':=o))
  have f0:=rowF RO.to inferInstance (by omega) (Nat.le_refl _) (RO.to.up (w':=o))
  have d3:=rowF RO.rof inferInstance (by omega) (Nat.le_refl _) (RO.rof.up (w':=o))
  have d4:=rowF RO.rev inferInstance (by omega) (Nat.le_refl _) (RO.rev.up (w':=o))
  have f1:=rowF OP inferInstance (Nat.le_refl _) (by omega) OP
  have f2:∀i (h:i<ps.length) (h':i<wl.length),Fz (mutS bs z j J) (λi=>w.heap.size<=i/\i<u.heap.size) u λu=>SlF u ps[i].pl.v (plOf g wl[i]):=λi h h'=>rowF (c8 i h h') inferInstance (Nat.le_refl _) (by omega) (c8 i h h')
  have f5:Fz (mutS bs z j J) (λi=>w.heap.size<=i/\i<u.heap.size) u λu=>SlF u (.slice a2 (List.replicate N zeroH).length c2) (List.replicate N zeroH):=by
   have z2:=Le.size (a:=w3) (b:=w7)
   have b7:=((O2.up (w':=o)).fr a5 λb _ hb h=>by
    obtain⟨gq,g1,_,g3⟩:=O2.lt (by intro h;have:=congrArg List.length h;simp at this;omega)
    rw [hb] at g1;cases g1
    omega)
   exact O2.fzB b7.sl (hR (by have:=Le.size (a:=w) (b:=w1);omega) (by omega) λi M h2=>by omega)
  have Ju:Own w.heap.size 188 u (.slice (some ⟨z,0,none⟩) N N) (List.replicate N zJob):=((OJ.up (w':=o)).fr a5 λb _ hb h=>by
   have:z=b:=Option.some.inj hb
   omega).mono (by omega)
  refine⟨.inr (.inr ⟨g,bs,a1,a6,rfl,?_⟩),stp⟩
  rw [c1]
  refine⟨{ K with wk:=⟨wa,j,wc⟩,sb:=sb,sg:=sg },⟨none,0,0⟩,⟨a2,(List.replicate N zeroH).length,c2⟩,[],List.replicate N zeroH,List.replicate N zJob,J,?_⟩
  subst hK
  refine⟨λi hi=>hi,by omega,?_,?_,λk p i hi=>?_,Su,Ju,⟨T.dis,λk p=>by rw [show (newS ⟨j,N,Q,P,U⟩).held=List.replicate N none from rfl,zQi];exact T.sto k p,T.lt⟩,λu' f'=>?_,b4,c0,d7,new_ok g _⟩
  ·show w.heap.size<=z/\z<u.heap.size
   omega
  ·show bs≠z
   omega
  ·have M:=a9 k p i hi
   have h2:=T.lt k p i hi
   exact⟨by omega,by omega,by show i≠z;omega⟩
  ·refine⟨⟨RO.rev',d2 u' f',f0 u' f',d3 u' f',d4 u' f'⟩,⟨PM.ris,PM.all,PM.len,λi h h'=>⟨(PM.at' i h h').1,f2 i h h' u' f'⟩⟩,f1 u' f',OW.sl.fr f' λb hb hd=>?_,SlF.nil _,f5 u' f',rfl,λi h=>absurd h (Nat.not_lt_zero _),by simp [newS],by simp [newS],λk h h'=>?_⟩
   ·have M:=a4 b hb
    rcases hd with hd|hd
    ·rcases hd with hd|hd|⟨k,p,hd⟩
     ·omega
     ·have hd:b=z:=hd
      omega
     ·exact M.2.2 k p hd
    ·exact hd ⟨by omega,M.2.1⟩
   ·have e:(newS ⟨j,N,Q,P,U⟩).held.getD k none=none:=by
     show (List.replicate N none).getD k none=none
     rw [List.getD_eq_getElem?_getD,List.getElem?_replicate];split <;> rfl
    rw [e]
    show ((List.replicate N zeroH)[k]).used=false
    simp [zeroH]
end
section
variable {g:GrD} {c:CfD}
end
theorem rdB(h:n<128)(t:List UInt8):rdN (UInt8.ofNat n::t)=some (n,t):=by
 have:=zA3 (n:=n) (by omega) t
 rwa [numB_lt h] at this
def im0:List UInt8:=[119,103,2,1,1,0,0,0]
def g0:GrD:=⟨2,[⟨0,1⟩],[[],[]]⟩
def c0:CfD:=⟨1,1,1,9,9⟩
theorem g0_is:GrIs g0:=by
 refine⟨⟨by decide,by decide,by decide⟩,by decide,rfl,?_,by simp [g0],?_⟩
 ·intro l b;have:l=[]:=by simpa [g0] using b
  subst this;simp
 ·intro l b;have:l=[]:=by simpa [g0] using b
  subst this;exact .nil
theorem im0_rd:rdI im0=some (2,[([1],[]),([],[])],[]):=by
 have b:rdN [2,1,1,0,0,0]=some (2,[1,1,0,0,0]):=rdB (n:=2) (by decide) _;have c:rdN [1,1,0,0,0]=some (1,[1,0,0,0]):=rdB (n:=1) (by decide) _;have d:rdN [1,0,0,0]=some (1,[0,0,0]):=rdB (n:=1) (by decide) _;have e:rdN [0,0,0]=some (0,[0,0]):=rdB (n:=0) (by decide) _;have f:rdN [0,0]=some (0,[0]):=rdB (n:=0) (by decide) _;have h:rdN [0]=some (0,[]):=rdB (n:=0) (by decide) _
 show (match rdN [2,1,1,0,0,0] with
  |some (n,t)=>if n<=200 then (match rdMany rdPl n t with|some (ps,u)=>some (n,ps,u)|none=>none) else none
  |none=>none)=_
 rw [b];simp [rdMany,rdPl,rdRow,rdWs,c,d,e,f,h]
theorem im0_g:imgOf im0=some g0:=by
 unfold imgOf;rw [im0_rd];exact if_pos ⟨rfl,g0_is⟩
def q7:QyD:=⟨1,0,1,[],0,0⟩
def x7:RqD:=⟨7,1,q7⟩
def x8:RqD:=⟨8,1,q7⟩
theorem q7_is(n:Int)(h:2<=n):QyIs q7 n:=⟨.inl rfl,⟨by decide,by show (0:Int)<n;omega⟩,λ_=>⟨by decide,by show (1:Int)<n;omega⟩,λh=>by simp [q7] at h⟩
theorem rq_is{id:Int}(h:0<=id/\id<=2147483647):RqIs ⟨id,1,q7⟩:=⟨.inr ⟨rfl,q7_is 200 (by decide)⟩,h,by
 show (if (1:Int)=4 then q7=zQy else if (1:Int)=3 then q7.to=0 else q7.words=[]/\q7.rad=0/\q7.most=0);rw [if_neg (by decide),if_neg (by decide)];exact⟨rfl,rfl,rfl⟩⟩
theorem rd7(h:n<128):rdR [UInt8.ofNat n,1,0,1]=some (⟨n,1,q7⟩,[]):=by
 have b:rdN [UInt8.ofNat n,1,0,1]=some (n,[1,0,1]):=rdB h _;have c:rdN [1,0,1]=some (1,[0,1]):=rdB (n:=1) (by decide) _;have d:rdN [0,1]=some (0,[1]):=rdB (n:=0) (by decide) _;have e:rdN [1]=some (1,[]):=rdB (n:=1) (by decide) _;unfold rdR;rw [b];dsimp only;rw [c];dsimp only;rw [if_pos (by decide),if_neg (by decide)];unfold rdQ;rw [d];dsimp only;rw [if_pos (by decide),e];rfl
theorem req7:reqOf [7,1,0,1]=some x7:=by
 have e:rdR [7,1,0,1]=some (x7,[]):=rd7 (n:=7) (by decide);unfold reqOf;rw [e];exact if_pos (rq_is (by decide))
theorem req8:reqOf [8,1,0,1]=some x8:=by
 have e:rdR [8,1,0,1]=some (x8,[]):=rd7 (n:=8) (by decide);unfold reqOf;rw [e];exact if_pos (rq_is (by decide))
theorem come7:comeS g0 c0 (newS c0) [7,1,0,1]=(⟨[x7],[none]⟩,none):=by
 have e:askS g0 c0 (newS c0) x7 (QyIs x7.q g0.n)=(⟨[x7],[none]⟩,0):=by
  unfold askS;rw [if_pos (show QyIs x7.q (g0.n:Int) from q7_is 2 (by decide))];rfl
 unfold comeS;rw [req7];dsimp only;rw [if_neg (by decide),e];rfl
theorem enc252:repB 8 252 zAn=[8,252,1]:=by
 have h:RepOk (repOf 8 252 zAn) zAn.hits:=zGJ (by decide) (by decide);unfold repB;rw [if_pos h];have b:numB 8=[8]:=numB_lt (by decide);have c:numB 252=[252,1]:=by rw [zBu (by decide),numB_lt (by decide)];rfl
 simp [encR,repOf,numsB,b,c]
theorem come8:comeS g0 c0 ⟨[x7],[none]⟩ [8,1,0,1]=(⟨[x7],[none]⟩,some [8,252,1]):=by
 have e:askS g0 c0 ⟨[x7],[none]⟩ x8 (QyIs x8.q g0.n)=(⟨[x7],[none]⟩,252):=by
  unfold askS;rw [if_pos (show QyIs x8.q (g0.n:Int) from q7_is 2 (by decide))];rfl
 unfold comeS;rw [req8];dsimp only;rw [if_neg (by decide),e];dsimp only;rw [if_neg (by decide),<-enc252];rfl
section
variable {g:GrD} {c:CfD}
theorem zJd{s:SvD}{l:List RqD}{h b:Hs}{o:Option (List UInt8)}(d:admitS s.wait s.held=(l,h))(e:usedS h=[0])(f:(stepS g c h 0).1=b)(p:(stepS g c h 0).2=o):tickS g c s=(⟨l,b⟩,o.toList):=by
 unfold tickS;rw [d];dsimp only;rw [e];show ((⟨l,(stepS g c h 0).1⟩:SvD),(stepS g c h 0).2.toList++[])=_;rw [f,p,QE]
end
def h0 (j:Nat):Hs:=[some (x7,j)]
theorem tick7a:tickS g0 c0 ⟨[x7],[none]⟩=(⟨[],h0 1⟩,[]):=by
 have e:(h0 0).getD 0 none=some (x7,0):=rfl;have b:=zD0 (g:=g0) (c:=c0) e (by decide) (by decide) (by decide);obtain⟨q1,q2⟩:=b;have q3:=(zEB (g:=g0) (c:=c0) (h0 0) 0).1;rw [q1] at q3;exact zJd (h:=h0 0) (o:=none) rfl rfl q2 q3
theorem done7:doneL g0 q7 (sts g0 q7 0 2) (mls g0 q7 0 2)=(⟨true,1,[]⟩,true):=by decide
theorem enc7:bytR (7,0,⟨true,1,[]⟩)=[7,0,1,1,0]:=by
 have h:RepOk (repOf 7 0 ⟨true,1,[]⟩) []:=⟨by decide,by decide,by decide,by decide,by simp [repOf],by simp [repOf],by simp,by simp⟩;unfold bytR repB;rw [if_pos h];have b:numB 7=[7]:=numB_lt (by decide);have c:numB 0=[0]:=numB_lt (by decide);have d:numB 1=[1]:=numB_lt (by decide);simp [encR,repOf,numsB,hitsB,b,c,d]
theorem tick7b:tickS g0 c0 ⟨[],h0 1⟩=(⟨[],[none]⟩,[[7,0,1,1,0]]):=by
 have e:(h0 1).getD 0 none=some (x7,1):=rfl;have hd:doneL g0 x7.q (sts g0 x7.q (0:Nat) (1+1)) (mls g0 x7.q (0:Nat) (1+1))=(⟨true,1,[]⟩,true):=done7;have b:=zCt (g:=g0) (c:=c0) e (by decide) (by rw [hd]);obtain⟨q1,q2⟩:=b;have q3:=(zEB (g:=g0) (c:=c0) (h0 1) 0).1;rw [q1,hd] at q3;have q4:(stepS g0 c0 (h0 1) 0).2=some [7,0,1,1,0]:=by rw [q3,<-enc7];rfl
 exact zJd (h:=h0 1) rfl rfl q2 q4
theorem tick7c:tickS g0 c0 ⟨[],[none]⟩=(⟨[],[none]⟩,[]):=rfl
theorem live7:((List.range 1).map λk=>(liveW g0 1 [none] k:Int))=[0]:=by decide
theorem zJ4{w:World}:Sp PP 50 #[] w λv w'=>v=agg (⟨1,1,1,9,9⟩:RCfg)/\Stp w w':=by
 refine eN ?_;refine ral λb w1 n1 d=>rbuild (cs:=enc (⟨1,1,1,9,9⟩:RCfg)) rfl (rE d (⟨1,1,1,9,9⟩:RCfg) λw2 c e=>?_);have c:Bk w2 b (enc (⟨1,1,1,9,9⟩:RCfg)) 23:=c;have f:Stp w w2:=⟨Fr.st (lE w w1) e λi hi=>by subst hi;exact n1.lo⟩;refine rresG (B:=c) rfl ?_;exact⟨rfl,f⟩
theorem SrvP.stw{w:World}{bs:Nat}{c:CfD}{s:SvD}(S:SrvP R B w bs g c s)(f:Fr R w w')(h:u.heap.size<=B):Stw u w w':=f.stw λi hi=>Qw h ((SrvX.reg S).1 i hi).1
theorem zEP{w:World}:Sp PP 12 #[] w λv w'=>v=.bool true/\Stp w w':=by
 refine eN ?_;refine rcall zJ4 ?_;rintro _ w1 ⟨rfl,e1⟩;refine rcall (zBH (x:=⟨1,1,1,9,9⟩) (f:=im0) (by decide)) ?_;rintro _ w2 ⟨⟨A,_⟩|⟨_,hi,_⟩|⟨g,bs,A,hi,rfl,o⟩,e2⟩
 case' inl=>exact absurd (show cfgOk ⟨1,1,1,9,9⟩ by unfold cfgOk;decide) A
 case' inr.inl=>exact absurd (im0_g.symm.trans hi) (by simp)
 have c:g=g0:=QL (hi.symm.trans im0_g);obtain rfl:=c;have p:cfOf ⟨1,1,1,9,9⟩=c0:=rfl;rw [p] at o;have z2:=e2.e.size;refine rpnil (iF (· rfl) ?_);have C:=zCb (f:=[7,1,0,1]) o z2 (by decide);rw [come7] at C;refine rcall C ?_;rintro _ E ⟨rfl,G,H⟩;have z3:=H.size;have t3:Stw w1 w2 E:=o.stw H (Qe _);have I:=zCb (f:=[8,1,0,1]) G (by omega) (by decide);rw [come8] at I;refine rcall I ?_;rintro _ J ⟨rfl,K,L⟩;have z4:=L.size;have t4:Stw w1 E J:=G.stw L (Qe _);have M:=zBv (ps:=[]) K (by omega) λu _=>SlF.nil u;rw [tick7a] at M;refine rcall M ?_;rintro _ N ⟨R5,O5,_,O,_,Q⟩;have z5:=Q.size;have t5:Stw w1 J N:=K.stw Q (Qe _);have S:=zBv (ps:=[]) O (by omega) λu _=>SlF.nil u;rw [tick7b] at S;refine rcall S ?_;rintro _ T ⟨R6,O6,d,U,_,V⟩;have z6:=V.size;have t6:Stw w1 N T:=O.stw V (Qe _);have W:=zBv (ps:=[]) U (by omega) λu _=>SlF.nil u;rw [tick7c] at W;refine rcall W ?_;rintro _ r ⟨R7,O7,_,S7,_,t⟩;have z7:=t.size;have t7:Stw w1 T r:=U.stw t (Qe _);have l:=O6.fr t λb _ hb=>(d b hb).2;have c:=O5.shape;obtain⟨a5,c5,rfl⟩:=c;have c:=l.shape;obtain⟨a6,c6,rfl⟩:=c;have c:=O7.shape;obtain⟨a7,c7,rfl⟩:=c;refine rbuild (cs:=enc (⟨0,0,0,0,0⟩:RCfg)) rfl ?_;have X:¬cfgOk ⟨0,0,0,0,0⟩:=by unfold cfgOk;decide
 have D8:Sp PP 10 #[agg (⟨0,0,0,0,0⟩:RCfg),txt []] r λv w'=>v=.tuple #[.pointer none,.int .i64 1]/\Stp r w':=(zBH (x:=⟨0,0,0,0,0⟩) (f:=[]) (by decide)).mono λv w' h=>by
  obtain⟨h,e⟩:=h;refine⟨?_,e⟩;rcases h with ⟨_,h⟩|⟨h,_⟩|⟨_,_,h,_⟩
  ·exact h
  ·exact absurd h X
  ·exact absurd h X
 refine rcall D8 ?_;rintro _ Y ⟨rfl,e8⟩;refine rseq (λ_=>?_) (λh=>absurd rfl h);refine iT (by simp) (iT (by simp) (rix (i:=0) (l.sl.up (w':=Y)) (x:=bsOf [7,0,1,1,0]) rfl λb9 o9 A9=>rload1 (A9.cell0 rfl) (rseq (λ_=>?_) (λh=>absurd rfl h))));refine iT (by simp) (rpnil (iT rfl ?_));have Z:=zCc (S7.up (w':=Y));rw [show (List.range c0.workers).map (λk=>(liveW g0 c0.workers (⟨[],[none]⟩:SvD).held k:Int))=[0] from live7] at Z;refine rcall Z ?_;rintro _ w9 ⟨O9,e9⟩;have c:=O9.shape;obtain⟨a9,c9,rfl⟩:=c;refine rbs1 (0:Int) rfl rfl (by decide) λa0 y a1 _ z=>rcall ((zA0 (O9.sl.up (w':=y)) z (by simp)).tt rfl) ?_;rintro _ a2 ⟨rfl,a4⟩;exact⟨rfl,stp⟩
structure REv where
 tick:Bool
 frame:List UInt8
 picks:SV
instance:Enc REv:=⟨3,λx=>[.bool x.tick,txt x.frame,.slice x.picks.a x.picks.n x.picks.c],λ_=>rfl,by intro x u hu;simp at hu;rcases hu with rfl|rfl|rfl <;> rfl,by decide⟩
def EvsM (w:World) (l:List REv):Prop:=∀y∈l,∃ps:List Int,SlF w y.picks.v ps
def EvsS (l:List REv):Prop:=l.length<=80/\∀y∈l,y.frame.length<=300/\y.picks.n<=60
theorem zNn{c:Nat}{l:List REv}{w:World}(h:SlF w (.slice a n c) l):Sp PP 39 #[.slice a n c] w λv w'=>(v=.bool true\/(v=.bool false/\EvsS l))/\Stp w w':=by
 have p:=h.len;obtain rfl:=p;refine eN ?_;refine cnt TBok 4 [2] 3 l.length (λk u=>(k=0\/l.length<=80)/\(∀y∈l.take k,y.frame.length<=300/\y.picks.n<=60)/\Stp w u) rfl rfl ⟨.inl rfl,by simp,stp⟩ ?_;rintro k g u G ⟨r,e,f⟩
 have fin:(l.length<=80->k=l.length)->IteC ((80:Int)<l.length) ((Value.bool true=Value.bool true\/(Value.bool true=Value.bool false/\EvsS l))/\Stp w u) ((Value.bool false=Value.bool true\/(Value.bool false=Value.bool false/\EvsS l))/\Stp w u):=by
  intro t;refine ite (λh=>⟨.inl rfl,f⟩) (λh=>⟨.inr ⟨rfl,by omega,?_⟩,f⟩);have:=t (by omega);subst this;simpa using e
 refine ite (λhlt=>?_) (λx=>?_)
 ·refine ite (λz=>?_) (λz=>?_)
  ·have d:k<l.length:=by omega
   have hi:l[k]? = some l[k]:=by simp
   refine rix (i:=k) (h.up (w':=u)) hi λH I A=>rload1 (A.cell 1 rfl) (ite (λo=>?_) (λo=>?_))
   ·exact⟨.inl rfl,stp⟩
   ·refine rix (i:=k) (h.up (w':=u)) hi λJ K C=>rload1 (C.cell 2 rfl) (ite (λE=>?_) (λE=>?_))
    ·exact⟨.inl rfl,stp⟩
    ·refine rA ⟨rfl,d,.inr (by omega),λy b=>?_,stp⟩;rw [List.take_add_one,hi] at b;simp only [Yb,Qf,Qc] at b;rcases b with b|rfl
     ·exact e y b
     ·rw [zAd] at o;constructor <;> omega
  ·exact fin (by omega)
 ·exact fin (by omega)
theorem zNa{x:RCfg}{p:List UInt8}{c:Nat}{l:List REv}{w:World}(h:SlF w (.slice a n c) l):
  Sp PP 9 #[agg x,txt p,.slice a n c] w λv w'=>(v=.bool true\/(v=.bool false/\EvsS l/\p.length<=400))/\Stp w w':=by
 have r:=h.len;obtain rfl:=r;refine eN ?_;refine rbx λb w1 n1 f=>rX f rfl ?_;have d:Sp PP 39 #[.slice a l.length c] w1 λv w'=>(v=.bool true\/(v=.bool false/\EvsS l))/\Stp w1 w':=zNn h.up;refine ite (λt=>?_) (λt=>?_)
 ·exact⟨.inl rfl,stp⟩
 ·refine rX f rfl (ite (λy=>?_) (λy=>?_))
  ·refine rX f rfl (ite (λz=>?_) (λz=>?_))
   ·exact⟨.inl rfl,stp⟩
   ·refine ite (λe=>?_) (λe=>?_)
    ·exact⟨.inl rfl,stp⟩
    ·refine rcall d ?_;rintro v w2 ⟨rfl|⟨rfl,o⟩,A⟩
     ·exact⟨.inl rfl,stp⟩
     ·rw [zAd] at e;exact⟨.inr ⟨rfl,o,by omega⟩,stp⟩
  ·refine ite (λe=>?_) (λe=>?_)
   ·exact⟨.inl rfl,stp⟩
   ·refine rcall d ?_;rintro v w2 ⟨rfl|⟨rfl,o⟩,A⟩
    ·exact⟨.inl rfl,stp⟩
    ·rw [zAd] at e;exact⟨.inr ⟨rfl,o,by omega⟩,stp⟩
set_option maxRecDepth 100000
set_option warn.classDefReducibility false
variable {B i j k m n n3:Nat} {D R:Nat -> Prop} {P:Program} {a a3:Option Addr} {g:GrD} {ps:List Int} {q:QyD} {s:List UInt8} {u u' w' w1 w2:World}
noncomputable instance:Rd PP 9 ByteArray:=rdStr (by kernel_rfl) (by kernel_rfl)
noncomputable instance:Rd PP 4 Bool:=rdBool (by kernel_rfl) (by kernel_rfl)
noncomputable instance:Rd PP 34 SV:=rdSl (α:=Int) (e:=3) (by kernel_rfl) (by kernel_rfl)
noncomputable instance:Rd PP 23 RCfg where
 G _ _:=True
 cells:=by kernel_rfl
 rd:=by
  intro H eH w sp fuel cs x hx
  have q_:=zI3 (P:=PP) (t:=23) (fl:=[(3,0,1),(3,1,1),(3,2,1),(3,3,1),(3,4,1)]) (n:=5) (by kernel_rfl) hx
  obtain⟨hl,hf⟩:=q_
  have q_:=zBq (P:=PP) (α:=Int) hf 0 rfl
  obtain⟨a0,h0,_⟩:=q_
  have q_:=zBq (P:=PP) (α:=Int) hf 1 rfl
  obtain⟨a1,h1,_⟩:=q_
  have q_:=zBq (P:=PP) (α:=Int) hf 2 rfl
  obtain⟨a2,h2,_⟩:=q_
  have q_:=zBq (P:=PP) (α:=Int) hf 3 rfl
  obtain⟨a3,h3,_⟩:=q_
  have q_:=zBq (P:=PP) (α:=Int) hf 4 rfl
  obtain⟨a4,h4,_⟩:=q_
  refine⟨⟨a0,a1,a2,a3,a4⟩,?_,trivial⟩
  have:=tile h0 (tile h1 (tile h2 (tile h3 (tile h4 (tile0 hl) rfl) rfl) rfl) rfl) rfl
  rw [List.drop_zero] at this
  rw [this];simp [enc]
noncomputable instance:Rd PP 36 REv where
 G w y:=∃l:List Int,SlF w y.picks.v l
 cells:=by kernel_rfl
 rd:=by
  intro H eH w sp fuel cs x hx
  have q_:=zI3 (P:=PP) (t:=36) (fl:=[(4,0,1),(9,1,1),(34,2,1)]) (n:=3) (by kernel_rfl) hx
  obtain⟨hl,hf⟩:=q_
  have q_:=zBq (P:=PP) (α:=Bool) hf 0 rfl
  obtain⟨a0,h0,_⟩:=q_
  have q_:=zBq (P:=PP) (α:=ByteArray) hf 1 rfl
  obtain⟨a1,h1,_⟩:=q_
  have q_:=zBq (P:=PP) (α:=SV) hf 2 rfl
  obtain⟨a2,h2,g2⟩:=q_
  obtain⟨l,hl2,_⟩:=g2
  refine⟨⟨a0,a1.data.toList,a2⟩,?_,l,hl2⟩
  have:=tile h0 (tile h1 (tile h2 (tile0 hl) rfl) rfl) rfl
  rw [List.drop_zero] at this
  rw [this];simp [enc]
theorem w_tail{H:Type}{t:TypeId}{ts:List TypeId}{d:DataW H}{r:List (DataW H)}{p:Nat->Bool}(h:(DataW.weightsEach P (t::ts) (d::r)).all p=true):(d.weights P t).all p=true/\(DataW.weightsEach P ts r).all p=true:=by
 simpa only [DataW.weightsEach,List.all_append,Qz] using h
theorem zPt{W:World}{b:Nat}{v:Value}{H:Type}{e:TypeId×Value->H}{d:DataW H}{ps:List MemPlace}(h:Value.okWide PP W .any b 23 v)(f:DataW.Trod e PP W 0 (λ_=>true) true 23 v d ps):
  ∃x:RCfg,v=agg x:=by
 obtain⟨c,l⟩:=f;have o:=Rd.rd (P:=PP) (t:=23) (α:=RCfg) l;obtain⟨r,p,_⟩:=o;exact⟨r,zPs h (by kernel_rfl) p⟩
theorem zPv{W:World}{b:Nat}{v:Value}{H:Type}{p:TypeId×Value->H}{d:DataW H}{ps:List MemPlace}(h:Value.okWide PP W .any b 9 v)(r:DataW.Trod p PP W 0 (λ_=>true) true 9 v d ps)
  (c:(d.weights PP 9).all (·<=reachBytes)=true):∃f:List UInt8,v=txt f/\f.length<=4611686018427387904:=by
 obtain⟨o,w⟩:=r;have x:=DataW.trod_string (P:=PP) (t:=9) (by kernel_rfl) w;obtain⟨s,y,e,_⟩:=x;refine⟨s.data.toList,zL6 h (by kernel_rfl) y,?_⟩;have hd:d=.lit (.string s.data.toList):=congrArg Prod.fst e;rw [hd] at c;simp only [DataW.weights,Ye,List.all_nil,Bool.and_true] at c;have z:=of_decide_eq_true c;have l:reachBytes=140737488351232:=rfl;rw [l] at z;omega
theorem zPu{W:World}{b:Nat}{v:Value}{H:Type}{o:TypeId×Value->H}{d:DataW H}{ps:List MemPlace}(h:Value.okWide PP W .any b 24 v)(p:DataW.Trod o PP W 0 (λ_=>true) true 24 v d ps):
  ∃a n c,∃l:List REv,v=.slice a n c/\SlF W (.slice a n c) l/\EvsM W l:=by
 obtain⟨f,r⟩:=p;have t:=zKL (P:=PP) (α:=REv) (e:=36) (by kernel_rfl) r;obtain⟨a,n,c,l,w,x,y,_⟩:=t;exact⟨a,n,c,l,zL6 h (by kernel_rfl) w,x,y⟩
section
variable {g:GrD} {c:CfD}
theorem zPK(h:Hs):(idsH h).length<=h.length:=List.length_filterMap_le _ _
theorem zJ2{s:SvD}(h:SvOk g c s):(idsH s.held).length<=c.slots/\(idsW s.wait).length<=c.queue:=by
 refine⟨?_,?_⟩
 ·have:=zPK s.held;rw [h.len] at this;exact this
 ·unfold idsW;rw [Qr];exact h.wl
end
section
variable {R R' R2:Nat->Prop} {B B2:Nat} {u u' w w':World} {bs bt:Nat} {g:GrD} {c:CfD} {s t:SvD}
theorem zOj{x:RCfg}{f:List UInt8}(l:f.length<=4611686018427387904)(o:cfgOk x)(hi:imgOf f=some g):
  Sp PP 10 #[agg x,txt f] w λv w'=>(∃bs,v=.tuple #[.pointer (some ⟨bs,0,none⟩),.int .i64 0]/\SrvP (λi=>w.heap.size<=i/\i<w'.heap.size) w.heap.size w' bs g (cfOf x) (newS (cfOf x)))/\Stp w w':=
 (zBH l).mono λv w' ⟨h,e⟩=>⟨by
  rcases h with ⟨d,_⟩|⟨_,d,_⟩|⟨p,bs,_,b,rfl,S⟩
  ·exact absurd o d
  ·rw [hi] at d;cases d
  ·rw [hi] at b;cases b;exact⟨bs,rfl,S⟩,e⟩
theorem zIW(b:∀i,R' i->gR R u u' i)(f:Fr R u u')(T:SrvP R2 B2 u bt g c t)(hd:∀i,R i->¬R2 i):SrvP R2 B2 u' bt g c t/\∀i,R' i->¬R2 i:=by
 refine⟨T.away f hd,λi hi d=>?_⟩;have l:=(SrvX.reg T).1 i d;have h:=b i hi;rcases h with e|e
 ·exact hd i e d
 ·omega
theorem SrvP.ok(S:SrvP R B w bs g c s):GrIs g/\CfOk c/\SvOk g c s:=(SrvX.reg S).2
theorem SrvP.frB(S:SrvP R B w bs g c s)(f:Fr R w w'):Fr (λi=>B<=i) w w':=f.mono λi _ hi=>((SrvX.reg S).1 i hi).1
theorem zPi(S:SrvP R B w bs g c s):((tickS g c s).2).length<=64:=by
 have d:=S.ok;obtain⟨_,b,h⟩:=d;have f:=zCN (g:=g) (c:=c) (usedS (admitS s.wait s.held).2) (admitS s.wait s.held).2;have l:(usedS (admitS s.wait s.held).2).length<=(admitS s.wait s.held).2.length:=zCQ _ _;have e:=(zJH b s.wait s.held h).1.len;have o:=b.slots.2;dsimp only at e;show (stepsS g c _ _).2.length<=64;omega
end
theorem zAs{A:Nat}{w:World}(l:s.length<=4611686018427387904):Sp PP 98 #[txt s,.int .i64 (A:Int)] w λv w' =>
  ((∃n d:Nat,RdsV rdN s A n d/\v=.tuple #[.int .i64 (n:Int),.int .i64 (d:Int),.bool true])\/(rdN (s.drop A)=none/\v=.tuple #[.int .i64 0,.int .i64 0,.bool false]))/\Stp w w':=
 (zCE l).mono λv w' ⟨h,f⟩=>⟨by
  rcases h with ⟨o,n,e,b,c⟩|⟨b,c⟩
  ·have p:o=A:=by omega
   obtain rfl:=p;exact .inl ⟨n,_,rdn_of b,c⟩
  ·exact .inr ⟨rdn_no λn=>b A n rfl,c⟩,f⟩
theorem zDs{A:Nat}{w:World}(h:s.length<=4611686018427387904):Sp PP 168 #[txt s,.int .i64 (A:Int)] w λv w' =>
  ((∃x f,RdsV rdT s A x f/\v=.tuple #[txt x,.int .i64 ((f:Nat):Int),.bool true])\/(rdT (s.drop A)=none/\v=.tuple #[txt [],.int .i64 0,.bool false]))/\Stp w w':=by
 refine eN ?_;refine rcall (zAs h) ?_;rintro v w1 ⟨⟨n,b,c,rfl⟩|⟨d,rfl⟩,r⟩
 case' inr=>exact⟨.inr ⟨zKJ d,rfl⟩,stp⟩
 have t:=rdN_le c.2;have e:=zKK c.2;have l:=c.1;have C:=zAd s;refine ite (λo=>⟨.inr ⟨by rw [e,if_neg (by omega)],rfl⟩,stp⟩) (λo=>?_);refine rA (ite (λp=>⟨.inr ⟨by rw [e,if_neg (by rw [QR];omega)],rfl⟩,stp⟩) (λp=>?_));refine rarE (y:=((b+n:Nat):Int)) (by omega) (by omega) (rssl rfl rfl (by omega) (by omega) ?_);refine rarE (y:=((b+n:Nat):Int)) (by omega) (by omega) ?_;refine⟨.inl ⟨(s.drop b).take n,b+n,⟨by omega,?_⟩,?_⟩,stp⟩
 ·rw [e,if_pos ⟨by omega,by rw [QR];omega⟩,VZ]
 ·exact congrArg (λz:ByteArray=>Value.tuple #[.string z,.int .i64 ((b+n:Nat):Int),.bool true]) ((zA7 s b (b+n)).trans (by rw [show b+n - b=n by omega]))
theorem zFt{A:Nat}{w:World}(y:s.length<=4611686018427387904):Sp PP 167 #[txt s,.int .i64 (A:Int)] w (RowV s A w):=by
 refine eN ?_;refine rcall (zAs y) ?_;rintro v w1 ⟨⟨n,z,o,rfl⟩|⟨c,rfl⟩,T⟩
 case' inr=>exact⟨.inr ⟨zEs c,rfl⟩,stp⟩
 have U:=rdN_le o.2;have l:=zHO o.2;have p:=o.1;refine ite (λC=>⟨.inr ⟨by rw [l,if_neg (by omega)],rfl⟩,stp⟩) (λC=>?_);rw [if_pos (by omega)] at l
 refine cnt2 TBok 12 [4,5,6] 8 10 11 n (λk G H u=>∃b d,b.length=k/\d<=s.length/\G=.int .i64 ((d:Nat):Int)/\Own w.heap.size 3 u H (intsN b)/\preR b (rdMany rdN (n - k) (s.drop d))=rdMany rdN n (s.drop z)/\Stp w u) rfl rfl
  ⟨[],z,rfl,p,rfl,Own.nil _ _ _,by rw [zBL,JF],stp⟩ ?_
 rintro k _ v g u V ⟨b,d,I,r,rfl,O,t,e⟩;refine ite (λh=>?_) (λh=>?_)
 ·refine rcall (zAs y) ?_;rintro _ W ⟨⟨m,J,f,rfl⟩|⟨c,rfl⟩,X⟩
  case' inr =>
   refine⟨.inr ⟨?_,rfl⟩,stp⟩;rw [l,<-t,show n - k=(n - (k+1))+1 by omega,zA4 c];rfl
  refine rbs1 (m:Int) rfl rfl (by decide) λY K Z _ L=>rapp1 (u:=w) ⟨rfl,rfl⟩ (O.up (w':=K)) L (by simp [intsN];omega) λM N Q f5 s5=>?_;have x:Own w.heap.size 3 N M (intsN (b++[m])):=by rw [show intsN (b++[m])=intsN b++[(m:Int)] by simp [intsN]];exact Q
  refine rA ⟨rfl,by omega,b++[m],J,by simp [I],f.1,rfl,x,?_,stp⟩;rw [<-t,show n - k=(n - (k+1))+1 by omega,zAD f.2]
 ·have S:k=n:=by omega
  obtain rfl:=S;refine⟨.inl ⟨b,d,v,⟨r,?_⟩,rfl,O⟩,stp⟩;rw [l,<-t,JN];simp [rdMany,preR]
def textB (s:ByteArray):List UInt8:=numB s.size++s.data.toList
def rowB (l:List Nat):List UInt8:=numB l.length++l.flatMap numB
theorem zJc{s:ByteArray}(h:s.size<=4000):(textB s).length<=4005:=by
 have b:s.data.toList.length=s.size:=Vc;have:=zAm (n:=s.size) (by omega);unfold textB;rw [Qb];omega
theorem zBo{w:World}(h:n<=2147483647):Sp PP 166 #[.int .i64 (n:Int)] w λv w'=>v=.tuple #[txt (numB n),.int .i64 0]/\Stp w w':=
 zBF.mono λ_ _ b=>⟨by rw [b.1];unfold numV;rw [if_pos (by omega)];rfl,b.2⟩
theorem zGq{s:ByteArray}{w:World}(c:s.size<=4000):Sp PP 171 #[.string s] w λv w'=>v=.tuple #[txt (textB s),.int .i64 0]/\Stp w w':=by
 have d:s.data.toList.length=s.size:=Vc;have e:=zAm (n:=s.size) (by omega);refine eN ?_;refine iF (by omega) (rcall (zBo (n:=s.size) (by omega)) ?_);rintro _ w1 ⟨rfl,f⟩;refine rsadd (by rw [zAd];omega) ?_
 have b:(⟨(numB s.size).toArray⟩:ByteArray)++s=⟨(textB s).toArray⟩:=by
  have:=zAB (numB s.size) s.data.toList;rw [Jz] at this;exact this
 exact⟨congrArg (λz:ByteArray=>Value.tuple #[.string z,.int .i64 0]) b,stp⟩
theorem zN8{l:List Nat}(h:k<l.length):(l.take (k+1)).flatMap numB=(l.take k).flatMap numB++numB l[k]:=by rw [take_add h,Jl];simp
theorem zIG{l:List Nat}(h:∀n∈l,n<=2147483647):(l.flatMap numB).length<=5*l.length:=by
 induction l with
 |nil=>simp
 |cons n r b =>
  rw [JV,Qb,QA];have:=zAm (h n (by simp));have:=b λm c=>h m (by simp [c]);omega
theorem zIc{c:Nat}{l:List Nat}{w:World}(h:SlF w (.slice a n c) (intsN l))(E:l.length<=4000)(r:∀x∈l,x<=2147483647):Sp PP 169 #[.slice a n c] w λv w'=>v=.tuple #[txt (rowB l),.int .i64 0]/\Stp w w':=by
 have f:(intsN l).length=l.length:=by simp [intsN]
 have o:=h.len;obtain rfl:=o;rw [f] at h ⊢;have G:=zAm (n:=l.length) (by omega);refine eN ?_;refine iF (by omega) (rcall (zBo (n:=l.length) (by omega)) ?_);rintro _ w1 ⟨rfl,H⟩;refine cnt1 TBok 7 [2,3] 4 6 l.length (λk v u=>v=txt (numB l.length++(l.take k).flatMap numB)/\Stp w u) rfl rfl ⟨(congrArg txt (QE (numB l.length))).symm,stp⟩ ?_;rintro k _ g u I ⟨rfl,e⟩;refine ite (λhlt=>?_) (λt=>?_)
 ·have b:k<l.length:=by omega
  have d:=r l[k] (Qa _);have y:=zIG (l:=l.take k) λx d=>r x (Vu d);rw [Qm] at y;have A:=zAm d;refine rix (h.up (w':=u)) (x:=(l[k]:Int)) (by simp [intsN,b]) λJ K C=>rload1 (C.cell0 rfl) (rcall (zBo d) ?_);rintro _ L ⟨rfl,M⟩;refine iF (· rfl) (rsadd (by simp only [zAd,Qb];omega) ?_);have p:(⟨(numB l.length++(l.take k).flatMap numB).toArray⟩:ByteArray)++⟨(numB l[k]).toArray⟩=⟨(numB l.length++(l.take (k+1)).flatMap numB).toArray⟩:=by rw [zAB,zN8 b,Qp]
  exact rA ⟨rfl,b,congrArg Value.string p,stp⟩
 ·have o:k=l.length:=by omega
  obtain rfl:=o;have p:numB l.length++(l.take l.length).flatMap numB=rowB l:=by rw [Qg];rfl
  exact⟨congrArg (λz=>Value.tuple #[txt z,.int .i64 0]) p,stp⟩
theorem zIA:∀a b:List UInt8,Op.bytesLess a b=true↔a<b
 |[],[]=>by simp [Op.bytesLess]
 |[],_::_=>by simp [Op.bytesLess]
 |_::_,[]=>by simp [Op.bytesLess]
 |a::xs,b::ys=>by
  have d:=zIA xs ys;unfold Op.bytesLess;rw [List.cons_lt_cons_iff];by_cases h:a<b
  ·simp [h]
  ·by_cases c:a=b
   ·simp [c,d]
   ·simp [h,c]
theorem zMa{a b:ByteArray}:Op.bytesLess a.toList b.toList=true↔ltW a b:=by
 rw [Xs,Xs];exact zIA _ _
section
variable {P:Program} {k:Value->World->Prop} {pn:List PanicEntry->World->Prop} {w:World} {t:TypeId} {x y:Operand} {a b:ByteArray}
theorem zLW(w:World):(do eqGuard .lss t x y (.string a) (.string b);binOp .lss t (.string a) (.string b):Sem Value).run P w=.ok (.bool (Op.bytesLess a.toList b.toList)) w:=by
 rw [Qo,zBB];simp [binOp_string_lss]
theorem zLV(w:World):(do eqGuard .geq t x y (.string a) (.string b);binOp .geq t (.string a) (.string b):Sem Value).run P w=.ok (.bool (!(Op.bytesLess a.toList b.toList))) w:=by
 rw [Qo,zBB];simp [binOp,Op.stringOp]
theorem tslt{k:Value->Prop}(c:ltW a b->k (.bool true))(d:¬ltW a b->k (.bool false)):TakeS P (do eqGuard .lss t x y (.string a) (.string b);binOp .lss t (.string a) (.string b)) D k w:=
 zEG _ (λw'=>zLW w') zMa c d
theorem tsge{k:Value->Prop}(c:¬ltW a b->k (.bool true))(d:ltW a b->k (.bool false)):TakeS P (do eqGuard .geq t x y (.string a) (.string b);binOp .geq t (.string a) (.string b)) D k w:=
 zEG _ (λw'=>zLV w') (zFQ zMa) c λh=>d (Q2.1 h)
end
theorem zGs{s:ByteArray}{w:World}(A:s.size<=1000000):Sp PP 134 #[.string s] w λv w'=>Tells (WordB s) v/\Stp w w':=by
 have C:s.data.toList.length=s.size:=Vc;refine eN ?_;refine cnt TBok 4 [2] 3 s.size (λk u=>(∀c∈s.data.toList.take k,97<=c.toNat/\c.toNat<=122)/\Stp w u) rfl rfl ⟨by simp,stp⟩ ?_;rintro k g u E ⟨b,e⟩;refine ite (λhlt=>?_) (λy=>?_)
 ·have d:k<s.data.toList.length:=by omega
  have x:¬(97<=s.data.toList[k].toNat/\s.data.toList[k].toNat<=122)->¬WordB s:=λh z=>h (z.1 _ (Qa _));refine rsidx (c:=s.data.toList[k]) (Qd d) (ite (λo=>⟨.f (x (by omega)),stp⟩) (λo=>?_));refine rsidx (c:=s.data.toList[k]) (Qd d) (ite (λp=>⟨.f (x (by omega)),stp⟩) (λp=>?_));refine rA ⟨rfl,by omega,λt l=>?_,stp⟩;rw [take_add d] at l;have r:=Qf.1 l;rcases r with l|l
  ·exact b t l
  ·rw [Qc.1 l];omega
 ·have r:k=s.size:=by omega
  obtain rfl:=r;rw [Qj (by omega)] at b;refine ite (λo=>?_) (λo=>⟨.f (λh=>o (by have:=h.2.1;omega)),stp⟩);exact ite (λp=>⟨.t ⟨b,by omega,by omega⟩,stp⟩) (λp=>⟨.f (λh=>p (by have:=h.2.2;omega)),stp⟩)
theorem zLu{a b:EdN}{w:World}:Sp PP 173 #[agg a,agg b] w λv w'=>Tells (ltE a b) v/\Stp w w':=by
 refine eN ?_;refine rbx λp w1 n1 c=>rbx λr w2 n2 d=>rX c rfl (rX d rfl ?_);refine ite (λe=>⟨.t (.inl (by omega)),stp⟩) (λe=>?_);refine rX c rfl (rX d rfl ?_);refine ite (λl=>?_) (λl=>⟨.f (λh=>by unfold ltE at h;omega),stp⟩);refine rX c rfl (rX d rfl ?_);exact ite (λo=>⟨.t (.inr ⟨by omega,by omega⟩),stp⟩) (λo=>⟨.f (λh=>by unfold ltE at h;omega),stp⟩)
theorem zKu{x:RGr}{vs:List SV}{w:World}(V:GrV w x g vs):Sp PP 172 #[agg x] w λv w'=>Tells (GrChk g) v/\Stp w w':=by
 have hn:=V.n;have X:=V.es.len;have Y:=V.ws.len;have Z:=V.rows.1;have o:=V.small;obtain⟨a0,a1,J⟩:=o;refine eN ?_;refine rbx λb w1 n1 p=>rX p rfl (ite (λh1=>⟨.f (λh=>by have:=h.n1;omega),stp⟩) (λh1=>?_));refine rX p rfl (ite (λh2=>⟨.f (λh=>by have:=h.n2;omega),stp⟩) (λh2=>?_));refine rX p rfl (ite (λh3=>⟨.f (λh=>by have:=h.ne;omega),stp⟩) (λh3=>?_));refine rX p rfl (rX p rfl ?_);refine ite (λh4=>⟨.f (λh=>by have:=h.nw;omega),stp⟩) (λh4=>?_);refine cnt TBok 4 [2] 3 g.es.length (λk u=>(∀e∈g.es.take k,e.f<g.n/\e.t<g.n)/\Stp w1 u) rfl rfl ⟨by simp,stp⟩ ?_;rintro k gf u hk ⟨r,e⟩;refine rX p rfl (ite (λhlt=>?_) (λK=>?_))
 ·have y:k<g.es.length:=by omega
  have I:¬(g.es[k].f<g.n/\g.es[k].t<g.n)->¬GrChk g:=λh L=>h (L.ed _ (Qa _));refine rX p rfl (rix (V.es.up (w':=u)) (x:=g.es[k]) (by simp) λM N A=>rloadA A rfl (ral λU w3 n3 z3=>rE z3 (g.es[k]) λW G f4=>?_));have s4:Stp u W:=n3.st f4;have G:Bk W U (enc g.es[k]) 159:=G;refine rX G rfl (iF (by omega) (rX G rfl (rX p rfl ?_)));refine ite (λO=>⟨.f (I (by omega)),stp⟩) (λO=>?_);refine rX G rfl (iF (by omega) (rX G rfl (rX p rfl ?_)));refine ite (λQ=>⟨.f (I (by omega)),stp⟩) (λQ=>?_);refine rA ⟨rfl,y,λt c=>?_,stp⟩;rw [take_add y] at c;have o:=Qf.1 c;rcases o with c|c
  ·exact r t c
  ·rw [Qc.1 c];omega
 have o:k=g.es.length:=by omega
 obtain rfl:=o;rw [Qg] at r;refine cnt TBok 6 [2] 5 g.n (λk u'=>(∀l∈g.ws.take k,l.length<=8/\∀s∈l,WordB s)/\Stp u u') rfl rfl ⟨by simp,stp⟩ ?_;rintro k gf u' hk ⟨d,e'⟩;refine rX p rfl (ite (λhlt=>?_) (λK=>?_))
 ·have y:k<vs.length:=by omega
  have z:k<g.ws.length:=by omega
  have I:¬(g.ws[k].length<=8/\∀s∈g.ws[k],WordB s)->¬GrChk g:=λh L=>h (L.word _ (Qa _));have R:=V.rows.2 k y z;have hl:=R.len;have a2:=J _ (Qa z);refine cnt TBok 7 [2] 6 g.ws[k].length (λj H=>(∀s∈g.ws[k].take j,WordB s)/\Stp u' H) rfl rfl ⟨by simp,stp⟩ ?_;rintro j a4 H hj ⟨S,e2⟩;refine rX p rfl (rix (V.ws.up (w':=H)) (x:=vs[k]) (by simp) λM N A=>rload1 (A.cell0 rfl) (ite (λa5=>?_) (λhgj=>?_)))
  ·have C:j<g.ws[k].length:=by omega
   refine rX p rfl (rix (V.ws.up (w':=H)) (x:=vs[k]) (by simp) λM N A=>rload1 (A.cell0 rfl) (rix (R.up (w':=H)) (x:=g.ws[k][j]) (by simp) λU o3 A3=>rload1 (A3.cell0 rfl) (rcall (zGs (V.words _ (Qa z) _ (Qa C))) ?_)));rintro _ u3 ⟨⟨rfl,T⟩|⟨rfl,T⟩,e3⟩
   case' inr=>exact⟨.f (I λh=>T (h.2 _ (Qa _))),stp⟩
   refine rA ⟨rfl,C,λt c=>?_,stp⟩;rw [take_add C] at c;have o:=Qf.1 c;rcases o with c|c
   ·exact S t c
   ·rw [Qc.1 c];exact T
  ·have o:j=g.ws[k].length:=by omega
   obtain rfl:=o;rw [Qg] at S;refine rX p rfl (rix (V.ws.up (w':=H)) (x:=vs[k]) (by simp) λM N A=>rload1 (A.cell0 rfl) (ite (λh7=>⟨.f (I (by omega)),stp⟩) (λh7=>?_)));refine rA ⟨rfl,by omega,λt c=>?_,stp⟩;rw [take_add z] at c;have o:=Qf.1 c;rcases o with c|c
   ·exact d t c
   ·rw [Qc.1 c];exact⟨by omega,S⟩
 ·have o:k=g.n:=by omega
  obtain rfl:=o;rw [Qj (by omega)] at d;exact⟨.t ⟨by omega,by omega,by omega,by omega,r,d⟩,stp⟩
theorem zHw{α:Type}{lt:α->α->Prop}{l:List α}(h:∀i (h:i+1<l.length),i<k->lt l[i] l[i+1])(f:k+1<l.length)(d:lt l[k] l[k+1]):∀i (h:i+1<l.length),i<k+1->lt l[i] l[i+1]:=λi hi e=>by
 have b:=QH i k;rcases b with c|c
 ·exact h i hi c
 ·have b:i=k:=by omega
  obtain rfl:=b;exact d
theorem zFv{x:RGr}{vs:List SV}{w:World}(V:GrV w x g vs):Sp PP 101 #[agg x] w λv w'=>Tells (GrIs g) v/\Stp w w':=by
 have hn:=V.n;have a0:=V.es.len;have a1:=V.ws.len;have a2:=V.rows.1;have C:=V.small;obtain⟨a4,a5,L⟩:=C;refine eN ?_;refine rbx λb w1 n1 o=>rG o x (rcall (zKu (V.up (w':=w1))) ?_);rintro _ w2 ⟨⟨rfl,J⟩|⟨rfl,J⟩,S⟩
 case' inr=>exact⟨.f (λh=>J h.chk),stp⟩
 have a6:=J.nw
 refine loop1 TBok 4 [2] 3 (λv u=>∃k:Nat,v=.int .i64 ((k:Int)+1)/\(k=0\/k+1<=g.es.length)/\(∀i (h:i+1<g.es.length),i<k->ltE g.es[i] g.es[i+1])/\Stp w1 u) (λv _=>g.es.length+1 - (Go.RowKit.intOf v).toNat) rfl
  ⟨0,rfl,.inl rfl,λi _ hi=>by omega,stp⟩ ?_
 rintro v g' u ⟨k,rfl,hk,p,e⟩;refine rX o rfl (ite (λhlt=>?_) (λM=>?_))
 ·have E:k+1<g.es.length:=by omega
  refine dQ 13 λz S=>tX o rfl nf (rarE (y:=((k:Nat):Int)) (by omega) (by omega) (tix (V.es.up (w':=z)) (x:=g.es[k]) (by simp) λT U G _=>tloadA G rfl nf (tX o rfl nf (tix (i:=k+1) (V.es.up (w':=z)) (x:=g.es[k+1]) (by simp) λb4 o4 A4 _=>tloadA A4 rfl nf (rcall zLu ?_)))));rintro _ u5 ⟨⟨rfl,r⟩|⟨rfl,r⟩,W⟩
  case' inr=>exact⟨W.e,⟨.f (λh=>r ((zAW ltE_tr).2 h.er k E)),stp⟩⟩
  refine⟨W.e,?_⟩;refine rA ⟨⟨k+1,rfl,.inr (by omega),zHw p E r,stp⟩,?_⟩;show g.es.length+1 - (((k:Int)+1+1)).toNat<g.es.length+1 - (((k:Int)+1)).toNat;omega
 have N:=(zAW ltE_tr).1 λi hi=>p i hi (by omega);refine cnt TBok 5 [2] 4 g.n (λk u'=>(∀l∈g.ws.take k,l.Pairwise ltW)/\Stp u u') rfl rfl ⟨by simp,stp⟩ ?_;rintro k gf u' hk ⟨c,e'⟩;refine rX o rfl (ite (λhlt=>?_) (λM=>?_))
 ·have O:k<vs.length:=by omega
  have d:k<g.ws.length:=by omega
  have R:=V.rows.2 k O d;have hl:=R.len;have a7:=L _ (Qa d)
  refine loop1 TBok 6 [2] 5 (λv z=>∃j:Nat,v=.int .i64 ((j:Int)+1)/\(j=0\/j+1<=g.ws[k].length)/\(∀i (h:i+1<g.ws[k].length),i<j->ltW g.ws[k][i] g.ws[k][i+1])/\Stp u' z) (λv _=>g.ws[k].length+1 - (Go.RowKit.intOf v).toNat) rfl
   ⟨0,rfl,.inl rfl,λi _ hi=>by omega,stp⟩ ?_
  rintro v g' z ⟨j,rfl,hj,X,S⟩;refine rX o rfl (rix (V.ws.up (w':=z)) (x:=vs[k]) (by simp) λY Z H=>rload1 (H.cell0 rfl) (ite (λa8=>?_) (λhgj=>?_)))
  ·have I:j+1<g.ws[k].length:=by omega
   refine dQ 18 λK e3=>tX o rfl nf (tix (V.ws.up (w':=K)) (x:=vs[k]) (by simp) λY Z H _=>tload1 (H.cell0 rfl) nf (rarE (y:=((j:Nat):Int)) (by omega) (by omega) (tix (R.up (w':=K)) (x:=g.ws[k][j]) (by simp) λT U G _=>tload1 (G.cell0 rfl) nf (tX o rfl nf (tix (V.ws.up (w':=K)) (x:=vs[k]) (by simp) λY Z H _=>tload1 (H.cell0 rfl) nf (tix (i:=j+1) (R.up (w':=K)) (x:=g.ws[k][j+1]) (by simp) λT U G _=>tload1 (G.cell0 rfl) nf (tsge (λr=>?_) (λr=>?_))))))))
   ·exact⟨.f (λh=>r ((zAW ltW_tr).2 (h.wr _ (Qa d)) j I)),stp⟩
   ·refine rA ⟨⟨j+1,rfl,.inr (by omega),zHw X I r,stp⟩,?_⟩;show g.ws[k].length+1 - (((j:Int)+1+1)).toNat<g.ws[k].length+1 - (((j:Int)+1)).toNat;omega
  ·have Q:=(zAW ltW_tr).1 λi hi=>X i hi (by omega);refine rA ⟨rfl,by omega,λt A=>?_,stp⟩;rw [take_add d] at A;have C:=Qf.1 A;rcases C with A|A
   ·exact c t A
   ·rw [Qc.1 A];exact Q
 ·have C:k=g.n:=by omega
  obtain rfl:=C;rw [Qj (by omega)] at c;exact⟨.t (zJC.2 ⟨J,N,c⟩),stp⟩
end Go.W
