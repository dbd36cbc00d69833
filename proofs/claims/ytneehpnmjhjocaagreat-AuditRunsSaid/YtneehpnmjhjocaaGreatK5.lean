/-
  Proved here: parts of this claim.
  Conditions: told at each.
-/
import Derived.Deep.Upon
import Derived.Test.YtneehpnmjhjocaaGreatK4
set_option maxHeartbeats 4000000
set_option linter.unusedVariables false
set_option linter.unusedSimpArgs false
namespace Go.W
open Go
variable {B N i j k m n n3:Nat} {D R:Nat -> Prop} {P:Program} {a a2 a3:Option Addr} {g:GrD} {ps:List Int} {q:QyD} {u u' w' w1 w2:World}
section
variable {g:GrD} {W:Nat} {h:Hs}
theorem zEM{slot:Int}{x:StD}(h:x∈sts g q slot i):x.key.slot=slot:=by
 have b:=zBy.1 h;obtain⟨j,_,h⟩:=b;exact(zA5.1 h).1
theorem zBs{o:Option (RqD×Nat)}{x:StD}(h:x∈sts1 g o k):x.key.slot=(k:Int):=by
 cases o with
 |none=>cases h
 |some p=>obtain⟨r,i⟩:=p;exact zEM h
theorem zEL(g:GrD)(o:Option (RqD×Nat))(k:Nat):SRis (sts1 g o k):=by
 cases o with
 |none=>exact .nil
 |some p=>obtain⟨r,i⟩:=p;exact zF9 _
theorem zG8{x:StD}:x∈allS g h↔∃k,k<h.length/\x∈sts1 g (h.getD k none) k:=by
 unfold allS;rw [VP];simp only [Q0]
theorem zOI(g:GrD)(h:Hs):SRis (allS g h):=by
 unfold allS;rw [SRis,XQ];refine⟨λk _=>zEL g _ k,?_⟩;exact List.pairwise_lt_range.imp λhlt x b y c=>.inl (by rw [zBs b,zBs c];omega)
theorem zB2{x:StD}(c:k<h.length)(e:x.key.slot=(k:Int)):x∈allS g h↔x∈sts1 g (h.getD k none) k:=by
 rw [zG8];constructor
 ·rintro⟨j,_,b⟩;have:=zBs b;have d:j=k:=by omega
  obtain rfl:=d;exact b
 ·exact λb=>⟨k,c,b⟩
theorem zBG{x:StD}{o:Option (RqD×Nat)}(d:k<h.length)(e:x.key.slot≠(k:Int)):x∈allS g (h.set k o)↔x∈allS g h:=by
 rw [zG8,zG8];simp only [Jc];constructor
 ·rintro⟨j,c,b⟩;have:=zBs b;rw [zAA d,if_neg (by rintro rfl;exact e this)] at b;exact⟨j,c,b⟩
 ·rintro⟨j,c,b⟩;have:=zBs b;refine⟨j,c,?_⟩;rw [zAA d,if_neg (by rintro rfl;exact e this)];exact b
def wkS (g:GrD) (W:Nat) (h:Hs) (k:Nat):List StD:=(allS g h).filter λx=>decide (homW W x.key.v=k)
theorem zAQ{x:StD}:x∈wkS g W h k↔x∈allS g h/\homW W x.key.v=k:=by simp [wkS]
theorem zBD(g:GrD)(W:Nat)(h:Hs)(k:Nat):SRis (wkS g W h k):=(zOI g h).filter _
theorem zM9(g:GrD)(W:Nat)(h:Hs)(k:Nat):(wkS g W h k).length=liveW g W h k:=rfl
def ButS (g:GrD) (W:Nat) (h:Hs) (k0:Nat) (Ls:Nat->List StD):Prop:=∀k,SRis (Ls k)/\∀x,x.key.slot≠(k0:Int)->(x∈Ls k↔x∈wkS g W h k)
theorem zOO(k0:Nat):ButS g W h k0 (wkS g W h):=λk=>⟨zBD g W h k,λ_ _=>Iff.rfl⟩
theorem ButS.drop{k0:Nat}{Ls:Nat->List StD}(H:ButS g W h k0 Ls)(b:k0<h.length)(k:Nat):dropS (Ls k) (k0:Int)=wkS g W (h.set k0 none) k:=by
 refine SRis.uniq ((H k).1.filter _) (zBD ..) λx=>?_;unfold dropS;rw [QC,decide_eq_true_eq,zAQ];constructor
 ·rintro⟨c,d⟩;have o:=zAQ.1 (((H k).2 x d).1 c);obtain⟨f,p⟩:=o;exact⟨(zBG b d).2 f,p⟩
 ·rintro⟨c,d⟩
  have l:x.key.slot≠(k0:Int):=λe=>by
   have f:=(zB2 (h:=h.set k0 none) (by simpa using b) e).1 c;rw [zAA b,if_pos rfl] at f;cases f
  exact⟨((H k).2 x l).2 (zAQ.2 ⟨(zBG b l).1 c,d⟩),l⟩
theorem of_wkS{k0:Nat}(e:k0<h.length)(k:Nat):ofS (wkS g W h k) (k0:Int)=(sts1 g (h.getD k0 none) k0).filter λx=>decide (homW W x.key.v=k):=by
 refine SRis.uniq ((zBD ..).filter _) ((zEL ..).filter _) λx=>?_;unfold ofS;simp only [QC,decide_eq_true_eq,zAQ];constructor
 ·rintro⟨⟨b,d⟩,c⟩;exact⟨(zB2 e c).1 b,d⟩
 ·rintro⟨b,d⟩;have c:=zBs b;exact⟨⟨(zB2 e c).2 b,d⟩,c⟩
theorem sts1_v{o:Option (RqD×Nat)}{x:StD}(h:x∈sts1 g o k):0<=x.key.v:=by
 cases o with
 |none=>cases h
 |some p =>
  obtain⟨r,i⟩:=p;have b:=zBy.1 h;obtain⟨j,_,h⟩:=b;have b:=zA5.1 h;obtain⟨_,_,_,v,c,_⟩:=b;omega
theorem zKm{v:Int}(b:1<=W):0<=homW W v/\homW W v<W:=by
 unfold homW;exact⟨Vs _ (by omega),VT _ (by omega)⟩
theorem of_all{k0:Nat}(c:k0<h.length)(d:1<=W):((List.range W).flatMap λk=>ofS (wkS g W h k) (k0:Int)).Perm (sts1 g (h.getD k0 none) k0):=by
 refine(JM ?_ (zEL ..).nodup).2 λx=>?_
 ·rw [Qx,XQ];refine⟨λk _=>?_,List.pairwise_lt_range.imp λhlt x f y l e=>?_⟩
  ·rw [<-Qx];exact((zBD ..).nodup).filter _
  ·subst e;have b:=(zAQ.1 (QC.1 f).1).2;have o:=(zAQ.1 (QC.1 l).1).2;omega
 ·rw [VP];simp only [of_wkS c,QC,decide_eq_true_eq,Q0];constructor
  ·rintro⟨k,_,b,_⟩;exact b
  ·intro b;have o:=zKm (W:=W) (v:=x.key.v) d;exact⟨(homW W x.key.v).toNat,by omega,b,by omega⟩
def KeepI (g:GrD) (W:Nat) (h:Hs) (l:List StD) (j:Nat) (Ls:Nat->List StD):Prop:=∀k,SRis (Ls k)/\∀x,x∈Ls k↔x∈wkS g W h k\/(x∈l.take j/\homW W x.key.v=k)
theorem zN6(l:List StD):KeepI g W h l 0 (wkS g W h):=λk=>⟨zBD ..,λx=>by simp⟩
variable {x0:RqD} {i k0 j:Nat} {Ls:Nat->List StD}
abbrev aftS (h:Hs) (k0:Nat) (x0:RqD) (i:Nat):Hs:=h.set k0 (some (x0,i+1))
theorem aft_at(b:k0<h.length){x:StD}(c:x.key.slot=(k0:Int)):x∈allS g (aftS h k0 x0 i)↔x∈sts g x0.q k0 (i+1):=by
 rw [zB2 (by simpa using b) c,zAA b,if_pos rfl];rfl
theorem zPQ(e:h.getD k0 none=some (x0,i)){x:StD}(b:x∈allS g h):x∈allS g (aftS h k0 x0 i):=by
 have c:=zAo e;obtain⟨d,_⟩:=c;by_cases f:x.key.slot=(k0:Int)
 ·rw [aft_at d f];rw [zB2 d f,e] at b;have c:=zBy.1 b;obtain⟨j,o,l⟩:=c;exact zBy.2 ⟨j,by omega,l⟩
 ·exact(zBG d f).2 b
theorem KeepI.sub(e:h.getD k0 none=some (x0,i))(H:KeepI g W h (sts g x0.q k0 (i+1)) j Ls){x:StD}(f:x∈Ls k):x∈wkS g W (aftS h k0 x0 i) k:=by
 have b:=zAo e;obtain⟨l,_⟩:=b;have b:=((H k).2 x).1 f;rcases b with d|⟨d,o⟩
 ·have b:=zAQ.1 d;obtain⟨c,p⟩:=b;exact zAQ.2 ⟨zPQ e c,p⟩
 ·have c:=Vu d;exact zAQ.2 ⟨(aft_at l (zEM c)).2 c,o⟩
theorem KeepI.but(H:KeepI g W h (sts g x0.q k0 (i+1)) j Ls):ButS g W h k0 Ls:=λk=>⟨(H k).1,λx b=>by
 rw [(H k).2];exact⟨λc=>c.elim id λd=>absurd (zEM (Vu d.1)) b,.inl⟩⟩
def updL (Ls:Nat->List StD) (k:Nat) (L:List StD):Nat->List StD:=λj=>if j=k then L else Ls j
theorem KeepI.put(e:h.getD k0 none=some (x0,i))(H:KeepI g W h (sts g x0.q k0 (i+1)) j Ls)(F:j<(sts g x0.q k0 (i+1)).length){x:StD}(G:(sts g x0.q k0 (i+1))[j]=x)(A:mayX x)(I:homW W x.key.v=k):
  ((putS' n (Ls k) x).2=140/\(putS' n (Ls k) x).1=Ls k/\n<liveW g W (aftS h k0 x0 i) k)\/((putS' n (Ls k) x).2≠140/\KeepI g W h (sts g x0.q k0 (i+1)) (j+1) (updL Ls k (putS' n (Ls k) x).1)):=by
 have o:=zAo e;obtain⟨O,_⟩:=o;have p:x∈sts g x0.q k0 (i+1):=G ▸ Qa F;have r:x∈wkS g W (aftS h k0 x0 i) k:=zAQ.2 ⟨(aft_at O (zEM p)).2 p,I⟩;have d:(sts g x0.q k0 (i+1)).take (j+1)=(sts g x0.q k0 (i+1)).take j++[x]:=by rw [QO F,G]
 unfold putS';rw [if_pos A]
 cases J:hasS (Ls k) x.key with
 |some y =>
  right;have o:=zI5 (H k).1 |>.1 J;obtain⟨K,C⟩:=o;have E:y=x:=(zBD ..).inj (H.sub e K) r C;subst E;refine⟨by dsimp only;decide,λc=>?_⟩;dsimp only;have s:updL Ls k (Ls k) c=Ls c:=by unfold updL;split <;> simp_all
  rw [s];refine⟨(H c).1,λz=>?_⟩;rw [(H c).2,d];constructor
  ·rintro(b|⟨b,f⟩)
   ·exact .inl b
   ·exact .inr ⟨QN _ b,f⟩
  ·rintro(b|⟨b,f⟩)
   ·exact .inl b
   ·have o:=Qf.1 b;rcases o with l|l
    ·exact .inr ⟨l,f⟩
    ·rw [Qc] at l;subst l;have:c=k:=by omega
     subst this;exact((H _).2 _).1 K
 |none =>
  have L:=zI4.1 J;dsimp only;by_cases M:n<=(Ls k).length
  ·left;rw [if_pos M];refine⟨rfl,rfl,?_⟩
   have Q:Ls k=(wkS g W (aftS h k0 x0 i) k).filter λy=>decide (y∈Ls k):=by
    refine SRis.uniq (H k).1 ((zBD ..).filter _) λz=>?_;rw [QC,decide_eq_true_eq];exact⟨λw=>⟨H.sub e w,w⟩,λw=>w.2⟩
   have l:((wkS g W (aftS h k0 x0 i) k).filter λy=>decide (y∈Ls k)).length<(wkS g W (aftS h k0 x0 i) k).length:=by
    rw [Xo];exact⟨x,r,by simpa using λA=>L x A rfl⟩
   rw [<-Q,zM9] at l;omega
  ·right;rw [if_neg M];refine⟨by dsimp only;decide,λc=>?_⟩;by_cases t:c=k
   ·subst t;have s:updL Ls c (insS x (Ls c)) c=insS x (Ls c):=if_pos rfl;rw [s];refine⟨zEu x (H c).1 L,λz=>?_⟩;rw [(zBV x _).mem_iff,Ql,(H c).2,d,Qf,Qc];constructor
    ·rintro(rfl|b|⟨b,f⟩)
     ·exact .inr ⟨.inr rfl,I⟩
     ·exact .inl b
     ·exact .inr ⟨.inl b,f⟩
    ·rintro(b|⟨b|b,f⟩)
     ·exact .inr (.inl b)
     ·exact .inr (.inr ⟨b,f⟩)
     ·exact .inl b
   ·have s:updL Ls k (insS x (Ls k)) c=Ls c:=if_neg t;rw [s];refine⟨(H c).1,λz=>?_⟩;rw [(H c).2,d,Qf,Qc];constructor
    ·rintro(b|⟨b,f⟩)
     ·exact .inl b
     ·exact .inr ⟨.inl b,f⟩
    ·rintro(b|⟨b|b,f⟩)
     ·exact .inl b
     ·exact .inr ⟨b,f⟩
     ·subst b;omega
theorem KeepI.end(e:h.getD k0 none=some (x0,i))(H:KeepI g W h (sts g x0.q k0 (i+1)) (sts g x0.q k0 (i+1)).length Ls):Ls=wkS g W (aftS h k0 x0 i):=by
 have b:=zAo e;obtain⟨d,_⟩:=b;funext k;refine SRis.uniq (H k).1 (zBD ..) λx=>⟨λc=>H.sub e c,λc=>?_⟩;rw [(H k).2,Qg];have b:=zAQ.1 c;obtain⟨f,l⟩:=b;by_cases o:x.key.slot=(k0:Int)
 ·exact .inr ⟨(aft_at d o).1 f,l⟩
 ·exact .inl (zAQ.2 ⟨(zBG d o).1 f,l⟩)
end
theorem zP5{c:CfD}{s:SvD}(h:SvOk g c s){x:RqD}(e:s.held.getD k none=some (x,i)):SvOk g c ⟨s.wait,s.held.set k none⟩:=by
 have b:=zAo e;obtain⟨f,o⟩:=b;refine⟨by simpa using h.len,h.wl,h.wait,λy j l=>?_,?_,zDW (zFq f) h.pool⟩
 ·have b:=zCd l;rcases b with d|d
  ·exact h.held y j d
  ·cases d
 ·have:=((zDs f e).append_right (idsW s.wait)).nodup_iff.2 h.ids;rw [VO,JC] at this;exact this.2
theorem zGq{α b:Type}{f:α->Option Int}{f':b->Option Int}{p:α->Bool}{c:b->Bool}{l:List α}{m:List b}{id:Int}(e:∀x,p x=decide (f x=some id))(d:∀x,c x=decide (f' x=some id))(h:l.map f=m.map f'):l.findIdx? p=m.findIdx? c:=by
 have r:l.findIdx? p=(l.map f).findIdx? λo=>decide (o=some id):=by rw [VH];congr 1;funext x;exact e x
 have s:m.findIdx? c=(m.map f').findIdx? λo=>decide (o=some id):=by rw [VH];congr 1;funext x;exact d x
 rw [r,s,h]
theorem zF4{α b c:Type}{f:α->c}{f':b->c}{l:List α}{m:List b}(d:l.length=m.length)(h:∀i (h:i<l.length) (p:i<m.length),f l[i]=f' m[i]):l.map f=m.map f':=by
 apply Xg (by simpa using d);intro i e o;simp only [Ym];exact h i (by simpa using e) (by simpa using o)
theorem zOJ{h:Hs}(c:k<h.length)(e:h.getD k none=none)(x:RqD):allS g (h.set k (some (x,0)))=allS g h:=by
 unfold allS;rw [Jc];congr 1;funext j;rw [zAA c];by_cases b:j=k
 ·subst b;rw [if_pos rfl,e];rfl
 ·rw [if_neg b]
theorem zQK{W:Nat}{h:Hs}(b:k<h.length)(e:h.getD k none=none)(x:RqD):wkS g W (h.set k (some (x,0)))=wkS g W h:=by
 funext j;unfold wkS;rw [zOJ b e]
theorem zIT{c:CfD}(o:CfOk c){x:RqD}{r:List RqD}{h:Hs}(s:SvOk g c ⟨x::r,h⟩)(e:freeS h=some k):SvOk g c ⟨r,h.set k (some (x,0))⟩:=by
 have b:=zCu e;obtain⟨l,p⟩:=b
 have t:(idsH (h.set k (some (x,0)))++idsW r).Perm (idsH h++idsW (x::r)):=by
  refine((zKo l p x 0).symm.append_right _).trans ?_;show (x.id::idsH h++idsW r).Perm (idsH h++(x.id::idsW r));exact List.perm_middle.symm
 refine⟨by simpa using s.len,by have:=s.wl;simp at this ⊢;omega,λy d=>s.wait y (QF _ d),λy i d=>?_,t.nodup_iff.2 s.ids,?_⟩
 ·have b:=zCd d;rcases b with f|f
  ·exact s.held y i f
  ·cases f;exact⟨s.wait x Qs,by have:=o.budget.1;omega⟩
 ·refine zDW (λw=>?_) s.pool;have:=zG6 (g:=g) (W:=c.workers) (w:=w) l (some (x,0));rw [zKb] at this;dsimp only;omega
open Go Go.Proofs
open Enc (enc)
set_option maxRecDepth 10000
theorem zDc{b:Option Addr}{r s y z:Nat}{la lb:List ByteArray}{w:World}(A:SlF w (.slice a r s) la)(C:SlF w (.slice b y z) lb)(I:la.length<=1000000):
  Sp PP 13 #[.slice a r s,.slice b y z] w λv w'=>Tells (la=lb) v/\Stp w w':=by
 have c:=A.len;obtain rfl:=c;have c:=C.len;obtain rfl:=c;refine eN ?_;refine ite (λh=>⟨.f (λe=>h (by rw [e])),stp⟩) (λh=>?_);have J:la.length=lb.length:=by omega
 refine loop1 TBok 6 [4] 5 (λi w'=>∃k:Nat,k<=la.length/\i=.int .i64 k/\la.take k=lb.take k/\Stp w w') (λi _=>la.length - (Go.RowKit.intOf i).toNat) rfl ⟨0,by omega,rfl,by simp,stp⟩ ?_;rintro i g w' ⟨k,K,rfl,d,e⟩;refine ite (λhlt=>?_) (λE=>?_)
 ·have l:k<la.length:=by omega
  have o:k<lb.length:=by omega
  refine dQ 9 λw1 L=>tix A.up (x:=la[k]) (by simp) λM O F _=>tload1 (F.cell0 rfl) id (tix C.up (x:=lb[k]) (by simp) λQ S G _=>tload1 (G.cell0 rfl) id (tsne (λp=>⟨.f (by rintro rfl;exact p rfl),stp⟩) (λH=>?_)));refine rA ⟨⟨k+1,by omega,rfl,?_,stp⟩,?_⟩
  ·rw [QO l,QO o,d,H]
  ·show _ - (k+1)<_ - k;omega
 ·have c:k=la.length:=by omega
  obtain rfl:=c;rw [Qj (Qe _),Qj (by omega)] at d;exact⟨.t d,e⟩
def zeroQ:RQ:=⟨0,0,0,⟨none,0,0⟩,0,0⟩
def zeroR:RReq:=⟨0,0,zeroQ⟩
def zeroH:RHeld:=⟨false,zeroR⟩
def freeAt (l:List RHeld):Option Nat:=l.findIdx? (λh=>!h.used)
def putH (l:List RHeld) (x:RReq):Int×List RHeld×Int:=match freeAt l with
 |some k=>(k,l.set k ⟨true,x⟩,0)
 |none=>(0,[],140)
def dropH (l:List RHeld) (i:Int):List RHeld×Int:=
 if i<0\/(l.length:Int)<=i then ([],1) else if (l.getD i.toNat zeroH).used then (l.set i.toNat zeroH,0) else ([],141)
def foundAt (l:List RHeld) (id:Int):Option Nat:=l.findIdx? (λh=>h.used && decide (h.r.id=id))
def findV (o:Option Nat):Int×Bool:=match o with
 |some k=>(k,true)
 |none=>(0,false)
def newH (n:Int):List RHeld×Int:=if n<1\/64<n then ([],1) else (List.replicate n.toNat zeroH,0)
def usedAt (l:List RHeld) (n:Nat):List Nat:=selN (λi=>(l.getD i zeroH).used) n
def usedH (l:List RHeld):List Int:=(usedAt l l.length).map λk:Nat=>(k:Int)
theorem zCr{α:Type}{p:α->Bool}{l:List α}(c:k<l.length)(d:p l[k]=true)(e:∀j,(b:j<k)->p (l[j]'(by omega))=false):l.findIdx? p=some k:=by
 rw [JB];exact⟨c,d,λj b=>by simpa using e j b⟩
theorem zCq{α:Type}{p:α->Bool}{l:List α}(h:∀j,(b:j<l.length)->p l[j]=false):l.findIdx? p=none:=by
 rw [Ve];intro x c;have d:=QI.1 c;obtain⟨j,b,rfl⟩:=d;exact h j b
theorem zH0{c:Nat}{l:List RHeld}{w:World}(h:SlF w (.slice a n c) l)(e:l.length<=100000):Sp PP 118 #[.slice a n c] w λv w'=>Own w.heap.size 130 w' v l/\Stp w w':=by
 have d:=h.len;obtain rfl:=d;refine eN ?_;refine rapp (u:=w) ⟨rfl,rfl⟩ (Own.nil _ 130 _) h (by simp;omega) λf o b p r=>?_;rw [Je] at b;exact⟨b,stp⟩
theorem zNH{c:Nat}{l:List RHeld}{x:RReq}{w:World}(h:SlF w (.slice a n c) l)(z:l.length<=100000):
  Sp PP 58 #[.slice a n c,agg x] w λv w'=>(∃t,v=.tuple #[.int .i64 (putH l x).1,t,.int .i64 (putH l x).2.2]/\Own w.heap.size 130 w' t (putH l x).2.1)/\Stp w w':=by
 have f:=h.len;obtain rfl:=f;refine eN ?_;refine rbx λb w1 n1 I=>cN 9 [8,4,5,6] 7 l.length (λk w'=>(∀j,j<k->(hl:j<l.length)->l[j].used=true)/\Stp w1 w') ⟨by omega,stp⟩ ?_;rintro k g w' J ⟨o,e⟩;refine ite (λhlt=>?_) (λC=>?_)
 ·have d:k<l.length:=by omega
  refine rix h.up (x:=l[k]) (by simp) λK L E=>rload1 (E.cell0 rfl) ?_;cases y:l[k].used
  ·refine rcall (zH0 h.up z) ?_;rintro v w2 ⟨p,M⟩;have f:=p.shape;obtain⟨oa,oc,rfl⟩:=f;refine rldG rfl rfl ?_;refine rbuild (cs:=enc (⟨true,x⟩:RHeld)) rfl (rixO rfl p (x:=l[k]) (by simp) λO F _ A=>rstO rfl (⟨true,x⟩:RHeld) p F d rfl λQ G S T _=>?_);have r:freeAt l=some k:=zCr d (by simp [y]) λj s=>by simp [o j s (by omega)]
   have H:putH l x=((k:Int),l.set k ⟨true,x⟩,0):=by unfold putH;rw [r]
   rw [H];exact⟨⟨_,rfl,G.older⟩,stp⟩
  ·refine rA ⟨rfl,d,below o λ_=>y,stp⟩
 ·have r:freeAt l=none:=zCq λj s=>by simp [o j (by omega) s]
  unfold putH;rw [r];exact⟨⟨_,rfl,Own.nil _ _ _⟩,stp⟩
theorem zL6{c:Nat}{l:List RHeld}{i:Int}{w:World}(h:SlF w (.slice a n c) l)(r:l.length<=100000):
  Sp PP 218 #[.slice a n c,.int .i64 i] w λv w'=>(∃f,v=.tuple #[f,.int .i64 (dropH l i).2]/\Own w.heap.size 130 w' f (dropH l i).1)/\Stp w w':=by
 have b:=h.len;obtain rfl:=b;refine eN ?_;unfold dropH;refine ite (λd=>?_) (λd=>?_)
 ·rw [if_pos (.inl d)];exact⟨⟨_,rfl,Own.nil _ _ _⟩,stp⟩
 refine ite (λo=>?_) (λo=>?_)
 ·rw [if_pos (.inr o)];exact⟨⟨_,rfl,Own.nil _ _ _⟩,stp⟩
 rw [if_neg (by omega)];have b:=QU (Int.not_lt.1 d);obtain⟨k,rfl⟩:=b;have p:k<l.length:=by omega
 rw [QW,zAq p];refine rix h (x:=l[k]) (by simp) λz C s=>rload1 (s.cell0 rfl) ?_;cases E:l[k].used
 ·rw [if_neg (by simp)];exact⟨⟨_,rfl,Own.nil _ _ _⟩,stp⟩
 ·rw [if_pos rfl];refine rcall (zH0 h r) ?_;rintro v w2 ⟨e,F⟩;have b:=e.shape;obtain⟨oa,oc,rfl⟩:=b;refine rbuild (cs:=enc zeroH) rfl (rixO rfl e (x:=l[k]) (by simp) λG t _ A=>rstO rfl zeroH e t p rfl λH y I J _=>?_);exact⟨⟨_,rfl,y.older⟩,stp⟩
theorem zGE{c:Nat}{l:List RHeld}{id:Int}{w:World}(h:SlF w (.slice a n c) l)(E:l.length<=100000):
  Sp PP 70 #[.slice a n c,.int .i64 id] w λv w'=>v=.tuple #[.int .i64 (findV (foundAt l id)).1,.bool (findV (foundAt l id)).2]/\Stp w w':=by
 have t:=h.len;obtain rfl:=t;refine eN ?_;refine cN 7 [4,5] 6 l.length (λk w'=>(∀j,j<k->(hl:j<l.length)->(l[j].used && decide (l[j].r.id=id))=false)/\Stp w w') ⟨by omega,stp⟩ ?_;rintro k g w' F ⟨d,e⟩;refine ite (λhlt=>?_) (λy=>?_)
 ·have b:k<l.length:=by omega
  refine rix h.up (x:=l[k]) (by simp) λG H z=>rload1 (z.cell0 rfl) ?_;cases s:l[k].used
  ·exact rA ⟨rfl,b,below d λ_=>by simp [s],stp⟩
  ·refine rix h.up (x:=l[k]) (by simp) λI J A=>rload1 (A.cell 1 rfl) (ite (λC=>?_) (λf=>?_))
   ·have o:foundAt l id=some k:=zCr b (by simp [s,C]) λj p=>d j p (by omega);rw [o];exact⟨rfl,stp⟩
   ·exact rA ⟨rfl,b,below d λ_=>by simp [f],stp⟩
 ·have o:foundAt l id=none:=zCq λj p=>d j (by omega) p;rw [o];exact⟨rfl,stp⟩
theorem zLi{n:Int}{w:World}:Sp PP 40 #[.int .i64 n] w λv w'=>(∃b,v=.tuple #[b,.int .i64 (newH n).2]/\Own w.heap.size 130 w' b (newH n).1)/\Stp w w':=by
 refine eN ?_;unfold newH;refine ite (λc=>?_) (λc=>?_)
 ·rw [if_pos (.inl c)];exact⟨⟨_,rfl,Own.nil _ _ _⟩,stp⟩
 refine ite (λd=>?_) (λd=>?_)
 ·rw [if_pos (.inr d)];exact⟨⟨_,rfl,Own.nil _ _ _⟩,stp⟩
 rw [if_neg (by omega)];have e:=QU (show (0:Int)<=n by omega);obtain⟨k,rfl⟩:=e;rw [QW];refine rmk zeroH rfl rfl (by omega) λg w1 f h _=>?_;exact⟨⟨_,rfl,f⟩,stp⟩
theorem zMo{l:List RHeld}(h:k<l.length):usedAt l (k+1)=if l[k].used then usedAt l k++[k] else usedAt l k:=by
 unfold usedAt;rw [zFN,zAq h]
theorem zGF{c:Nat}{l:List RHeld}{w:World}(h:SlF w (.slice a n c) l)(F:l.length<=100000):
  Sp PP 56 #[.slice a n c] w λv w'=>Own w.heap.size 3 w' v (usedH l)/\Stp w w':=by
 have d:=h.len;obtain rfl:=d;refine eN ?_;refine cO 5 [2] 3 4 l.length (λk out w'=>Own w.heap.size 3 w' out ((usedAt l k).map λk:Nat=>(k:Int))/\Stp w w') ⟨Own.nil _ _ _,stp⟩ ?_;rintro k out g w' G ⟨f,e⟩;refine ite (λhlt=>?_) (λr=>?_)
 ·have b:k<l.length:=by omega
  have o:=zMo b;refine rix h.up (x:=l[k]) (by simp) λH I s=>rload1 (s.cell0 rfl) ?_;cases t:l[k].used <;> rw [t] at o
  ·have p:Own w.heap.size 3 w' out ((usedAt l (k+1)).map λk:Nat=>(k:Int)):=by rw [o];exact f
   exact rA ⟨rfl,b,p.up,stp⟩
  ·refine bS (k:Int) λJ K L _ y=>?_;have z:=zD3 (λi=>(l.getD i zeroH).used) k;refine rapp1 (u:=w) ⟨rfl,rfl⟩ f.up y (by rw [Qr];unfold usedAt;omega) λA C E M O=>?_;have p:Own w.heap.size 3 C A ((usedAt l (k+1)).map λk:Nat=>(k:Int)):=by rw [o,if_pos rfl,QB];exact E
   exact rA ⟨rfl,b,p,stp⟩
 ·have d:k=l.length:=by omega
  obtain rfl:=d;exact⟨f,stp⟩
def plc (l:List RReq) (id:Int):Option Nat:=l.findIdx? (λr=>decide (r.id=id))
theorem zPi{l:List RReq}{id:Int}(h:∀r∈l,r.id≠id):plc l id=none:=by
 unfold plc;rw [Ve];simpa using h
theorem zPj{l:List RReq}{id:Int}(c:k<l.length)(d:l[k].id=id)(e:∀j,(b:j<k)->(l[j]'(by omega)).id≠id):plc l id=some k:=by
 unfold plc;rw [JB];exact⟨c,by simpa using d,λj b=>by simpa using e j b⟩
theorem plc_lt{l:List RReq}{id:Int}(h:plc l id=some k):∃b:k<l.length,l[k].id=id:=by
 unfold plc at h;rw [JB] at h;obtain⟨b,c,_⟩:=h;exact⟨b,by simpa using c⟩
def plcV (o:Option Nat):Value:=match o with
 |some k=>.tuple #[.int .i64 k,.bool true]
 |none=>.tuple #[.int .i64 0,.bool false]
def putR (l:List RReq) (most:Int) (x:RReq):List RReq×Int:=
 if (plc l x.id).isSome then ([],150) else if most<=l.length then ([],252) else (l++[x],0)
def takeR (l:List RReq) (id:Int):List RReq×Bool:=match plc l id with
 |some k=>(l.take k++l.drop (k+1),true)
 |none=>(l,false)
theorem zLz{r:RReq}{id:Int}{w:World}:Sp PP 310 #[.int .i64 id,agg r] w λv w'=>Tells (r.id=id) v/\Ext w w':=by
 refine eN ?_;refine rbox λb w1 n=>?_;exact rload1 ((At.blk n.blk).cell 0 rfl) (ite (λh=>⟨.t h,n.ext⟩) (λh=>⟨.f h,n.ext⟩))
theorem zEc{c:Nat}{l:List RReq}{g:FuncId}{first cap:List Value}{p:RReq->Prop}{w:World}(h:SlF w (.slice a n c) l)(K:l.length<=1000000)
  (G:∀r w1,r∈l->Ext w w1->Sp PP g (first++[agg r]++cap).toArray w1 λv w2=>Tells (p r) v/\Ext w1 w2):
  Sp PP 311 #[.slice a n c,.func (.func g) first.toArray cap.toArray] w λv w' =>
   ((∃k:Nat,v=.int .i64 k/\∃H:k<l.length,p l[k]/\∀j,(f:j<k)->¬p (l[j]'(by omega)))\/(v=.int .i64 (-1)/\∀r∈l,¬p r))/\Ext w w':=by
 have d:=h.len;obtain rfl:=d;refine eN ?_;refine loop1 TBok 6 [4,5,7] 8 (λi w'=>∃k:Nat,k<=l.length/\i=.int .i64 k/\(∀j,(f:j<k)->(C:j<l.length)->¬p l[j])/\Ext w w') (λi _=>l.length - (Go.RowKit.intOf i).toNat) rfl ⟨0,by omega,rfl,by omega,Fr.refl _ _⟩ ?_;rintro i g w' ⟨k,H,rfl,s,e⟩;refine ite (λhlt=>?_) (λI=>?_)
 ·have y:k<l.length:=by omega
  refine rix (h.ext e) (x:=l[k]) (by simp) λb o A=>rloadA A rfl (rcall (G l[k] w' (by simp) e) ?_);rintro v w2 ⟨⟨rfl,z⟩|⟨rfl,z⟩,E⟩
  ·exact⟨.inl ⟨k,rfl,y,z,λj f=>s j f (by omega)⟩,e.t E⟩
  ·refine rA ⟨⟨k+1,by omega,rfl,λj f C=>?_,e.t E⟩,?_⟩
   ·have d:=QH j k;rcases d with F|F
    ·exact s j F C
    ·have d:j=k:=by omega
     obtain rfl:=d;exact z
   ·show _ - (k+1)<_ - k;omega
 ·refine⟨.inr ⟨rfl,λr J=>?_⟩,e⟩;have d:=QI.1 J;obtain⟨j,f,rfl⟩:=d;exact s j (by omega) f
theorem zE5{c:Nat}{l:List RReq}{id:Int}{w:World}(h:SlF w (.slice a n c) l)(d:l.length<=1000000):
  Sp PP 230 #[.slice a n c,.int .i64 id] w λv w'=>v=plcV (plc l id)/\Ext w w':=by
 have f:=h.len;obtain rfl:=f;refine eN ?_;refine rcall (zEc (g:=310) (first:=[.int .i64 id]) (cap:=[]) (p:=λr=>r.id=id) h d λr w1 _ _=>zLz) ?_;rintro v w' ⟨⟨k,rfl,o,b,s⟩|⟨rfl,b⟩,e⟩
 ·refine rmax (iT (Int.natCast_nonneg k) ?_);rw [zPj o b s,Int.max_eq_left (by omega)];exact⟨rfl,e⟩
 ·refine rmax (iF (by decide) ?_);rw [zPi b];exact⟨rfl,e⟩
theorem zBC{b:Option Addr}{d e f h:Nat}{la lb:List RReq}{w:World}(l:SlF w (.slice a d e) la)(o:SlF w (.slice b f h) lb)(C:la.length<=1000000/\lb.length<=1000000):
  Sp PP 174 #[.slice a d e,.slice b f h] w λv w'=>Own w.heap.size 55 w' v (la++lb)/\Ext w w':=by
 have c:=l.len;obtain rfl:=c;have c:=o.len;obtain rfl:=c;refine eN ?_;refine rA (rmk' (n:=la.length+lb.length) (B:=w.heap.size) zeroR rfl rfl (Qe _) (by omega) λg w1 y p E=>rcp (u:=w) (lo:=0) rfl y (l.ext p) (.inr ⟨g,rfl,by simp⟩) (by simp) (by omega) λw2 r z _ _=>?_);have s:=Fr.st p z λi hi=>hi.1;refine rslO (P:=PP) (t:=84) (n:=la.length+lb.length) (some la.length) none r (by simp) (by simp) λF G hd=>?_;refine rcp (u:=w) (lo:=la.length) rfl r (o.ext s) hd (by simp) (by simp) λH x A _ _=>?_;refine⟨?_,Fr.st s A λi hi=>hi.1⟩
 have:List.take la.length (List.take 0 (List.replicate (la.length+lb.length) zeroR)++la++List.drop (0+la.length) (List.replicate (la.length+lb.length) zeroR))++lb ++
   List.drop (la.length+lb.length) (List.take 0 (List.replicate (la.length+lb.length) zeroR)++la++List.drop (0+la.length) (List.replicate (la.length+lb.length) zeroR))=la++lb:=by
  simp
 rw [this] at x;exact x
theorem zHP(l:List RReq)(id:Int):(plc l id=none/\plcV (plc l id)=.tuple #[.int .i64 0,.bool false])\/∃k,plc l id=some k/\plcV (plc l id)=.tuple #[.int .i64 (k:Nat),.bool true]:=by
 cases h:plc l id with
 |none=>exact .inl ⟨rfl,rfl⟩
 |some k=>exact .inr ⟨k,rfl,rfl⟩
theorem zMp{c:Nat}{l:List RReq}{most:Int}{x:RReq}{w:World}(h:SlF w (.slice a n c) l)(G:l.length<=100000):
  Sp PP 127 #[.slice a n c,.int .i64 most,agg x] w λv w'=>(∃r,v=.tuple #[r,.int .i64 (putR l most x).2]/\Own w.heap.size 55 w' r (putR l most x).1)/\Ext w w':=by
 have f:=h.len;obtain rfl:=f;refine eN ?_;refine rbox λb w1 n1=>?_;have s:At w1 b 0 (enc x):=At.blk n1.blk;refine rload1 (s.cell 0 rfl) (rcall (zE5 (h.ext n1.ext) (by omega)) ?_);rintro v w2 ⟨rfl,y⟩;have d:=n1.ext.t y;unfold putR;have f:=zHP l x.id;rcases f with ⟨z,A⟩|⟨k,z,A⟩ <;> rw [A,z]
 ·refine ite (λo=>?_) (λo=>?_)
  ·simp only [Option.isSome_none,Jt,if_false,o,if_true];exact⟨⟨_,rfl,Own.nil _ _ _⟩,d⟩
  ·simp only [Option.isSome_none,Jt,if_false,o];refine rloadA (s.ext y) rfl (bS x λH I p _ C=>rcall (zBC (lb:=[x]) (h.ext (d.t p.e)) C ⟨by omega,by simp⟩) ?_);rintro J K ⟨E,F⟩;exact⟨⟨_,rfl,E.mono (d.t p.e).size⟩,(d.t p.e).t F⟩
 ·simp only [Option.isSome_some,if_true];exact⟨⟨_,rfl,Own.nil _ _ _⟩,d⟩
def nextR (l:List RReq):RReq×List RReq×Bool:=match l with
 |[]=>(zeroR,[],false)
 |x::r=>(x,r,true)
theorem zOC{α:Type}(l:List α):(l.drop 1).take (l.length - 1)=l.tail:=by
 rw [Qj (by simp),List.drop_one]
theorem zLx{c:Nat}{l:List RReq}{w:World}(h:SlF w (.slice a n c) l)(J:l.length<=100000):
  Sp PP 103 #[.slice a n c] w λv w'=>(∃G,v=.tuple #[agg (nextR l).1,G,.bool (nextR l).2.2]/\Own w.heap.size 55 w' G (nextR l).2.1)/\Ext w w':=by
 have d:=h.len;obtain rfl:=d;refine eN ?_;refine ralloc λb w1 n1=>?_;refine ite (λh0=>?_) (λh0=>?_)
 ·have d:l=[]:=Qn (by omega);obtain rfl:=d;refine rbuild (cs:=enc zeroR) rfl (rst n1.blk (vs:=enc zeroR) rfl rfl (by decide) (Enc.one _) λw2 H K _=>?_);refine rresA (cs:=enc zeroR) (At.blk H) rfl ?_;exact⟨⟨_,rfl,Own.nil _ _ _⟩,Fr.st n1.ext K λi hi=>by rw [hi];exact n1.lo⟩
 ·obtain⟨x,r,rfl⟩:∃x r,l=x::r:=by cases l;exact absurd rfl h0;exact⟨_,_,rfl⟩
  refine dD (λi=>i=b) (upF 9 0) λw2 p=>?_;have f:=n1.ext.t p.e;refine tix (i:=0) (h.ext f) (x:=x) rfl λL o A s=>?_
  have y:L≠b:=by
   have d:=h.lt (by simp);obtain⟨U,I,H⟩:=d;rw [s] at I;cases I;have:=n1.lo;omega
  refine tloadA A rfl y (tsl (some 1) none (h.ext f) (by simp) (by simp) λM O z=>?_)
  have z:SlF w2 (.slice M ((x::r).length - 1) O) r:=by
   have:=z;simp only [JQ,QP] at this;rw [zOC] at this;exact this
  refine rcall (zBC (la:=[]) (lb:=r) (SlF.nil w2) z ⟨by simp,by simp at J;omega⟩) ?_;rintro Q V ⟨S,C⟩;refine⟨Fr.fr C,?_⟩;have E:=(p.e.t C).blk n1.blk;refine rst E (vs:=enc x) rfl rfl (Qe 8) (Enc.one _) λW T F _=>⟨F,?_⟩;refine rresA (cs:=enc x) (At.blk T) rfl ?_;refine⟨⟨Q,rfl,?_⟩,Fr.st (f.t C) F λi hi=>by rw [hi];exact n1.lo⟩;refine Own.mono (Own.fr (show Own _ _ _ _ r by simpa using S) F λi hi X hd=>?_) f.size;have:=blk_lt (p.e.blk n1.blk);omega
theorem zOh{α:Type}(l:List α)(k:Nat):(l.drop 0).take (k - 0)=l.take k:=by simp
theorem zOg{α:Type}(l:List α)(k:Nat):(l.drop k).take (l.length - k)=l.drop k:=by rw [Qj (by simp)]
theorem zLy{c:Nat}{l:List RReq}{id:Int}{w:World}(h:SlF w (.slice a n c) l)(G:l.length<=100000):
  Sp PP 128 #[.slice a n c,.int .i64 id] w λv w'=>(∃r,v=.tuple #[r,.bool (takeR l id).2]/\Own w.heap.size 55 w' r (takeR l id).1)/\Ext w w':=by
 have b:=h.len;obtain rfl:=b;refine eN ?_;refine rcall (zE5 h (by omega)) ?_;rintro v w1 ⟨rfl,d⟩;unfold takeR;have b:=zHP l id;rcases b with ⟨o,s⟩|⟨k,o,s⟩ <;> rw [s,o]
 ·refine rcall (zBC (lb:=[]) (h.ext d) (SlF.nil w1) ⟨by omega,by simp⟩) ?_;rintro A w2 ⟨C,p⟩;exact⟨⟨A,rfl,by simpa using C.mono d.size⟩,d.t p⟩
 ·have b:=plc_lt o;obtain⟨H,_⟩:=b;refine dQ 10 λw2 p=>?_;have f:=d.t p.e;refine tsl none (some k) (h.ext f) (by simp) (by simp;omega) λI J x=>?_;refine rA (tsl (some (k+1)) none (h.ext f) (by simp;omega) (by simp) λa2 K y=>?_);simp only [JQ,QP,zOh,zOg] at x y;refine rcall (zBC x y ⟨by simp;omega,by simp;omega⟩) ?_;rintro E L ⟨F,z⟩;exact⟨z,⟨E,rfl,F.mono f.size⟩,f.t z⟩
theorem zES{c:Nat}{l:List RHeld}{w:World}(h:SlF w (.slice a n c) l)(r:l.length<=100000):
  Sp PP 176 #[.slice a n c] w λv w'=>Own w.heap.size 130 w' v l/\Stp w w':=by
 have e:=h.len;obtain rfl:=e;refine eN ?_;refine rsnil (λh0=>?_) (λh0=>?_)
 ·obtain⟨s,t,f,x,p⟩:=h;cases f;have:l=[]:=by rcases p with h|⟨b,o,h,_⟩;exact h;rw [h0] at h;cases h
  subst this;exact⟨Own.nil _ _ _,stp⟩
 ·refine rbs (n:=0) (vs:=[]) ([]:List RHeld) rfl rfl rfl (by omega) λb w1 n1 y=>rapp (u:=w) ⟨rfl,rfl⟩ (Own.nil' w.heap.size 130 w1 _) h.up (by simp;omega) λz A d C E=>?_;rw [Je] at d;exact⟨d,stp⟩
theorem zP9{h:RHeld}{w:World}:Sp PP 175 #[agg h] w λv w'=>Tells (h.used=false) v/\Stp w w':=by
 refine eN ?_;refine rbx λb w1 n1 c=>rld rfl ?_;cases d:h.used
 ·exact⟨.t rfl,stp⟩
 ·exact⟨.f (by simp),stp⟩
theorem zM7{h:RHeld}{w:World}:Sp PP 108 #[agg h] w λv w'=>Tells (h.used=true) v/\Stp w w':=by
 refine eN ?_;refine rbx λb w1 n1 c=>rld rfl ?_;cases d:h.used
 ·exact⟨.f (by simp),stp⟩
 ·exact⟨.t rfl,stp⟩
structure PlDat (l:List RHeld) (a:Option Addr) (c:Nat) (g:FuncId) (bl bs:Nat) (u:World):Prop where
 sl:SlF u (.slice a l.length c) l
 l:Bk u bl [.slice a l.length c] 70
 s:u.cell? ⟨bs,0,none⟩=some (.func (.func g) #[] #[])
def plXs (p:RHeld->Bool) (l:List RHeld):List (List Value):=(selN (λi=>p (l.getD i zeroH)) l.length).map λk:Nat=>[.int .i64 k]
theorem zEz{l:List RHeld}{c:Nat}{g:FuncId}{bl bs:Nat}(T:l.length<=100000)(p:RHeld->Bool)
  (F:∀h w,Sp PP g #[agg h] w λv w'=>Tells (p h=true) v/\Stp w w'):
  SeqOf PP 179 [] [.pointer (some ⟨bl,0,none⟩),.pointer (some ⟨bs,0,none⟩)] (PlDat l a c g bl bs) (plXs p l):=by
 refine⟨λy J U w A H C I h0=>?_⟩;refine eN ?_;refine rload1 ((C 0 w h0).l.at.cell0 rfl) (cN 8 [4,5] 8 l.length (λk u=>J (selN (λi=>p (l.getD i zeroH)) k).length u) h0 ?_);intro k G u V f;have hd:=C _ u f;refine ite (λhlt=>?_) (λK=>?_)
 ·have d:k<l.length:=by omega
  have E:=zFN (λi=>p (l.getD i zeroH)) k;refine rix hd.sl (x:=l[k]) (by simp) λW X L=>rloadA L rfl (ral λY M n3 Z=>rsto (vs:=enc l[k]) rfl rfl rfl (Enc.one _) λr B4 O _=>?_);have s4:Stw u M r:=O.one n3.lo;refine rload1 (by have:=Ext.cell (lE u r) hd.s;exact this) (rldG rfl rfl ?_);refine rcall (F l[k] r) ?_;rintro v t ⟨⟨rfl,z⟩|⟨rfl,z⟩,e5⟩
  ·have o:p (l.getD k zeroH)=true:=by rw [zAq d];exact z
   have Q:(plXs p l)[(selN (λi=>p (l.getD i zeroH)) k).length]? = some [.int .i64 (k:Nat)]:=by
    unfold plXs;rw [QK,zBX (q:=λi=>p (l.getD i zeroH)) d o];rfl
   refine ryield rfl rfl rfl rfl (I _ t _ Q (A _ _ _ f (lE u t))) ?_;rintro b u' (⟨rfl,e⟩|⟨rfl,e⟩)
   ·refine rA ⟨rfl,d,?_⟩;rw [E,if_pos o];simpa using e
   ·exact .inr e
  ·have o:¬p (l.getD k zeroH)=true:=by rw [zAq d];exact z
   refine rA ⟨rfl,d,?_⟩;rw [E,if_neg o];exact A _ _ _ f (lE u t)
 ·have S:k=l.length:=by omega
  obtain rfl:=S;refine .inl ?_;unfold plXs;rw [Qr];exact f
theorem zFv{c:Nat}{l:List RHeld}{g:FuncId}{w:World}(h:SlF w (.slice a n c) l):
  Sp PP 107 #[.slice a n c,.func (.func g) #[] #[]] w λv w'=>(∃bl bs,v=.func (.func 179) #[] #[.pointer (some ⟨bl,0,none⟩),.pointer (some ⟨bs,0,none⟩)]/\PlDat l a c g bl bs w')/\Stp w w':=by
 have b:=h.len;obtain rfl:=b;refine eN ?_;refine rbx λd w1 n1 e=>rbx λf w2 n2 o=>?_;exact⟨⟨d,f,rfl,h.up,e.mv,o.at.cell0 rfl⟩,stp⟩
theorem PlDat.up{l:List RHeld}{c:Nat}{g:FuncId}{bl bs:Nat}(h:PlDat l a c g bl bs u)[L:Le u u']:PlDat l a c g bl bs u':=⟨h.sl.up,h.l.mv,Ext.cell L.e h.s⟩
theorem zKE{p:RHeld->Bool}{l:List RHeld}:∀x∈plXs p l,x.length=1:=by
 intro x b;unfold plXs at b;obtain⟨k,_,rfl⟩:=Qq.1 b;rfl
theorem sel0{p:RHeld->Bool}{l:List RHeld}(h:(selN (λi=>p (l.getD i zeroH)) l.length)[0]? = some k):∃b:k<l.length,p l[k]=true/\l.findIdx? p=some k:=by
 have o:=Jy h;have r:=zHn.1 o;obtain⟨b,c⟩:=r;rw [zAq b] at c;refine⟨b,c,zCr b c λj s=>?_⟩
 cases t:p (l[j]'(by omega)) with
 |false=>rfl
 |true =>
  have e:=zBX (q:=λi=>p (l.getD i zeroH)) b (by simpa [b] using c);have v:=zBX (q:=λi=>p (l.getD i zeroH)) (n:=k) s (by simp only [zAq (show j<l.length by omega)];exact t);have f:=(Qy.1 v).1;have w:(selN (λi=>p (l.getD i zeroH)) l.length)[(selN (λi=>p (l.getD i zeroH)) k).length]? = (selN (λi=>p (l.getD i zeroH)) l.length)[0]?:=by rw [e,h]
  have d:(selN (λi=>p (l.getD i zeroH)) l.length).Nodup:=(Xj).filter _;have hlt:=(Qy.1 e).1;have:=(List.getElem?_inj hlt d).1 w;omega
theorem zLj{c:Nat}{l:List RHeld}{x:RReq}{w:World}(h:SlF w (.slice a n c) l)(hn:l.length<=100000):
  Sp PP 104 #[.slice a n c,agg x] w λv w'=>(∃C,v=.tuple #[.int .i64 (putH l x).1,C,.int .i64 (putH l x).2.2]/\Own w.heap.size 130 w' C (putH l x).2.1)/\Stp w w':=by
 have G:=h.len;obtain rfl:=G;refine eN ?_;refine rbx λb1 w1 n1 B1=>rbx λb2 w2 n2 B2=>ral λb4 w4 E B4=>ral λb5 w5 n5 B5=>ral λb6 w6 n6 B6=>rld rfl ?_;refine rcall (zFv h.up) ?_;rintro v F ⟨⟨bl,bs,rfl,D7⟩,e7⟩;have H:=B4.mv (w:=F);have C5:=B5.mv (w:=F);have C6:=B6.mv (w:=F);have a4:=E.b;have a5:=E.s;have a6:=n5.b;have a7:=n5.s;have a8:=n6.b;have a9:=n6.s;have z7:=e7.e.size
 refine rrange TBok rfl (gf:=179) (first:=[]) (cap:=[.pointer (some ⟨bl,0,none⟩),.pointer (some ⟨bs,0,none⟩)]) rfl rfl
  (zEz (g:=175) (a:=a) (c:=c) (bl:=bl) (bs:=bs) hn (λh=>!h.used) λh w=>by simpa using zP9 (h:=h) (w:=w)) zKE
  (λi u=>i=0/\Stp F u)
  (λj u=>j=.ret/\∃k C,freeAt l=some k/\Bk u b4 [.int .i64 (k:Nat)] 3/\Bk u b5 [C] 70/\Bk u b6 [.int .i64 0] 27/\Own w.heap.size 130 u C (l.set k ⟨true,x⟩)/\Stp w u)
  ?_ ?_ ?_ ⟨rfl,stp⟩ ?_ ?_ ?_
 ·rintro i u u' ⟨hi,s⟩ q;exact⟨hi,s.qt q⟩
 ·rintro j u u' ⟨L,k,C,h1,h2,h3,Q,T,U⟩ q;exact⟨L,k,C,h1,h2.qt q,h3.qt q,Q.qt q,T.qt q,U.qt (q.mono (by have:=lz w F;omega))⟩
 ·rintro i u ⟨_,s⟩;exact D7.up
 ·rintro i y u V ⟨rfl,s⟩;unfold plXs at V;rw [QK,Vo] at V;obtain⟨k,hk,rfl⟩:=V;have G:=sel0 (p:=λh=>!h.used) hk;obtain⟨W,M,X⟩:=G;refine⟨Fr.refl _ _,λu1 q=>?_⟩;have s1:Stp F u1:=s.qt q;refine rld rfl ?_;refine rcall (zES h.up hn) ?_;rintro v2 w8 ⟨Y,e8⟩;have G:=Y.shape;obtain⟨oa,oc,rfl⟩:=G;refine rldG rfl rfl ?_;refine rbuild (cs:=enc (⟨true,x⟩:RHeld)) rfl (rixO rfl Y (x:=l[k]) (by simp) λg' hg b0 A=>rstO rfl (⟨true,x⟩:RHeld) Y hg W rfl λO O9 f9 s9 _=>?_);have z8:=s1.e.size;refine rS H [.int .i64 (k:Nat)] (by simp;rfl) λr Z d _=>?_;have I:Stw w2 O r:=d.one E.lo;have G5:=(C5.mv (w:=O)).fr d (by omega);have G6:=(C6.mv (w:=O)).fr d (by omega);refine rsto (vs:=[_]) rfl rfl rfl (by simp;rfl) λt H5 f _=>?_;have J:Stw w2 r t:=f.one (by have:=E.lo (u:=w2);omega);have H4:=Z.fr f (by omega);have H6:=G6.fr f (by omega);refine rsto (vs:=[.int .i64 0]) rfl rfl rfl (by simp;rfl) λz I6 o _=>?_;have K:Stw w2 t z:=o.one (by have:=E.lo (u:=w2);omega);have I4:=H4.fr o (by omega);have I5:=H5.fr o (by omega);refine⟨⟨rfl,k,_,X,I4,I5,I6,?_,stp⟩,λi=>w2.heap.size<=i,?_⟩
  ·have P1:=O9.fr d (λb hb hv=>by have:=blk_lt H.h;omega);have P2:=P1.fr f (λb hb hv=>by have:=blk_lt H.h;omega);have P3:=P2.fr o (λb hb hv=>by have:=blk_lt H.h;omega);exact P3.older
  ·have E9:Ext u1 O:=Le.e;exact(((Fr.fr E9).trans I.e).trans J.e).trans K.e
 ·rintro D u ⟨hi,s⟩ hD hd
  have a0:freeAt l=none:=by
   refine zCq λj L=>?_
   cases hq:!(l[j].used) with
   |false=>rfl
   |true =>
    have:=zBX (q:=λi=>!(l.getD i zeroH).used) L (by simp only [zAq L];exact hq);have h1:=(Qy.1 this).1;have b3:(selN (λi=>!(l.getD i zeroH).used) l.length).length=0:=by unfold plXs at hi;rw [Qr] at hi;exact hi
    omega
  have M:putH l x=(0,[],140):=by unfold putH;rw [a0]
  rw [M];have z8:=s.e.size;refine rS H [.int .i64 0] (by simp;rfl) λr Z d _=>?_;have I:Stw w2 u r:=d.one E.lo;have G5:=(C5.mv (w:=u)).fr d (by omega);have G6:=(C6.mv (w:=u)).fr d (by omega);refine rsto (vs:=[.slice none 0 0]) rfl rfl rfl (by simp;rfl) λt H5 f _=>?_;have J:Stw w2 r t:=f.one (by have:=E.lo (u:=w2);omega);have H4:=Z.fr f (by omega);have H6:=G6.fr f (by omega);refine rsto (vs:=[.int .i64 140]) rfl rfl rfl (by simp;rfl) λz I6 o _=>?_;have K:Stw w2 t z:=o.one (by have:=E.lo (u:=w2);omega);have I4:=H4.fr o (by omega);have I5:=H5.fr o (by omega);have a1:=o.nc _ _ (f.nc _ _ (d.nc _ _ hd rfl) rfl) rfl;refine leave1 a1 λu' q=>?_;have J4:=I4.qt (q 0 (by omega));have J5:=I5.qt (q 0 (by omega));have J6:=I6.qt (q 0 (by omega));refine rres rfl ?_;refine rres rfl ?_;refine rres rfl ?_;have S:Stp w z:=stp;exact⟨⟨_,rfl,Own.nil _ _ _⟩,S.qt (q _ (by have:=lz w F;omega))⟩
 ·rintro j D u ⟨rfl,k,C,X,Q,T,U,hO,hS⟩ hD hd;have M:putH l x=((k:Int),l.set k ⟨true,x⟩,0):=by unfold putH;rw [X]
  rw [M];refine leave1 hd λu' q=>?_;have J4:=Q.qt (q 0 (by omega));have J5:=T.qt (q 0 (by omega));have J6:=U.qt (q 0 (by omega));refine rres rfl ?_;refine rres rfl ?_;refine rres rfl ?_;exact⟨⟨_,rfl,hO.qt (q 0 (by omega))⟩,hS.qt (q _ (by have:=lz w F;omega))⟩
theorem zE4{c:Nat}{l:List RHeld}{id:Int}{w:World}(h:SlF w (.slice a n c) l)(hn:l.length<=100000):
  Sp PP 126 #[.slice a n c,.int .i64 id] w λv w'=>v=.tuple #[.int .i64 (findV (foundAt l id)).1,.bool (findV (foundAt l id)).2]/\Stp w w':=by
 have C:=h.len;obtain rfl:=C;refine eN ?_;refine rbx λb1 w1 n1 B1=>rbx λb2 w2 n2 B2=>ral λb4 w4 H B4=>ral λb5 w5 V B5=>rld rfl ?_;refine rcall (zFv h.up) ?_;rintro v z ⟨⟨bl,bs,rfl,D7⟩,e7⟩;have W:=B4.mv (w:=z);have X:=B5.mv (w:=z);have a0:=H.b;have a1:=H.s;have a4:=V.b;have a5:=V.s;have z7:=e7.e.size
 refine rrange TBok rfl (gf:=179) (first:=[]) (cap:=[.pointer (some ⟨bl,0,none⟩),.pointer (some ⟨bs,0,none⟩)]) rfl rfl
  (zEz (g:=108) (a:=a) (c:=c) (bl:=bl) (bs:=bs) hn (λh=>h.used) λh w=>zM7 (h:=h) (w:=w)) zKE
  (λi u=>(∀j k,j<i->(usedAt l l.length)[j]? = some k->¬(l.getD k zeroH).r.id=id)/\Stp z u)
  (λj u=>j=.ret/\∃k:Nat,foundAt l id=some k/\Bk u b4 [.int .i64 k] 3/\Bk u b5 [.bool true] 4/\Stp w u)
  ?_ ?_ ?_ ⟨by omega,stp⟩ ?_ ?_ ?_
 ·rintro i u u' ⟨hi,s⟩ q;exact⟨hi,s.qt q⟩
 ·rintro j u u' ⟨A,k,E,h2,h3,h6⟩ q;exact⟨A,k,E,h2.qt q,h3.qt q,h6.qt (q.mono (by have:=lz w z;omega))⟩
 ·rintro i u ⟨_,s⟩;exact D7.up
 ·rintro i y u L ⟨Y,s⟩;unfold plXs at L;rw [QK,Vo] at L;obtain⟨k,Z,rfl⟩:=L;have C:=zQv Z;obtain⟨F,hu,hi⟩:=C;simp only [zAq F] at hu;refine⟨Fr.refl _ _,λu1 q=>?_⟩;have s1:Stp z u1:=s.qt q;refine drawR TBRok mixed (λ_=>False) (upF 8 0) (by kernel_rfl) λM e2 _=>tld rfl (λh=>h) ?_;refine tix h.up (x:=l[k]) (by simp) λb8 o8 A8 _=>tload1 (A8.cell 1 rfl) (λh=>h) (tld rfl (λh=>h) ?_);refine ite (λhe=>?_) (λO=>?_)
  ·have Q:foundAt l id=some k:=zCr F (by simp [hu,he]) λj A=>by
    cases G:(l[j]'(by omega)).used with
    |false=>rfl
    |true =>
     have K:(λi=>(l.getD i zeroH).used) j=true:=by show (l.getD j zeroH).used=true;rw [zAq (show j<l.length by omega)];exact G
     have E:=Y (selN (λi=>(l.getD i zeroH).used) j).length j (by rw [hi];exact zQw A K) (zBX (n:=l.length) (by omega) K);rw [zAq (show j<l.length by omega)] at E;simp [E]
   have s2:Stp z M:=stp;refine rS W [.int .i64 (k:Nat)] (by simp;rfl) λo S d _=>?_;have I:Stw w2 M o:=d.one H.lo;have G5:=(X.mv (w:=M)).fr d (by omega);refine rsto (vs:=[.bool true]) rfl rfl rfl (by simp;rfl) λp H5 f _=>?_;have J:Stw w2 o p:=f.one (by have:=H.lo (u:=w2);omega);exact⟨⟨rfl,k,Q,S.fr f (by omega),H5,stp⟩,_,((Fr.fr e2.e).trans (I.e.trans J.e):Fr (λi=>w2.heap.size<=i) u1 p)⟩
  ·refine⟨⟨λj k' A t=>?_,stp⟩,λ_=>False,e2.e⟩;have C:=QH j i;rcases C with h'|h'
   ·exact Y j k' h' t
   ·have C:j=i:=by omega
    obtain rfl:=C;unfold usedAt at t;rw [Z] at t;cases t;rw [zAq F];exact O
 ·rintro D u ⟨hi,s⟩ hD hd
  have T:foundAt l id=none:=by
   refine zCq λj A=>?_
   cases G:l[j].used with
   |false=>rfl
   |true =>
    have K:(λi=>(l.getD i zeroH).used) j=true:=by show (l.getD j zeroH).used=true;rw [zAq A];exact G
    have h0:=zBX (q:=λi=>(l.getD i zeroH).used) (n:=l.length) A K;have E:=hi _ j (by unfold plXs;rw [Qr];exact(Qy.1 h0).1) h0;rw [zAq A] at E;simp [E]
  rw [T];refine rS W [.int .i64 0] (by simp;rfl) λo S d _=>?_;have I:Stw w2 u o:=d.one H.lo;have G5:=(X.mv (w:=u)).fr d (by omega);refine rsto (vs:=[.bool false]) rfl rfl rfl (by simp;rfl) λp c5 f _=>?_;have J:Stw w2 o p:=f.one (by have:=H.lo (u:=w2);omega);have c4:=S.fr f (by omega);have su:Stp w p:=stp;have U:=f.nc _ _ (d.nc _ _ hd rfl) rfl;refine leave1 U λu' q=>?_;have J4:=c4.qt (q 0 (by omega));have J5:=c5.qt (q 0 (by omega));refine rres rfl ?_;refine rres rfl ?_;exact⟨rfl,su.qt (q _ (by have:=lz w z;omega))⟩
 ·rintro j D u ⟨rfl,k,Q,h4,h5,hS⟩ hD hd;rw [Q];refine leave1 hd λu' q=>?_;have J4:=h4.qt (q 0 (by omega));have J5:=h5.qt (q 0 (by omega));refine rres rfl ?_;refine rres rfl ?_;exact⟨rfl,hS.qt (q _ (by have:=lz w z;omega))⟩
theorem zGQ{g:FuncId}{first cap:List Value}{f:World->Prop}{xs:List Int}{w:World}(l:SeqOf PP g first cap f (xs.map λx=>[.int .i64 x]))(z:∀u,Ext w u->f u)(Z:xs.length<=1000000):
  Sp PP 178 #[.slice none 0 0,.func (.func g) first.toArray cap.toArray] w λv w'=>Own w.heap.size 3 w' v xs/\Stp w w':=by
 refine eN ?_;refine rbx λA w1 n1 C=>?_;have E:=n1.b;have F:=n1.s
 refine rrange TBok rfl (gf:=g) (first:=first) (cap:=cap) rfl rfl l (by intro x d;obtain⟨y,_,rfl⟩:=Qq.1 d;rfl)
  (λi u=>∃v,Bk u A [v] 34/\Own w.heap.size 3 u v (xs.take i)/\Stp w u) (λ_ _=>False) ?_ ?_ ?_ ⟨.slice none 0 0,C,by rw [Xa];exact Own.nil _ _ _,stp⟩ ?_ ?_ ?_
 ·rintro i u u' ⟨v,G,H,I⟩ q;exact⟨v,G.qt q,H.qt q,I.qt (q.mono (by omega))⟩
 ·rintro c u u' h;exact h.elim
 ·rintro i u ⟨v,_,_,s⟩;exact z u s.e
 ·rintro i y u d ⟨v,o,O,s⟩;rw [QK,Vo] at d;obtain⟨x,d,rfl⟩:=d;have J:=Qy.1 d;obtain⟨hi,rfl⟩:=J;refine⟨Fr.refl _ _,λu1 q=>?_⟩;have o:=o.qt q;have O:=O.qt q;have s:=s.qt (q.mono (by omega));refine rld rfl ?_;refine rbs1 xs[i] rfl rfl (by decide) λb4 K L _ M=>rapp1 (u:=w) ⟨rfl,rfl⟩ O.up M (by simp;omega) λr Q p S T=>?_;have U:=(o.mv (w:=K)).fro O.up S;refine rsto (vs:=[r]) ?_ rfl rfl (by obtain⟨oa,oc,rfl⟩:=p.shape;simp;rfl) λV W t _=>?_
  ·obtain⟨oa,oc,rfl⟩:=p.shape;rfl
  have X:Stw w Q V:=t.one (by omega);refine⟨⟨r,W,?_,stp⟩,λi=>w.heap.size<=i,((Fr.fr L.e).trans T.e).trans X.e⟩;rw [take_add hi];exact p.frc t U
 ·rintro D u ⟨v,o,O,s⟩ Y hd;refine rld rfl ?_;refine leave1 hd λu' q=>?_;rw [Qj (by simp)] at O;exact⟨O.qt (q 0 (by omega)),s.qt (q _ (by omega))⟩
 ·rintro c D u h;exact h.elim
theorem zIa{g:FuncId}{first cap:List Value}{b:World->Prop}{xs:List Int}{w:World}(c:SeqOf PP g first cap b (xs.map λx=>[.int .i64 x]))(d:∀u,Ext w u->b u)(e:xs.length<=1000000):
  Sp PP 106 #[.func (.func g) first.toArray cap.toArray] w λv w'=>Own w.heap.size 3 w' v xs/\Stp w w':=by
 refine eN ?_;refine rcall (zGQ c d e) ?_;rintro v w1 ⟨f,h⟩;exact⟨f,stp⟩
theorem zJQ{c:Nat}{l:List RHeld}{w:World}(h:SlF w (.slice a n c) l)(d:l.length<=100000):
  Sp PP 52 #[.slice a n c] w λv w'=>Own w.heap.size 3 w' v (usedH l)/\Stp w w':=by
 have e:=h.len;obtain rfl:=e;refine eN ?_;refine rcall (zFv h) ?_;rintro v w1 ⟨⟨bl,bs,rfl,f⟩,s⟩;have b:=zEz (g:=108) (a:=a) (c:=c) (bl:=bl) (bs:=bs) d (λh=>h.used) λh w=>zM7 (h:=h) (w:=w);have o:plXs (λh=>h.used) l=(usedH l).map λx=>[.int .i64 x]:=by unfold plXs usedH usedAt;rw [VM];rfl
 rw [o] at b;refine rcall (zIa (first:=[]) b (λu p=>by have:=Stp.mk p;exact f.up) (by unfold usedH usedAt;rw [Qr];have:=zD3 (λi=>(l.getD i zeroH).used) l.length;omega)) ?_;rintro v w2 ⟨r,t⟩;exact⟨r.older,stp⟩
theorem zJP{c:Nat}{l:List RHeld}{i:Int}{w:World}(h:SlF w (.slice a n c) l)(r:l.length<=100000):
  Sp PP 113 #[.slice a n c,.int .i64 i] w λv w'=>(∃f,v=.tuple #[f,.int .i64 (dropH l i).2]/\Own w.heap.size 130 w' f (dropH l i).1)/\Stp w w':=by
 have b:=h.len;obtain rfl:=b;refine eN ?_;unfold dropH;refine ite (λd=>?_) (λd=>?_)
 ·rw [if_pos (.inl d)];exact⟨⟨_,rfl,Own.nil _ _ _⟩,stp⟩
 refine ite (λo=>?_) (λo=>?_)
 ·rw [if_pos (.inr o)];exact⟨⟨_,rfl,Own.nil _ _ _⟩,stp⟩
 rw [if_neg (by omega)];have b:=QU (Int.not_lt.1 d);obtain⟨k,rfl⟩:=b;have p:k<l.length:=by omega
 rw [QW,zAq p];refine rix h (x:=l[k]) (by simp) λz C s=>rload1 (s.cell0 rfl) ?_;cases E:l[k].used
 ·rw [if_neg (by simp)];exact⟨⟨_,rfl,Own.nil _ _ _⟩,stp⟩
 ·rw [if_pos rfl];refine rcall (zES h r) ?_;rintro v w2 ⟨e,F⟩;have b:=e.shape;obtain⟨oa,oc,rfl⟩:=b;refine rbuild (cs:=enc zeroH) rfl (rixO rfl e (x:=l[k]) (by simp) λG t _ A=>rstO rfl zeroH e t p rfl λH y I J _=>?_);exact⟨⟨_,rfl,y.older⟩,stp⟩
def Fz (M R:Nat->Prop) (w:World) (Φ:World->Prop):Prop:=∀w',Fr (λi=>M i\/¬R i) w w'->Φ w'
theorem Fr.join{E H:Nat->Prop}{a b c:World}(f:Fr D a b)(k:Fr E b c)(l:∀i,i<a.heap.size->D i->H i)(p:∀i,i<a.heap.size->E i->H i):Fr H a c:=
 ⟨k.os.trans f.os,k.tape.trans f.tape,k.output.trans f.output,Qw f.size k.size,λi hi e=>(k.block i (QJ hi f.size) λd=>e (p i hi d)).trans (f.block i hi λd=>e (l i hi d)),λi o hi h=>k.nc i o (f.nc i o hi h) h⟩
section
variable {M M' R R':Nat->Prop} {w w':World} {Φ Ψ:World->Prop}
theorem Fz.at(h:Fz M R w Φ)[L:Le w w']:Φ w':=h w' (Fr.fr L.e)
theorem Fz.here(h:Fz M R w Φ):Φ w:=h w (Fr.refl _ _)
theorem Fz.step(h:Fz M R w Φ)(f:Fr M w w')(c:∀i,i<w.heap.size->M' i->M i)(d:∀i,i<w.heap.size->R i->R' i):Fz M' R' w' Φ:=λ_ k =>
 h _ (f.join k (λ_ _ hi=>.inl hi) λi hi e=>e.elim (λb=>.inl (c i hi b)) λb=>.inr λl=>b (d i hi l))
theorem Fz.away(h:Fz M R w Φ)(f:Fr D w w')(b:∀i,D i->¬R i):Fz M R w' Φ:=λ_ k =>
 h _ (f.join k (λi _ hi=>.inr (b i hi)) λ_ _ c=>c)
theorem Fz.and(h:Fz M R w Φ)(k:Fz M R w Ψ):Fz M R w λu=>Φ u/\Ψ u:=λu f=>⟨h u f,k u f⟩
theorem Fz.imp(h:Fz M R w Φ)(k:∀u,Φ u->Ψ u):Fz M R w Ψ:=λu f=>k u (h u f)
theorem tixF{α:Type}[Enc α]{t e:TypeId}{z:Value}{d:Nat}[r:SlT P t e][s:Elem P e z (Enc.sz α) d]{k:Value->Prop}{c:Nat}{l:List α}{x:α}(h:∀w',Fr D w w'->SlF w' (.slice a n c) l)(hi:l[i]? = some x)
  (v:∀b o,(∀w',Fr D w w'->At w' b o (enc x))->k (.pointer (some ⟨b,o,none⟩))):TakeS P (Instr.indexAt t (.slice a n c) (.int .i64 i)) D k w:=by
 have p:=(h w (Fr.refl _ _)).at hi;obtain⟨rfl,b,o,rfl,_⟩:=p;have C:i<l.length:=(Qy.1 hi).1;rw [zAe];refine⟨_,λw' _=>zD1 r s (by omega) (by omega) w',v _ _ λw' f=>?_⟩;have p:=(h w' f).at hi;obtain⟨_,E,o',y,A⟩:=p;cases y;exact A
theorem tload1F{t:TypeId}[d:One P t]{k:Value->Prop}{b o:Nat}{v:Value}(h:∀w',Fr D w w'->At w' b o [v])(e:k v):TakeS P (Instr.loadAt t (.pointer (some ⟨b,o,none⟩))) D k w:=by
 rw [zAe];exact⟨v,λw' c=>by simp [Instr.loadAt,Instr.sureAddr,zDC d ((h w' c).cell0 rfl)],e⟩
theorem Own.fz{α:Type}[Enc α]{e:TypeId}{v:Value}{l:List α}(O:Own B e w v l)(h:∀i,B<=i->i<w.heap.size->R i/\¬M i):Fz M R w λu=>SlF u v l:=λu f=>by
 by_cases o:l=[]
 ·subst o;have d:=O.shape;obtain⟨a,c,rfl⟩:=d;exact SlF.nil' u a c
 ·refine O.sl.fr f λb s hd=>?_;have d:=O.lt o;obtain⟨g,p,t,x⟩:=d;rw [s] at p;cases p;have r:=h b t x;exact hd.elim r.2 λy=>y r.1
end
theorem Own.fzB{M:Nat->Prop}{w:World}{α:Type}[Enc α]{e:TypeId}{v:Value}{l:List α}(O:Own B e u v l)(s:SlF w v l)(h:∀i,B<=i->i<u.heap.size->R i/\¬M i):Fz M R w λu=>SlF u v l:=λu' f=>by
 by_cases o:l=[]
 ·subst o;have d:=O.shape;obtain⟨a,c,rfl⟩:=d;exact SlF.nil' u' a c
 ·refine s.fr f λb t hd=>?_;have d:=O.lt o;obtain⟨g,p,x,y⟩:=d;rw [t] at p;cases p;have r:=h b x y;exact hd.elim r.2 λz=>z r.1
structure RCfg where
 workers:Int
 slots:Int
 queue:Int
 pool:Int
 budget:Int
instance:Enc RCfg:=⟨5,λx=>[.int .i64 x.workers,.int .i64 x.slots,.int .i64 x.queue,.int .i64 x.pool,.int .i64 x.budget],λ_=>rfl,by intro x u hu;simp at hu;rcases hu with rfl|rfl|rfl|rfl|rfl <;> rfl,by decide⟩
structure RJob where
 mails:SV
 steps:Int
instance:Enc RJob:=⟨2,λx=>[.slice x.mails.a x.mails.n x.mails.c,.int .i64 x.steps],λ_=>rfl,by intro x u hu;simp at hu;rcases hu with rfl|rfl <;> rfl,by decide⟩
def zJob:RJob:=⟨⟨none,0,0⟩,0⟩
structure RPtr where
 b:Nat
instance:Enc RPtr:=⟨1,λx=>[.pointer (some ⟨x.b,0,none⟩)],λ_=>rfl,by intro x u hu;simp at hu;subst hu;rfl,by decide⟩
structure SrvK where
 bj:Nat
 jc:Nat
 xr:RRow
 r:List EdN
 ws:SV
 wl:List ByteArray
 ps:List RPo
 wk:SV
 sb:Nat->Nat
 sg:Nat->Nat
abbrev srvL (c : CfD) (K : SrvK) (wt hd : SV) : List Value :=
  [.int .i64 (c.workers : Nat), .int .i64 (c.slots : Nat), .int .i64 (c.queue : Nat), .int .i64 (c.pool : Nat), .int .i64 (c.budget : Nat),
   .slice K.xr.off.a K.xr.off.n K.xr.off.c, .slice K.xr.to.a K.xr.to.n K.xr.to.c, .slice K.xr.rof.a K.xr.rof.n K.xr.rof.c, .slice K.xr.rev.a K.xr.rev.n K.xr.rev.c,
   .slice K.ws.a K.ws.n K.ws.c, .slice wt.a wt.n wt.c, .slice hd.a hd.n hd.c, .slice (some ⟨K.bj, 0, none⟩) c.slots K.jc, .slice K.wk.a K.wk.n K.wk.c]
def HeldOk (kx:Nat) (w:World) (g:GrD) (x:RHeld) (j:RJob) (o:Option (RqD×Nat)) (k:Nat):Prop:=match o with
 |none=>x.used=false
 |some (d,i)=>x.used=true/\RqV w x.r d/\(k≠kx->SlF w j.mails.v (mls g d.q k i)/\j.steps=i)
structure SrvF (kx:Nat) (g:GrD) (c:CfD) (K:SrvK) (wt hd:SV) (lw:List RReq) (lh:List RHeld) (lj:List RJob) (s:SvD) (w:World):Prop where
 rows:RwF w K.xr g K.r
 pos:PosM w g K.wl K.ps
 words:SlF w (.slice K.ws.a K.ws.n K.ws.c) K.ps
 wk:SlF w (.slice K.wk.a K.wk.n K.wk.c) ((List.range c.workers).map λk=>(⟨K.sb k⟩:RPtr))
 fw:SlF w (.slice wt.a wt.n wt.c) lw
 fh:SlF w (.slice hd.a hd.n hd.c) lh
 lwn:lw.length=s.wait.length
 waits:∀i (h:i<lw.length) (h':i<s.wait.length),RqV w lw[i] s.wait[i]
 lhn:lh.length=s.held.length
 ljn:lj.length=s.held.length
 helds:∀k (h:k<lh.length) (h':k<lj.length),HeldOk kx w g lh[k] lj[k] (s.held.getD k none) k
def mutS (bs bj W:Nat) (RW:Nat->Nat->Prop):Nat->Prop:=λi=>i=bs\/i=bj\/∃k,k<W/\RW k i
structure Stos (B:Nat) (w:World) (W:Nat) (K:SrvK) (pool:Nat) (RW:Nat->Nat->Prop) (Ls:Nat->List StD):Prop where
 dis:∀k j,k<W->j<W->k≠j->∀i,RW k i->¬RW j i
 sto:∀k,k<W->StoP (RW k) B w (K.sb k) (K.sg k) pool (Ls k)
 lt:∀k,k<W->∀i,RW k i->i<w.heap.size
def updR (RW:Nat->Nat->Prop) (k:Nat) (X:Nat->Prop):Nat->Nat->Prop:=λj=>if j=k then X else RW j
def GrowR (W:Nat) (RW RW':Nat->Nat->Prop) (n:Nat):Prop:=∀k,k<W->∀i,RW' k i->RW k i\/n<=i
section
variable {B:Nat} {w w':World} {W:Nat} {K:SrvK} {pool:Nat} {RW RW':Nat->Nat->Prop} {Ls:Nat->List StD}
theorem GrowR.refl(n:Nat):GrowR W RW RW n:=λ_ _ _ h=>.inl h
theorem Stos.away(T:Stos B w W K pool RW Ls)(f:Fr D w w')(c:∀k,k<W->∀i,RW k i->¬D i):Stos B w' W K pool RW Ls:=
 ⟨T.dis,λk b=>(T.sto k b).fr f (c k b),λk b i hi=>QJ (T.lt k b i hi) f.size⟩
theorem Stos.up[L:Le w w'](T:Stos B w W K pool RW Ls):Stos B w' W K pool RW Ls:=T.away L.e λ_ _ _ _ h=>h
theorem Stos.put{L:List StD}(T:Stos B w W K pool RW Ls)(t:k<W)(S:StoP (gR (RW k) w w') B w' (K.sb k) (K.sg k) pool L)(f:Fr (RW k) w w'):
  Stos B w' W K pool (updR RW k (gR (RW k) w w')) (updL Ls k L):=by
 have e:∀j,j≠k->updR RW k (gR (RW k) w w') j=RW j:=λj h=>if_neg h;have p:updR RW k (gR (RW k) w w') k=gR (RW k) w w':=if_pos rfl;refine⟨λj r b d l i hi=>?_,λj b=>?_,λj b i hi=>?_⟩
 ·by_cases c:j=k
  ·subst c;rw [p] at hi;rw [e r (λh=>l h.symm)];rcases hi with hi|hi
   ·exact T.dis _ _ b d l i hi
   ·intro o;have:=T.lt r d i o;omega
  ·rw [e j c] at hi;by_cases o:r=k
   ·subst o;rw [p];rintro(s|s)
    ·exact T.dis _ _ b d l i hi s
    ·have:=T.lt j b i hi;omega
   ·rw [e r o];exact T.dis _ _ b d l i hi
 ·by_cases c:j=k
  ·subst c;rw [p,show updL Ls j L j=L from if_pos rfl];exact S
  ·rw [e j c,show updL Ls k L j=Ls j from if_neg c];exact(T.sto j b).fr f λi hi o=>T.dis _ _ b t c i hi o
 ·by_cases c:j=k
  ·subst c;rw [p] at hi;rcases hi with hi|hi
   ·exact QJ (T.lt j b i hi) f.size
   ·exact hi.2
  ·rw [e j c] at hi;exact QJ (T.lt j b i hi) f.size
theorem GrowR.put(h:GrowR W RW RW' n)(d:n<=w.heap.size):GrowR W RW (updR RW' k (gR (RW' k) w w')) n:=λj b i hi=>by
 by_cases c:j=k
 ·subst c;rw [show updR RW' j (gR (RW' j) w w') j=gR (RW' j) w w' from if_pos rfl] at hi;rcases hi with hi|hi
  ·exact h j b i hi
  ·exact .inr (by omega)
 ·rw [show updR RW' k (gR (RW' k) w w') j=RW' j from if_neg c] at hi;exact h j b i hi
def anyR (W:Nat) (RW:Nat->Nat->Prop):Nat->Prop:=λi=>∃k,k<W/\RW k i
theorem GrowR.fr(h:GrowR W RW RW' w.heap.size)(f:Fr (anyR W RW) w u)(b:k<W)(d:Fr (RW' k) u u'):Fr (anyR W RW) w u':=
 f.join d (λ_ _ hi=>hi) λi hi e=>(h k b i e).elim (λc=>⟨k,b,c⟩) λc=>by omega
end
structure SrvR (kx:Nat) (R:Nat->Prop) (B:Nat) (w:World) (bs:Nat) (g:GrD) (c:CfD) (s:SvD) (Ls:Nat->List StD) (K:SrvK) (wt hd:SV) (lw:List RReq) (lh:List RHeld) (lj:List RJob) (RW:Nat->Nat->Prop):Prop where
 reg:∀i,R i->B<=i/\i<w.heap.size
 rs:R bs
 rj:R K.bj
 ne:bs≠K.bj
 rw:∀k,k<c.workers->∀i,RW k i->R i/\i≠bs/\i≠K.bj
 cell:Bk w bs (srvL c K wt hd) 87
 jobs:Own B 188 w (.slice (some ⟨K.bj,0,none⟩) c.slots K.jc) lj
 st:Stos B w c.workers K c.pool RW Ls
 fz:Fz (mutS bs K.bj c.workers RW) R w (SrvF kx g c K wt hd lw lh lj s)
 gi:GrIs g
 ci:CfOk c
 ps:K.ps.length<=2000
 so:SvOk g c s
def SrvX (R:Nat->Prop) (B:Nat) (w:World) (bs:Nat) (g:GrD) (c:CfD) (s:SvD) (Ls:Nat->List StD):Prop:=
 ∃K wt hd lw lh lj RW,SrvR 1000 R B w bs g c s Ls K wt hd lw lh lj RW
def SrvZ (R:Nat->Prop) (B:Nat) (w:World) (bs:Nat) (g:GrD) (c:CfD) (s:SvD) (Ls:Nat->List StD) (k0:Nat):Prop:=
 ∃K wt hd lw lh lj RW,SrvR k0 R B w bs g c s Ls K wt hd lw lh lj RW
def SrvP (R:Nat->Prop) (B:Nat) (w:World) (bs:Nat) (g:GrD) (c:CfD) (s:SvD):Prop:=SrvX R B w bs g c s (wkS g c.workers s.held)
section
variable {kx kx':Nat} {R:Nat->Prop} {B:Nat} {w w':World} {bs:Nat} {g:GrD} {c:CfD} {s:SvD} {Ls:Nat->List StD} {K:SrvK} {wt hd:SV} {lw:List RReq} {lh:List RHeld} {lj:List RJob} {RW:Nat->Nat->Prop}
theorem SrvR.mut(S:SrvR kx R B w bs g c s Ls K wt hd lw lh lj RW)(h:mutS bs K.bj c.workers RW i):R i:=by
 rcases h with rfl|rfl|⟨k,b,h⟩
 ·exact S.rs
 ·exact S.rj
 ·exact(S.rw k b i h).1
theorem SrvR.away(S:SrvR kx R B w bs g c s Ls K wt hd lw lh lj RW)(f:Fr D w w')(b:∀i,D i->¬R i):SrvR kx R B w' bs g c s Ls K wt hd lw lh lj RW:=
 ⟨λi hi=>⟨(S.reg i hi).1,QJ (S.reg i hi).2 f.size⟩,S.rs,S.rj,S.ne,S.rw,S.cell.fr f λh=>b _ h S.rs,S.jobs.fr f λg _ d h=>by cases d;exact b _ h S.rj,
  S.st.away f λk e i hi h=>b i h (S.rw k e i hi).1,S.fz.away f b,S.gi,S.ci,S.ps,S.so⟩
theorem SrvP.away(S:SrvP R B w bs g c s)(f:Fr D w w')(b:∀i,D i->¬R i):SrvP R B w' bs g c s:=by
 obtain⟨K,wt,hd,lw,lh,lj,RW,S⟩:=S;exact⟨K,wt,hd,lw,lh,lj,RW,S.away f b⟩
theorem SrvR.up[L:Le w w'](S:SrvR kx R B w bs g c s Ls K wt hd lw lh lj RW):SrvR kx R B w' bs g c s Ls K wt hd lw lh lj RW:=S.away L.e λ_ h=>h.elim
theorem SrvP.up[L:Le w w'](S:SrvP R B w bs g c s):SrvP R B w' bs g c s:=S.away L.e λ_ h=>h.elim
theorem SrvR.wide{R':Nat->Prop}(S:SrvR kx R B w bs g c s Ls K wt hd lw lh lj RW)(h:∀i,R i->R' i)(d:∀i,R' i->B<=i/\i<w.heap.size):SrvR kx R' B w bs g c s Ls K wt hd lw lh lj RW:=
 ⟨d,h _ S.rs,h _ S.rj,S.ne,λk b i hi=>⟨h _ (S.rw k b i hi).1,(S.rw k b i hi).2⟩,S.cell,S.jobs,S.st,λu f=>S.fz u (f.mono λi _ e=>e.imp id λl o=>l (h i o)),S.gi,S.ci,S.ps,S.so⟩
theorem SrvX.wide{R':Nat->Prop}(S:SrvX R B w bs g c s Ls)(h:∀i,R i->R' i)(b:∀i,R' i->B<=i/\i<w.heap.size):SrvX R' B w bs g c s Ls:=by
 obtain⟨K,wt,hd,lw,lh,lj,RW,S⟩:=S;exact⟨K,wt,hd,lw,lh,lj,RW,S.wide h b⟩
theorem SrvX.reg(S:SrvX R B w bs g c s Ls):(∀i,R i->B<=i/\i<w.heap.size)/\GrIs g/\CfOk c/\SvOk g c s:=by
 obtain⟨K,wt,hd,lw,lh,lj,RW,S⟩:=S;exact⟨S.reg,S.gi,S.ci,S.so⟩
theorem SrvR.mutN(S:SrvR kx R B w bs g c s Ls K wt hd lw lh lj RW){b:Nat->Nat->Prop}(h:GrowR c.workers RW b n):∀i,i<n->mutS bs K.bj c.workers b i->mutS bs K.bj c.workers RW i:=λi hi l=>by
 rcases l with d|d|⟨k,e,d⟩
 ·exact .inl d
 ·exact .inr (.inl d)
 ·exact(h k e i d).elim (λf=>.inr (.inr ⟨k,e,f⟩)) λf=>by omega
theorem SrvR.fin{s':SvD}{Ls':Nat->List StD}{b d:SV}{o:List RReq}{p:List RHeld}{h:List RJob}{l:Nat->Nat->Prop}(S:SrvR kx R B w bs g c s Ls K wt hd lw lh lj RW)(e:w.heap.size<=w1.heap.size)
  (f:Fr (mutS bs K.bj c.workers RW) w1 w')(A:B<=w.heap.size)(C:Bk w' bs (srvL c K b d) 87)(J:Own B 188 w' (.slice (some ⟨K.bj,0,none⟩) c.slots K.jc) h)(T:Stos B w' c.workers K c.pool l Ls')(G:GrowR c.workers RW l w1.heap.size)
  (x:SvOk g c s')(Z:Fz (mutS bs K.bj c.workers RW) (gR R w w1) w1 (SrvF kx' g c K b d o p h s')):SrvR kx' (gR R w w') B w' bs g c s' Ls' K b d o p h l:=by
 have E:=f.size;refine⟨λi hi=>?_,.inl S.rs,.inl S.rj,S.ne,λk r i hi=>?_,C,J,T,?_,S.gi,S.ci,S.ps,x⟩
 ·rcases hi with hi|hi
  ·have:=S.reg i hi;omega
  ·omega
 ·have F:=S.reg bs S.rs;have H:=S.reg K.bj S.rj;have y:=G k r i hi;rcases y with v|v
  ·exact⟨.inl (S.rw k r i v).1,(S.rw k r i v).2⟩
  ·have:=T.lt k r i hi;exact⟨.inr ⟨by omega,this⟩,by omega,by omega⟩
 ·refine Z.step f (λi hi z=>S.mutN G i hi z) λi hi t=>?_;rcases t with t|t
  ·exact .inl t
  ·exact .inr (by omega)
theorem SrvR.loose(S:SrvR 1000 R B w bs g c s Ls K wt hd lw lh lj RW)(k0:Nat):SrvR k0 R B w bs g c s Ls K wt hd lw lh lj RW:=by
 have o:=S.so.len;have r:=S.ci.slots;refine⟨S.reg,S.rs,S.rj,S.ne,S.rw,S.cell,S.jobs,S.st,S.fz.imp λu b=>⟨b.rows,b.pos,b.words,b.wk,b.fw,b.fh,b.lwn,b.waits,b.lhn,b.ljn,λk h l=>?_⟩,S.gi,S.ci,S.ps,S.so⟩;have f:=b.helds k h l;have t:=b.lhn
 cases e:s.held.getD k none with
 |none=>rw [e] at f;exact f
 |some p=>obtain⟨d,i⟩:=p;rw [e] at f;exact⟨f.1,f.2.1,λ_=>f.2.2 (by omega)⟩
theorem SrvX.z(S:SrvX R B w bs g c s Ls)(k0:Nat):SrvZ R B w bs g c s Ls k0:=by
 obtain⟨K,wt,hd,lw,lh,lj,RW,S⟩:=S;exact⟨K,wt,hd,lw,lh,lj,RW,S.loose k0⟩
theorem SrvR.fz1[L:Le w w'](S:SrvR kx R B w bs g c s Ls K wt hd lw lh lj RW):Fz (mutS bs K.bj c.workers RW) (gR R w w') w' (SrvF kx g c K wt hd lw lh lj s):=
 S.fz.step (Fr.fr L.e) (λ_ _ h=>h) λ_ _ h=>.inl h
theorem SrvR.fzO{α:Type}[Enc α]{C:Nat}{e:TypeId}{v:Value}{l:List α}(S:SrvR kx R B w bs g c s Ls K wt hd lw lh lj RW)(O:Own C e w' v l)(d:w.heap.size<=C):Fz (mutS bs K.bj c.workers RW) (gR R w w') w' λu=>SlF u v l:=
 O.fz λi f b=>⟨.inr ⟨by omega,b⟩,λh=>by have:=S.reg i (S.mut h);omega⟩
theorem gR_gR(b:w.heap.size<=u.heap.size)(d:u.heap.size<=u'.heap.size):∀i,gR (gR R w u) u u' i->gR R w u' i:=λi hi=>by
 rcases hi with (hi|hi)|hi
 ·exact .inl hi
 ·exact .inr (by omega)
 ·exact .inr (by omega)
theorem zBN{bs b W:Nat}{RW:Nat->Nat->Prop}(h:anyR W RW i):mutS bs b W RW i:=.inr (.inr h)
end
section
variable {kx:Nat} {R:Nat->Prop} {B:Nat} {w0 w w':World} {bs:Nat} {g:GrD} {c:CfD} {s:SvD} {Ls:Nat->List StD} {K:SrvK} {wt hd:SV} {lw:List RReq} {lh:List RHeld} {lj:List RJob} {RW:Nat->Nat->Prop}
theorem zN3{b:Hs}{k0:Nat}{a:RHeld}{j:RJob}{o:Option (RqD×Nat)}(d:k0<b.length)(H:∀k (h:k<lh.length) (f:k<lj.length),HeldOk kx u g lh[k] lj[k] (b.getD k none) k)(h:HeldOk kx u g a j o k0):
  ∀k (h:k<(lh.set k0 a).length) (f:k<(lj.set k0 j).length),HeldOk kx u g (lh.set k0 a)[k] (lj.set k0 j)[k] ((b.set k0 o).getD k none) k:=λk l p=>by
 rw [zAA d];by_cases e:k=k0
 ·subst e;rw [if_pos rfl,JX,JX];exact h
 ·rw [if_neg e,JT (Jq e),JT (Jq e)];exact H k (by simpa using l) (by simpa using p)
theorem heldsZ{f:Hs}{k0:Nat}{a:RHeld}{j:RJob}(o:k0<f.length)(H:∀k (h:k<lh.length) (r:k<lj.length),HeldOk k0 u g lh[k] lj[k] (f.getD k none) k)(t:a.used=false:=by rfl):
  ∀k (h:k<(lh.set k0 a).length) (r:k<(lj.set k0 j).length),HeldOk 1000 u g (lh.set k0 a)[k] (lj.set k0 j)[k] ((f.set k0 none).getD k none) k:=λk v x=>by
 rw [zAA o];by_cases e:k=k0
 ·subst e;rw [if_pos rfl,JX,JX];exact t
 ·rw [if_neg e,JT (Jq e),JT (Jq e)];have b:=H k (by simpa using v) (by simpa using x)
  cases l:f.getD k none with
  |none=>rw [l] at b;exact b
  |some p=>obtain⟨d,i⟩:=p;rw [l] at b;exact⟨b.1,b.2.1,λ_=>b.2.2 e⟩
theorem Stos.congr{W b:Nat}{Ls':Nat->List StD}(T:Stos B w W K b RW Ls)(h:∀k,k<W->Ls k=Ls' k):Stos B w W K b RW Ls':=
 ⟨T.dis,λk d=>h k d ▸ T.sto k d,T.lt⟩
theorem bjD{v:Nat}(h:ownD B (.slice (some ⟨v,0,none⟩) n m) i):i=v:=by have:=h.2.1;cases this;rfl
theorem zDE{k0:Nat}{x:RqD}(S:SrvR k0 R B w bs g c s Ls K wt hd lw lh lj RW)(H:ButS g c.workers s.held k0 Ls)(C:s.held.getD k0 none=some (x,i))(hB:B<=w.heap.size):
  Sp PP 54 #[.pointer (some ⟨bs,0,none⟩),.int .i64 (k0:Int)] w λ_ w'=>SrvP (gR R w w') B w' bs g c ⟨s.wait,s.held.set k0 none⟩/\Fr (mutS bs K.bj c.workers RW) w w':=by
 have e:=(zAo C).1;have r:=S.fz.here;have Y:=S.so.len;have a0:=S.ci.slots;have hW:=S.ci.workers;have t:k0<lh.length:=by rw [r.lhn];exact e
 have v:k0<lj.length:=by rw [r.ljn];exact e
 have E:lh[k0].used=true:=by
  have:=r.helds k0 t v;rw [C] at this;exact this.1
 have a1:lh.length<=64:=by rw [r.lhn];omega
 have D:=zJP (i:=(k0:Int)) r.fh (by omega)
 have F:dropH lh (k0:Int)=(lh.set k0 zeroH,0):=by
  unfold dropH;rw [if_neg (by omega),QW,zAq t,if_pos E]
 rw [F] at D;have a4:=S.reg _ S.rj;refine eN ?_;refine rX S.cell rfl (rcall D ?_);rintro _ w1 ⟨⟨v',rfl,Z⟩,e1⟩;have q_:=Z.shape;obtain⟨I,J,rfl⟩:=q_;refine iT rfl (rS S.cell [.slice I (lh.set k0 zeroH).length J] (sv1 _ _ _) λw2 z f2 _=>?_);have z:Bk w2 bs (srvL c K wt ⟨I,(lh.set k0 zeroH).length,J⟩) 87:=z;refine rX z rfl (rbuild (cs:=enc zJob) rfl ?_);have J2:=(S.jobs.up (w':=w1)).fr f2 (λg _ L h=>by cases L;exact S.ne h.symm);refine rixO rfl J2 (x:=lj[k0]) (by simp) λgj hgj _ _=>rstO' rfl zJob J2 hgj v rfl λo J3 A _=>?_;have A:Fr (λi=>i=K.bj) w2 o:=A.mono λi _ hi=>bjD hi;have p:Fr (λi=>i=bs\/i=K.bj) w1 o:=(f2.mono λi _ hi=>.inl hi).trans (A.mono λi _ hi=>.inr hi);have C3:=z.fr A S.ne
 have Z1:Fz (mutS bs K.bj c.workers RW) (gR R w w1) w1 (SrvF 1000 g c K wt ⟨I,(lh.set k0 zeroH).length,J⟩ lw (lh.set k0 zeroH) (lj.set k0 zJob) ⟨s.wait,s.held.set k0 none⟩):=
  ((S.fz1 (w':=w1)).and (S.fzO Z (Qe _))).imp λu ⟨l,Sh⟩ =>
   ⟨l.rows,l.pos,l.words,l.wk,l.fw,Sh,l.lwn,l.waits,by simp [l.lhn],by simp [l.ljn],heldsZ e l.helds⟩
 have y:Fr (mutS bs K.bj c.workers RW) w1 o:=p.mono λi _ hi=>hi.elim .inl λh=>.inr (.inl h);have a5:=p.size;have M:Fz (mutS bs K.bj c.workers RW) (gR R w o) o _:=Z1.step y (λ_ _ h=>h) (λi _ h=>h.imp id λh=>by omega);have T3:Stos B o c.workers K c.pool RW Ls:=(S.st.up (w':=w1)).away p λk e i hi h=>by have:=(S.rw k e i hi).2;omega
 have F3:=M.here;have a6:K.wk.n=c.workers:=by have:=F3.wk.len;simpa using this
 refine rX C3 rfl ?_
 refine cN 35 [7] 35 c.workers (λj u=>∃b,Stos B u c.workers K c.pool b (λk=>if k<j then dropS (Ls k) k0 else Ls k)/\GrowR c.workers RW b o.heap.size/\Fr (anyR c.workers RW) o u)
  ⟨RW,T3.congr λk _=>by simp,.refl _,Fr.refl _ _⟩ ?_
 rintro j G u hj ⟨b,T,O,f⟩;have Fu:=M u (f.mono λi _ h=>.inl (zBN h));refine ite (λhlt=>?_) (λQ=>?_)
 ·have d:j<c.workers:=by (try dsimp only at hlt);omega
  refine rix Fu.wk (x:=⟨K.sb j⟩) (by simp [d]) λb1 o1 A1=>rload1 (A1.cell0 rfl) ?_;have Tj:StoP (b j) B u (K.sb j) (K.sg j) c.pool (Ls j):=by have:=T.sto j d;rwa [if_neg (Yc _)] at this
  refine rcall (zJS (s:=(k0:Int)) Tj) ?_;rintro _ u1 ⟨rfl,S1,_,f1⟩;refine rA ⟨rfl,d,updR b j (gR (b j) u u1),(T.put d S1 f1).congr λk _=>?_,O.put f.size,O.fr f d f1⟩;unfold updL;dsimp only;by_cases h1:k=j
  ·subst h1;rw [if_pos rfl,if_pos (by omega)]
  ·rw [if_neg h1];by_cases h2:k<j
   ·rw [if_pos h2,if_pos (by omega)]
   ·rw [if_neg h2,if_neg (by omega)]
 ·have U:j=c.workers:=by (try dsimp only at Q);omega
  subst U;have T':Stos B u c.workers K c.pool b (wkS g c.workers (s.held.set k0 none)):=T.congr λk V=>by rw [if_pos V];exact H.drop e k
  have W:¬anyR c.workers RW bs:=λ⟨k,e,h⟩=>(S.rw k e _ h).2.1 rfl;have X:¬anyR c.workers RW K.bj:=λ⟨k,e,h⟩=>(S.rw k e _ h).2.2 rfl;have z1:=lz w w1;refine⟨⟨K,wt,_,lw,_,_,b,S.fin (w1:=o) (by omega) (f.mono λi _ h=>zBN h) hB (C3.fr f W) (J3.fr f λg _ L h=>by cases L;exact X h) T' O (zP5 S.so C) M⟩,?_⟩;exact((fE w w1).trans y).trans (f.mono λi _ h=>zBN h)
theorem zIL{k0:Nat}{x:RqD}(S:SrvZ R B w bs g c s Ls k0)(H:ButS g c.workers s.held k0 Ls)(b:s.held.getD k0 none=some (x,i))(d:B<=w.heap.size):
  Sp PP 54 #[.pointer (some ⟨bs,0,none⟩),.int .i64 (k0:Int)] w λ_ w'=>SrvP (gR R w w') B w' bs g c ⟨s.wait,s.held.set k0 none⟩/\Fr R w w':=by
 obtain⟨K,wt,hd,lw,lh,lj,RW,S⟩:=S;exact(zDE S H b d).mono λv w' h=>⟨h.1,h.2.mono λi _ h=>S.mut h⟩
theorem zKF{lw:List RReq}{l:List RqD}(b:lw.length=l.length)(h:∀i (h:i<lw.length) (o:i<l.length),lw[i].id=l[i].id)(id:Int):plc lw id=waitAt l id:=
 zGq (f:=λr:RReq=>some r.id) (f':=λr:RqD=>some r.id) (id:=id) (λx=>by simp) (λx=>by simp) (zF4 b λi d e=>by rw [h i d e])
theorem zHA{h:Hs}(l:lh.length=h.length)(v:lj.length=h.length)(H:∀k (b:k<lh.length) (y:k<lj.length),HeldOk kx w g lh[k] lj[k] (h.getD k none) k)(id:Int):foundAt lh id=heldAt h id:=by
 refine zGq (f:=λr:RHeld=>if r.used then some r.r.id else none) (f':=λo=>o.map λp=>p.1.id) (id:=id) (λx=>?_) (λx=>?_) (zF4 l λi b t=>?_)
 ·cases x.used <;> simp
 ·cases x <;> simp
 ·have:=H i b (by omega);rw [Qk,Qd t,QP] at this
  cases e:h[i] with
  |none=>rw [e] at this;simp only [HeldOk] at this;simp [this]
  |some p =>
   obtain⟨d,j⟩:=p;rw [e] at this;simp [this.1,this.2.1.id]
theorem SrvF.plc(b:SrvF kx g c K wt hd lw lh lj s u)(id:Int):plc lw id=waitAt s.wait id:=zKF b.lwn (λi h d=>(b.waits i h d).id) id
theorem SrvF.found(b:SrvF kx g c K wt hd lw lh lj s u)(id:Int):foundAt lh id=heldAt s.held id:=zHA b.lhn b.ljn b.helds id
theorem SrvR.small(S:SrvR kx R B w bs g c s Ls K wt hd lw lh lj RW):lw.length<=1000/\lh.length<=64:=by
 have b:=S.fz.here;have:=S.so.len;have:=S.so.wl;have:=S.ci.slots;have:=S.ci.queue;rw [b.lwn,b.lhn];omega
theorem SrvR.waits[L:Le w w1]{s':SvD}{f:Option Addr}{l:Nat}{b:List RReq}(S:SrvR 1000 R B w bs g c s (wkS g c.workers s.held) K wt hd lw lh lj RW)(o:B<=w.heap.size)(p:s'.held=s.held)
  (r:Bk w2 bs (srvL c K ⟨f,b.length,l⟩ hd) 87)(d:Fr (λi=>i=bs) w1 w2)(t:SvOk g c s')
  (v:Fz (mutS bs K.bj c.workers RW) (gR R w w1) w1 (SrvF 1000 g c K ⟨f,b.length,l⟩ hd b lh lj s')):SrvP (gR R w w2) B w2 bs g c s'/\∀u,Le u w1->Fr R u w2:=by
 have z:=L.e.size;refine⟨⟨K,⟨f,b.length,l⟩,hd,b,lh,lj,RW,?_⟩,λu x=>(Fr.fr x.e).trans (d.mono λi _ h=>h ▸ S.rs)⟩;rw [p];refine S.fin z (d.mono λi _ h=>.inl h) o r ?_ ?_ (.refl _) t v
 ·exact(S.jobs.up (w':=w1)).fr d λg _ y h=>by cases y;exact S.ne h.symm
 ·exact(S.st.up (w':=w1)).away d λk A i hi h=>(S.rw k A i hi).2.1 h
theorem SrvP.new[L:Le w w'](S:SrvP R B w bs g c s)(b:B<=w.heap.size):SrvP (gR R w w') B w' bs g c s/\Fr R w w':=by
 have h:=SrvX.reg S;refine⟨SrvX.wide (SrvP.up S) (λi hi=>.inl hi) λi hi=>?_,Fr.fr L.e⟩;have:=L.e.size;rcases hi with hi|hi
 ·have:=h.1 i hi;omega
 ·omega
theorem SrvP.gr[L:Le w w1](S:SrvP (gR R w1 w') B w' bs g c s)(h:w1.heap.size<=w'.heap.size)(b:B<=w.heap.size):SrvP (gR R w w') B w' bs g c s:=by
 have h0:=SrvX.reg S;have:=L.e.size;refine SrvX.wide S (λi hi=>hi.imp id λh=>by omega) λi hi=>?_;rcases hi with hi|hi
 ·exact h0.1 i (.inl hi)
 ·omega
theorem SrvP.lo(S:SrvP R B w bs g c s):∀i,R i->i<w.heap.size:=λi hi=>((SrvX.reg S).1 i hi).2
theorem zIK{x:RReq}(S:SrvP R B w0 bs g c s)[L:Le w0 w](o:B<=w0.heap.size):
  Sp PP 64 #[.pointer (some ⟨bs,0,none⟩),agg x] w λv w'=>v=.int .i64 (backS s x.id).2/\SrvP (gR R w0 w') B w' bs g c (backS s x.id).1/\Fr R w w':=by
 have J:=S;obtain⟨K,wt,hd,lw,lh,lj,RW,S⟩:=S;have p:=S.fz.here;have V:=S.small;have r:=p.plc x.id;have t:=p.found x.id;have ok:=(zMv S.so x.id).1;have W:=p.fw.len;refine eN ?_;refine rbx λb1 w1 n1 M=>dQ 12 λw2 e2=>tX S.cell rfl nf (tX M rfl nf ?_);refine rcall (zLy (id:=x.id) (S.fz.at (w':=w2)).fw (by omega)) ?_;rintro _ A ⟨⟨v',rfl,d⟩,O⟩;refine⟨Fr.fr O,?_⟩;have s3:Stp w2 A:=⟨O⟩;unfold takeR at d ⊢;unfold backS at ok ⊢;rw [r] at d ⊢
 cases C:waitAt s.wait x.id with
 |some k =>
  rw [C] at d ok;have f:=zM8 C;obtain⟨hk,X⟩:=f;dsimp only at d ok ⊢;have f:=d.shape;obtain⟨a3,c3,rfl⟩:=f;refine rS S.cell [.slice a3 (lw.take k++lw.drop (k+1)).length c3] (sv1 _ _ _) λE F Y _=>?_;have F:Bk E bs (srvL c K ⟨a3,(lw.take k++lw.drop (k+1)).length,c3⟩ hd) 87:=F;have Q:=S.waits (w1:=A) (s':=⟨s.wait.eraseIdx k,s.held⟩) o rfl F Y ok ?_;exact⟨rfl,Q.1,Q.2 w inferInstance⟩;refine((S.fz1 (w':=A)).and (S.fzO d (lz w0 w2))).imp λu ⟨b,Z⟩=>⟨b.rows,b.pos,b.words,b.wk,Z,b.fh,?_,λi h h'=>?_,b.lhn,b.ljn,b.helds⟩
  ·have:=b.lwn;simp only [Qb,Qm,QR,Vt];split <;> omega
  ·have hl:=b.lwn;dsimp only at h';have G:s.wait.eraseIdx k=s.wait.take k++s.wait.drop (k+1):=Jp ..;simp only [G,VR,Qm];have H:min k lw.length=k:=by omega
   have I:min k s.wait.length=k:=by omega
   simp only [H,I];split
   ·simp only [VI];exact b.waits i (by omega) (by omega)
   ·simp only [Yf];have:i<(lw.take k++lw.drop (k+1)).length:=h;simp only [Qb,Qm,QR] at this;exact b.waits (k+1+(i - k)) (by omega) (by omega)
 |none =>
  rw [C] at ok;dsimp only at ok ⊢;refine dQ 12 λE e4=>tX S.cell rfl nf (tX M rfl nf ?_);refine rcall (zE4 (id:=x.id) (S.fz.at (w':=E)).fh (by omega)) ?_;rintro _ l ⟨rfl,e5⟩;refine⟨e5.e,?_⟩;rw [t]
  cases hh:heldAt s.held x.id with
  |some k =>
   have f:=zIm hh;obtain⟨y,i,hy,T⟩:=f;refine rcall (zIL (k0:=k) (SrvX.z (SrvP.up (w':=l) J) k) (zOO k) hy (Qw o (lz w0 l))) ?_;rintro _ w6 ⟨S6,U⟩;exact⟨rfl,SrvP.gr (w:=w0) S6 U.size o,(fE w l).trans U⟩
  |none =>
   exact⟨rfl,(SrvP.new (w':=l) J o).1,fE w l⟩
theorem RqIs.small{d:RqD}(h:RqIs d):d.q.words.length<=8/\∀s∈d.q.words,s.size<=12:=by
 obtain⟨e,r,b⟩:=h;by_cases f:d.kind=4
 ·rw [if_pos f] at b;rw [b];simp [zQy]
 ·rw [if_neg f] at b;rcases e with e|⟨e,l⟩
  ·exact absurd e f
  ·by_cases o:d.kind=3
   ·have:=l.2.2.2 (by omega);exact⟨this.1.2,λs p=>(this.2.2.2 s p).2.2⟩
   ·rw [if_neg o] at b;rw [b.1];simp
theorem RqO.up{B:Nat}[L:Le w w']{x:RReq}{d:RqD}(h:RqO B w x d):RqO B w' x d:=⟨h.1,h.2.1,h.2.2.1,h.2.2.2.1,h.2.2.2.2.1,h.2.2.2.2.2.1.up,h.2.2.2.2.2.2⟩
theorem RqO.fz{M R:Nat->Prop}{B:Nat}{x:RReq}{d:RqD}(h:RqO B w x d)(b:∀i,B<=i->i<w.heap.size->R i/\¬M i):Fz M R w λu=>RqV u x d:=λu f =>
 ⟨h.1,h.2.1,⟨h.2.2.1,h.2.2.2.1,h.2.2.2.2.1,h.2.2.2.2.2.1.fz b u f,h.2.2.2.2.2.2.1,h.2.2.2.2.2.2.2⟩⟩
theorem SrvF.off(b:SrvF kx g c K wt hd lw lh lj s u):K.xr.off.n=g.n+1:=by
 have:=b.rows.off.len;rw [zAp] at this;exact this
theorem zJO{x:RReq}{d:RqD}(S:SrvP R B w0 bs g c s)[L:Le w0 w](T:B<=w0.heap.size)(O:RqO w0.heap.size w x d)(C:RqIs d):
  Sp PP 63 #[.pointer (some ⟨bs,0,none⟩),agg x] w λv w'=>v=.int .i64 (askS g c s d (QyIs d.q g.n)).2/\SrvP (gR R w0 w') B w' bs g c (askS g c s d (QyIs d.q g.n)).1/\Fr R w w':=by
 have W:=S;obtain⟨K,wt,hd,lw,lh,lj,RW,S⟩:=S;have E:=S.fz.here;have a4:=S.small;have F:=C.small;have o:x.id=d.id:=O.1;have G:=E.plc x.id;have H:=E.found x.id;rw [o] at G H;have I:=E.off;have a5:=S.gi.ok.n2;have p:=ask_ok (x:=d) S.so C.2.1;have t:∃s' b,askS g c s d (QyIs d.q g.n)=(s',b):=⟨_,_,rfl⟩;obtain⟨s',b,l⟩:=t
 have X:¬QyIs d.q g.n->s'=s/\b=180:=λh=>by
  unfold askS at l;rw [if_neg h] at l;cases l;exact⟨rfl,rfl⟩
 have Y:QyIs d.q g.n->∀k,heldAt s.held d.id=some k->s'=s/\b=150:=λh k Z=>by
  unfold askS at l;rw [if_pos h,Z] at l;cases l;exact⟨rfl,rfl⟩
 have a0:QyIs d.q g.n->heldAt s.held d.id=none->∃L,putR lw c.queue x=(L,b)/\(b=0/\L=lw++[x]/\s'=⟨s.wait++[d],s.held⟩\/b≠0/\s'=s):=λh Z=>by
  unfold askS at l;rw [if_pos h,Z,if_neg (by simp)] at l;unfold putR;rw [o,G]
  cases hw:waitAt s.wait d.id with
  |some k=>rw [hw] at l;cases l;exact⟨[],rfl,.inr ⟨by decide,rfl⟩⟩
  |none =>
   rw [hw,if_neg (by simp)] at l;rw [if_neg (by simp)];have e:((c.queue:Int)<=(lw.length:Nat))↔c.queue<=s.wait.length:=by rw [E.lwn];omega
   by_cases z:c.queue<=s.wait.length
   ·rw [if_pos z] at l;cases l;rw [if_pos (e.2 z)];exact⟨[],rfl,.inr ⟨by decide,rfl⟩⟩
   ·rw [if_neg z] at l;cases l;rw [if_neg (λh=>z (e.1 h))];exact⟨_,rfl,.inl ⟨rfl,rfl,rfl⟩⟩
 rw [l] at p ⊢;dsimp only at p ⊢;refine eN ?_;refine rbx λb1 w1 n1 B1=>dQ 11 λw2 e2=>tG B1 x.q nf (tX S.cell rfl nf ?_);rw [I];refine rarE (y:=(g.n:Int)) (by push_cast;omega) (by omega) ?_;have V2:QyV w2 x.q d.q:=((RqO.up (w':=w2) O).v).q;refine rcall (zEY (n:=(g.n:Int)) V2 (by omega) (λs hs=>by have:=F.2 s hs;omega)) ?_;rintro _ w3 ⟨J,e3⟩;refine⟨e3.e,?_⟩;rcases J with ⟨U,rfl⟩|⟨U,rfl⟩
 case inr =>
  have t:=X U;obtain⟨rfl,rfl⟩:=t;refine iT (by first|omega|decide|(dsimp only <;> omega)) ?_;exact⟨rfl,(SrvP.new (w':=w3) W T).1,fE w w3⟩
 refine iF (· rfl) (dQ 12 λw4 e4=>tX S.cell rfl nf (tX B1 rfl nf ?_));have D:=zE4 (id:=x.id) (S.fz.at (w':=w4)).fh (by omega);rw [o,H] at D;refine rcall (f:=126) (by rw [o];exact D) ?_;rintro _ w5 ⟨rfl,e5⟩;refine⟨e5.e,?_⟩
 cases hh:heldAt s.held d.id with
 |some k =>
  have t:=Y U k hh;obtain⟨rfl,rfl⟩:=t;exact⟨rfl,(SrvP.new (w':=w5) W T).1,fE w w5⟩
 |none =>
  have t:=a0 U hh;obtain⟨L,Q,hL⟩:=t;have a6:=E.fw.len;refine dQ 16 λw6 e6=>tX S.cell rfl nf (tX S.cell rfl nf ?_);refine tG B1 x nf ?_;have D:=zMp (most:=(c.queue:Int)) (x:=x) (S.fz.at (w':=w6)).fw (by omega);rw [Q] at D;refine rcall D ?_;rintro _ A ⟨⟨v',rfl,O7⟩,e7⟩;refine⟨Fr.fr e7,?_⟩;have s7:Stp w6 A:=⟨e7⟩;rcases hL with ⟨rfl,rfl,rfl⟩|⟨a1,rfl⟩
  case inr =>
   refine iF a1 ?_;exact⟨rfl,(SrvP.new (w':=A) W T).1,fE w A⟩
  refine iT rfl ?_;dsimp only at O7;have t:=O7.shape;obtain⟨a7,c7,rfl⟩:=t;refine rS S.cell [.slice a7 (lw++[x]).length c7] (sv1 _ _ _) λw8 C8 f8 _=>?_;have C8:Bk w8 bs (srvL c K ⟨a7,(lw++[x]).length,c7⟩ hd) 87:=C8
  have ok:SvOk g c ⟨s.wait++[d],s.held⟩:=by
   rcases p with ⟨_,_,h3,_⟩|⟨h1,_⟩
   ·exact h3
   ·omega
  have hW:=S.waits (w1:=A) (s':=⟨s.wait++[d],s.held⟩) T rfl C8 f8 ok ?_;exact⟨rfl,hW.1,hW.2 w inferInstance⟩;have ZO:=(RqO.up (w':=A) O).fz (M:=mutS bs K.bj c.workers RW) (R:=gR R w0 A) λi h1 h2=>⟨.inr ⟨h1,h2⟩,λh=>by have:=S.reg i (S.mut h);omega⟩;refine((S.fz1 (w':=A)).and ((S.fzO O7 (lz w0 w6)).and ZO)).imp λu ⟨r,Sw,V⟩=>⟨r.rows,r.pos,r.words,r.wk,Sw,r.fh,?_,λi h h'=>?_,r.lhn,r.ljn,r.helds⟩
  ·simp [r.lwn]
  ·have hl:=r.lwn;simp only [VR];by_cases hi:i<lw.length
   ·rw [dif_pos hi,dif_pos (by omega)];exact r.waits i hi (by omega)
   ·rw [dif_neg hi,dif_neg (by omega)];simp only [List.getElem_singleton];exact V
end
section
variable {kx:Nat} {R:Nat->Prop} {B:Nat} {w0 w w':World} {bs:Nat} {g:GrD} {c:CfD} {s:SvD} {Ls:Nat->List StD} {K:SrvK} {wt hd:SV} {lw:List RReq} {lh:List RHeld} {lj:List RJob} {RW:Nat->Nat->Prop}
theorem SrvF.wkn(b:SrvF kx g c K wt hd lw lh lj s u):K.wk.n=c.workers:=by have:=b.wk.len;simpa using this
theorem zII(S:SrvP R B w bs g c s):Sp PP 19 #[.pointer (some ⟨bs,0,none⟩)] w λv w'=>Own w.heap.size 3 w' v ((List.range c.workers).map λk=>(liveW g c.workers s.held k:Int))/\Stp w w':=by
 obtain⟨K,wt,hd,lw,lh,lj,RW,S⟩:=S;have r:=S.ci.workers;have e:=S.fz.here.wkn;refine eN ?_;refine rpnil (rX S.cell rfl (cO 13 [5] 3 13 c.workers (λj v u=>Own w.heap.size 3 u v ((List.range j).map λk=>(liveW g c.workers s.held k:Int))/\Stp w u) ⟨Own.nil _ _ _,stp⟩ ?_));rintro j v G u t ⟨O,f⟩;refine ite (λhlt=>?_) (λd=>?_)
 ·have b:j<c.workers:=by (try dsimp only at hlt);omega
  refine rix (S.fz.at (w':=u)).wk (x:=⟨K.sb j⟩) (by simp [b]) λy z h=>rload1 (h.cell0 rfl) (rcall (zJT ((S.st.sto j b).up (w':=u))) ?_);rintro _ A ⟨rfl,C⟩;refine bS ((liveW g c.workers s.held j:Nat):Int) λE l F _ o=>rapp1 (u:=w) ⟨rfl,rfl⟩ (O.up (w':=l)) o (by simp;omega) λH I p J L=>rA ⟨rfl,b,?_,stp⟩;rw [Jm,QB];exact p
 ·obtain rfl:j=c.workers:=by (try dsimp only at d);omega
  exact⟨O,f⟩
theorem SrvF.usedH(b:SrvF kx g c K wt hd lw lh lj s u):usedH lh=(usedS s.held).map λk:Nat=>(k:Int):=by
 unfold Go.W.usedH usedAt usedS;rw [b.lhn];congr 1;unfold selN;refine XC λk f=>?_;have f:=Q0.1 f;have h:k<lh.length:=by rw [b.lhn];exact f
 have:=b.helds k h (by rw [b.ljn];exact f);rw [zAq h]
 cases e:s.held.getD k none with
 |none=>rw [e] at this;simp only [HeldOk] at this;simp [this]
 |some p=>obtain⟨d,i⟩:=p;rw [e] at this;simp [this.1]
theorem SrvF.free(f:SrvF kx g c K wt hd lw lh lj s u):freeAt lh=freeS s.held:=by
 have l:freeAt lh=(lh.map (·.used)).findIdx? λb=>!b:=by unfold freeAt;rw [VH];rfl
 have r:freeS s.held=(s.held.map (·.isSome)).findIdx? λb=>!b:=by unfold freeS;rw [VH];congr 1;funext o;cases o <;> rfl
 rw [l,r];congr 1;refine zF4 f.lhn λk t h=>?_;have:=f.helds k t (by rw [f.ljn];exact h);rw [Qk,Qd h,QP] at this
 cases e:s.held[k] with
 |none=>rw [e] at this;simpa [HeldOk] using this
 |some p=>obtain⟨d,j⟩:=p;rw [e] at this;simpa using this.1
theorem zH6(S:SrvP R B w bs g c s)(hB:B<=w.heap.size):
  Sp PP 51 #[.pointer (some ⟨bs,0,none⟩)] w λ_ w'=>SrvP (gR R w w') B w' bs g c ⟨(admitS s.wait s.held).1,(admitS s.wait s.held).2⟩/\Fr R w w':=by
 refine eN ?_;have S0:SrvP (gR R w w) B w bs g c ⟨s.wait,s.held⟩:=SrvX.wide S (λi hi=>.inl hi) λi hi=>hi.elim ((SrvX.reg S).1 i) λh=>by omega
 refine loop0G TBok 8 [2,3,4,5,6,7] (λi u=>∃l h,l.length=i/\admitS l h=admitS s.wait s.held/\SrvP (gR R w u) B u bs g c ⟨l,h⟩/\Fr R w u) rfl ⟨_,s.wait,s.held,rfl,rfl,S0,Fr.refl _ _⟩ ?_;rintro i G u ⟨l,h,hi,H,S,f⟩;clear S0;have z0:=f.size;have SP:=S;obtain⟨K,wt,hd,lw,lh,lj,RW,S⟩:=S;have Q:=S.fz.here;have a8:=S.small;have p:=Q.lwn;have a6:=Q.fw.len;have b0:=S.reg _ S.rs;have b1:=S.reg _ S.rj;have z:=Q.free;dsimp only at p z;refine rX S.cell rfl (rcall (zLx Q.fw (by omega)) ?_);rintro _ u1 ⟨⟨v1,rfl,X⟩,e1⟩;have s1:Stp u u1:=⟨e1⟩;refine ral λbx u2 n2 X2=>?_;have b2:=n2.lo (u:=u);have a7:=n2.lt;refine rE X2 ((nextR lw).1) λu3 O f3 _=>?_;have O:Bk u3 bx (enc (nextR lw).1) 55:=O;have s3:Stp u1 u3:=n2.st f3;clear X2 f3;refine dQ 13 λu4 e4=>tX S.cell rfl nf (tG O ((nextR lw).1) nf (rcall (zLj (x:=(nextR lw).1) (S.fz.at (w':=u4)).fh (by omega)) ?_));rintro _ b ⟨⟨v5,rfl,I⟩,e5⟩;refine⟨e5.e,?_⟩
 have out:admitS l h=(l,h)->SrvP (gR R w b) B b bs g c ⟨(admitS s.wait s.held).1,(admitS s.wait s.held).2⟩/\Fr R w b:=λhe=>by
  rw [<-H,he];have h1:=lz u b;refine⟨SrvX.wide (SrvP.up (w':=b) SP) (λi hi=>hi.imp id λh=>by omega) λi hi=>?_,f.trans (fE u b)⟩;have T:=(SrvX.reg SP).1;rcases hi with hi|hi
  ·have:=T i (.inl hi);omega
  ·omega
 cases C:lw with
 |nil =>
  subst C;have a0:l=[]:=Qn (by simpa using p.symm);subst a0;exact out rfl
 |cons x r =>
  cases l with
  |nil=>rw [C] at p;simp at p
  |cons d l =>
  rw [C] at X I O;dsimp only [nextR] at X I O ⊢;unfold putH at I ⊢;rw [z] at I ⊢
  cases U:freeS h with
  |none =>
   dsimp only;refine iT (by first|omega|decide|(dsimp only <;> omega)) (out ?_);unfold admitS;rw [U]
  |some k =>
   have J:=zCu U;obtain⟨L,hn⟩:=J;rw [U] at I;dsimp only at I ⊢;refine iF (· rfl) ?_;have a1:k<lj.length:=by rw [Q.ljn];exact L
   have hV:Fz (mutS bs K.bj c.workers RW) (gR R w u) u λu'=>RqV u' x d:=S.fz.imp λu' y=>by
    have:=y.waits 0 (by rw [C];simp) (by simp);simp only [C,Vb] at this;exact this
   have V5:=hV.at (w':=b);have V:=S.so.wait d (by simp);have ok:=zIT S.ci S.so U;have J:=X.shape;obtain⟨Y,Z,rfl⟩:=J;have J:=I.shape;obtain⟨a5,c5,rfl⟩:=J;refine rS S.cell [.slice Y r.length Z] (sv1 _ _ _) λu6 C6 f6 _=>?_;have C6:Bk u6 bs (srvL c K ⟨Y,r.length,Z⟩ hd) 87:=C6;refine rS C6 [.slice a5 (lh.set k ⟨true,x⟩).length c5] (sv1 _ _ _) λA C7 f7 _=>?_;have C7:Bk A bs (srvL c K ⟨Y,r.length,Z⟩ ⟨a5,(lh.set k ⟨true,x⟩).length,c5⟩) 87:=C7;have t:Fr (λi=>i=bs) b A:=f6.trans f7;have b3:=t.size;have z5:=lz u b;have z3:=lz u3 b;have W:Fr (mutS bs K.bj c.workers RW) b A:=t.mono λi _ hi=>.inl hi;have X7:=(O.mv (w:=b)).fr t (by omega);have J7:=(S.jobs.up (w':=b)).fr t λg _ hg h=>by cases hg;exact S.ne h.symm
   have T7:=(S.st.up (w':=b)).away t λk L i hi h=>(S.rw k L i hi).2.1 h;have Z5:=((S.fz1 (w':=b)).and ((S.fzO (w':=b) (X.up (w':=b)) (Qe _)).and (S.fzO I (lz u u4))));have Z7:Fz (mutS bs K.bj c.workers RW) (gR (gR R w u) u A) A _:=Z5.step W (λ_ _ h=>h) λi _ h=>h.imp id λh=>by omega
   have M:RqV A x d:=hV A (((fE u b).trans W).mono λi _ h=>.inl h);refine dD (λi=>i=K.bj) (upF 12 0) λu8 e8=>tX C7 rfl (λh=>S.ne h) (tG X7 x.q (by omega) (rcall (zJH (g:=g) (q:=d.q) (slot:=(k:Int)) ⟨M.q.kind,M.q.frm,M.q.to⟩ V.q.ok) ?_));rintro v9 v ⟨O9,e9⟩;refine⟨Fr.fr e9.e,?_⟩;have J:=O9.shape;obtain⟨a9,c9,rfl⟩:=J;refine tbuild (cs:=enc (⟨⟨a9,(mls g d.q k 0).length,c9⟩,0⟩:RJob)) rfl ?_;have J9:=J7.up (w':=v);refine tixO rfl J9 (x:=lj[k]) (by simp) λgj hgj _ _=>rstO' rfl (⟨⟨a9,(mls g d.q k 0).length,c9⟩,0⟩:RJob) J9 hgj a1 rfl λF a4 o _=>?_;have o:Fr (λi=>i=K.bj) v F:=o.mono λi _ hi=>bjD hi;refine⟨o,?_⟩;have z9:=lz A v;have Z9:=(Z7.step (M':=mutS bs K.bj c.workers RW) (R':=gR (gR R w u) u v) (w':=v) (fE A v) (λ_ _ h=>h) (λi _ h=>h.imp id λh=>by omega)).and (S.fzO (w':=v) O9 (by have:=lz A u8;omega))
   have Zn:Fz (mutS bs K.bj c.workers RW) (gR (gR R w u) u v) v (SrvF 1000 g c K ⟨Y,r.length,Z⟩ ⟨a5,(lh.set k ⟨true,x⟩).length,c5⟩ r (lh.set k ⟨true,x⟩) (lj.set k ⟨⟨a9,(mls g d.q k 0).length,c9⟩,0⟩) ⟨l,h.set k (some (d,0))⟩):=
    Z9.imp λu' ⟨⟨y,Sw,Sh⟩,Sm⟩=>by
     have p:=y.lwn;refine⟨y.rows,y.pos,y.words,y.wk,Sw,Sh,?_,λi h1 T=>?_,by simp [y.lhn],by simp [y.ljn],zN3 L y.helds ⟨rfl,?_,λ_=>⟨Sm,rfl⟩⟩⟩
     ·rw [C] at p;simpa using p
     ·have:=y.waits (i+1) (by rw [C];simpa using h1) (by simpa using T);simp only [C,List.getElem_cons_succ] at this;exact this
     ·have:=y.waits 0 (by rw [C];simp) (by simp);simp only [C,Vb] at this;exact this
   have fin:=S.fin (w1:=v) (w':=F) (s':=⟨l,h.set k (some (d,0))⟩) (by omega) (o.mono λi _ h=>.inr (.inl h)) (Qw hB z0) ((C7.mv (w:=v)).fr o S.ne) a4 (((T7.up (w':=v)).away o λk L i hi h=>(S.rw k L i hi).2.2 h)) (.refl _) ok Zn;have b4:=o.size
   have hm:Fr R w F:=by
    refine f.join (E:=gR R w u) (D:=R) (((fE u b).trans (t.mono λi _ h=>h ▸ S.rs)).trans ((fE A v).trans (o.mono λi _ h=>h ▸ S.rj))) (λ_ _ h=>h) λi hi h=>h.elim id λh=>by omega
   refine⟨l.length,by rw [<-hi];simp,l,h.set k (some (d,0)),rfl,?_,?_,hm⟩
   ·rw [<-H]
    conv=>rhs;unfold admitS
    rw [U]
   ·have e2:wkS g c.workers h=wkS g c.workers (h.set k (some (d,0))):=(zQK L hn d).symm;dsimp only at fin;rw [e2] at fin;refine SrvX.wide (R:=gR (gR R w u) u F) ⟨K,_,_,_,_,_,RW,fin⟩ (gR_gR z0 (by omega)) λi hi=>?_
    ·have T:=(SrvX.reg SP).1;rcases hi with hi|hi
     ·have:=T i (.inl hi);omega
     ·omega
end
section
variable {kx:Nat} {R:Nat->Prop} {B:Nat} {w0 w w':World} {bs:Nat} {g:GrD} {c:CfD} {s:SvD} {Ls:Nat->List StD} {K:SrvK} {wt hd:SV} {lw:List RReq} {lh:List RHeld} {lj:List RJob} {RW:Nat->Nat->Prop}
theorem zFO{a b:StD}{w:World}:Sp PP 195 #[agg a,agg b] w λv w'=>v=.int .i64 (cfS a b)/\Gw w w':=by
 refine eN ?_;refine rbx λp w1 n1 d=>rbx λr w2 n2 f=>drawRE TBok mixed (λ_=>False) (.one 0 (.one 1 (.one 2 (.one 3 (.one 4 (.one 5 (.one 7 (.one 8 (.one 9 (.one 10 (.one 11 (.one 12 (.one 6 (.one 13 (.one 14 (.one 15 (.one 16 .nil))))))))))))))))) (by kernel_rfl) λt x l=>?_;refine tX d rfl nf (tX f rfl nf ?_);refine tX d rfl nf (tX f rfl nf ?_);refine rcall zAc ?_;rintro v y ⟨rfl,rfl⟩;refine⟨Fr.refl _ _,?_⟩;refine rcall zAc ?_;rintro v z ⟨rfl,rfl⟩;refine⟨Fr.refl _ _,?_⟩;refine rbsN [cmpI a.key.dir b.key.dir,cmpI a.key.v b.key.v] rfl (vs:=[.int .i64 (cmpI a.key.dir b.key.dir),.int .i64 (cmpI a.key.v b.key.v)]) rfl rfl (by decide) λA C h o=>⟨h.e,?_⟩;refine rcall (zBT o (by simp)) ?_;rintro v E ⟨rfl,rfl⟩;refine⟨Fr.refl _ _,?_⟩;exact⟨rfl,n1.gw.trans (n2.gw.trans (l.trans h.gw))⟩
theorem zMl{l':List StD}{o:Option (RqD×Nat)}(h:l'.Perm (sts1 g o k))(p:l'.Pairwise λa b=>¬cfS b a<0):l'=sts1 g o k:=by
 have M:=zEL g o k;refine SRis.uniq ?_ M λx=>h.mem_iff;have d:l'.Nodup:=h.nodup_iff.2 M.nodup;rw [Qx] at d;refine Vv (λ{a b} r t l=>?_) (p.and d);have e:=h.mem_iff.1 r;have f:=h.mem_iff.1 t;have v:=zBs e;have y:=zBs f;refine zCw (λz=>l.1 ((zIf _ _).2 ?_)) (λA=>l.2 (M.inj e f A.symm));unfold lessK at z;omega
theorem SrvP.lens(S:SrvP R B w bs g c s):∀k,k<c.workers->(wkS g c.workers s.held k).length<=c.pool:=λk b=>by
 obtain⟨K,wt,hd,lw,lh,lj,RW,S⟩:=S;exact(S.st.sto k b).lt.2.2.2.1
theorem zDe{k0:Nat}(S:SrvP R B w bs g c s)(A:k0<s.held.length):
  Sp PP 110 #[.pointer (some ⟨bs,0,none⟩),.int .i64 (k0:Int)] w λv w'=>Own w.heap.size 222 w' v (sts1 g (s.held.getD k0 none) k0)/\Stp w w':=by
 have b:=S.lens;obtain⟨K,wt,hd,lw,lh,lj,RW,S⟩:=S;have U:=S.ci.workers;have C:=S.ci.pool;have E:=S.fz.here.wkn
 have e:∀j,j<=c.workers->((List.range j).flatMap λk=>ofS (wkS g c.workers s.held k) (k0:Int)).length<=j*400:=by
  intro j
  induction j with
  |zero=>intro _;simp
  |succ j F =>
   intro t;have z:=F (by omega);rw [Jm,Jl,Qb];have H:(ofS (wkS g c.workers s.held j) (k0:Int)).length<=(wkS g c.workers s.held j).length:=Qv _ _;have I:=b j (by omega);simp only [JV,XM,QE];rw [Jo];omega
 refine eN ?_;refine rX S.cell rfl (cO 14 [7,8] 5 14 c.workers (λj v u=>Own w.heap.size 222 u v ((List.range j).flatMap λk=>ofS (wkS g c.workers s.held k) (k0:Int))/\Stp w u) ⟨Own.nil _ _ _,stp⟩ ?_);rintro j v G u t ⟨O,V⟩;refine ite (λhlt=>?_) (λh=>?_)
 ·have d:j<c.workers:=by (try dsimp only at hlt);omega
  refine rix (S.fz.at (w':=u)).wk (x:=⟨K.sb j⟩) (by simp [d]) λX Y J=>rload1 (J.cell0 rfl) (rcall (zMk (s:=(k0:Int)) ((S.st.sto j d).up (w':=u))) ?_);rintro Z l ⟨o,e1⟩;have z:=e j t;have H:(ofS (wkS g c.workers s.held j) (k0:Int)).length<=(wkS g c.workers s.held j).length:=Qv _ _;have I:=b j (by omega);refine rapp (u:=w) ⟨rfl,rfl⟩ (O.up (w':=l)) o.sl (by omega) λv2 u2 L f2 s2=>rA ⟨rfl,d,?_,stp⟩;rw [Jm,Jl];simp only [JV,XM,QE];exact L
 ·obtain rfl:j=c.workers:=by (try dsimp only at h);omega
  have z:=e c.workers (Qe _);refine rcall (zCZ Tryz.sortS (k:=4) (show Agg PP 222 4 from inferInstance) rfl cfS zMy (f:=191) rfl (λx y W=>zFO) O (by omega)) ?_;rintro r l ⟨rfl,l',M,Q,o,T⟩;have s1:Stw w u l:=zAI T;have p:=zMl (M.trans (of_all A (by omega))) Q;rw [<-p];exact⟨o,stp⟩
theorem zD4{k0:Nat}{t:RqD}{C:Nat}{e:TypeId}{n':Nat}(S:SrvR 1000 R B w bs g c s (wkS g c.workers s.held) K wt hd lw lh lj RW)(hB:B<=w.heap.size)(hu:s.held.getD k0 none=some (t,i))(O:Own C e w (.slice a n n') (sts g t.q k0 (i+1)))(hC:∀i,R i->i<C):
  Sp PP 111 #[.pointer (some ⟨bs,0,none⟩),.slice a n n'] w λv w'=>(∃b Ls d,v=.bool b/\SrvR 1000 (gR R w w') B w' bs g c s Ls K wt hd lw lh lj d/\GrowR c.workers RW d w.heap.size/\overS g c (aftS s.held k0 t i) = !b/\ButS g c.workers s.held k0 Ls/\(b=true->Ls=wkS g c.workers (aftS s.held k0 t i)))/\Fr (anyR c.workers RW) w w':=by
 have I:=zAo hu;obtain⟨r,hm⟩:=I;have b0:=S.so.len;have J:=(S.so.held t i hm).1;have a0:=S.gi.ok.n2;have hW:=S.ci.workers;have b3:=S.ci.slots;have b4:=S.fz.here.wkn;have b5:=O.sl.len
 have b6:(sts g t.q k0 (i+1)).length<=400:=by
  rw [zF8];have:=sn_le (dir:=0) J.q.ok (i+1);have:=sn_le (dir:=1) J.q.ok (i+1);omega
 have a1:=S.reg _ S.rs;have b7:=S.reg _ S.rj
 have fin:∀{u:World} {d:Nat->Nat->Prop} {Ls:Nat->List StD},Stos B u c.workers K c.pool d Ls->GrowR c.workers RW d w.heap.size->Fr (anyR c.workers RW) w u->SrvR 1000 (gR R w u) B u bs g c s Ls K wt hd lw lh lj d:=λ{u d Ls} T E f=>by
  have a4:¬anyR c.workers RW bs:=λ⟨k,r,h⟩=>(S.rw k r _ h).2.1 rfl;have a5:¬anyR c.workers RW K.bj:=λ⟨k,r,h⟩=>(S.rw k r _ h).2.2 rfl;exact S.fin (w1:=w) (Qe _) (f.mono λi _ h=>zBN h) hB (S.cell.fr f a4) (S.jobs.fr f λg _ hg h=>by cases hg;exact a5 h) T E S.so (S.fz1 (w':=w))
 refine eN ?_
 refine cN 12 [4,6,7,8,9] 12 (sts g t.q k0 (i+1)).length (λj u=>∃d Ls',Stos B u c.workers K c.pool d Ls'/\GrowR c.workers RW d w.heap.size/\Fr (anyR c.workers RW) w u/\KeepI g c.workers s.held (sts g t.q k0 (i+1)) j Ls')
  ⟨RW,_,S.st,.refl _,Fr.refl _ _,zN6 _⟩ ?_
 rintro j G u hj ⟨d,Ls',T,E,f,H⟩;refine ite (λhlt=>?_) (λa6=>?_)
 ·have A:j<(sts g t.q k0 (i+1)).length:=by (try dsimp only at hlt);omega
  have I:∃x,(sts g t.q k0 (i+1))[j]=x:=⟨_,rfl⟩;obtain⟨x,hx⟩:=I;have V:x∈sts g t.q k0 (i+1):=hx ▸ Qa A;have F:=zD7 J.q.ok a0 (by omega) V;have hv:=sts1_v (g:=g) (o:=some (t,i+1)) (k:=k0) V;have a7:=zKm (W:=c.workers) (v:=x.key.v) (by omega);have I:∃p:Nat,homW c.workers x.key.v=(p:Int):=⟨(homW c.workers x.key.v).toNat,by omega⟩;obtain⟨p,hp⟩:=I;have y:p<c.workers:=by omega
  have Ou:=O.fr f λb hb _ ⟨k,r,h⟩=>by have:=hC b (S.rw k r b h).1;omega
  refine rix Ou.sl (x:=x) (by rw [Qd A,hx]) λb1 o1 A1=>rloadA A1 rfl (ral λbx u2 n2 X2=>?_);have b8:=n2.lo (u:=u);refine rE X2 x λu3 Y f3 _=>?_;have Y:Bk u3 bx (enc x) 222:=Y;have s3:Stp u u3:=n2.st f3;clear X2 f3;have zf:=f.size;have Cu:=S.cell.fr f λ⟨k,r,h⟩=>(S.rw k r _ h).2.1 rfl;refine dQ 14 λu4 e4=>tX Y rfl nf (tX Cu rfl nf ?_);refine rcall (zCD (v:=x.key.v) (W:=c.workers)) ?_;rintro _ u5 ⟨rfl,rfl⟩
  have e5:homV c.workers x.key.v=.tuple #[.int .i64 (p:Int),.bool true]:=by
   rw [<-hp];exact if_pos ⟨hv,by have:=F.2.1;omega,hW⟩
  rw [e5];refine⟨Fr.refl _ _,?_⟩;have nD:∀b,b<w.heap.size->¬anyR c.workers RW b->¬anyR c.workers d b:=λb hb hn ⟨k,r,h⟩=>(E k r b h).elim (λz=>hn ⟨k,r,z⟩) λz=>by omega
  refine dD (anyR c.workers d) (upF 10 0) λL e6=>tX Cu rfl (nD _ a1.2 λ⟨k,r,h⟩=>(S.rw k r _ h).2.1 rfl) (tixF (l:=(List.range c.workers).map λk=>(⟨K.sb k⟩:RPtr)) (x:=⟨K.sb p⟩) (λw' f'=>?_) (by simp [y]) λb2 o2 A2=>tload1F A2 ?_)
  ·exact(S.fz w' ((f.join ((Fr.fr (D:=anyR c.workers d) (lE u L)).trans f') (λ_ _ h=>h) λi hi ⟨k,r,h⟩=>(E k r i h).elim (λz=>⟨k,r,z⟩) λz=>by omega).mono λi _ h=>.inl (zBN h))).wk
  refine tG Y x (λ⟨k,r,h⟩=>by have:=T.lt k r _ h;omega) (rcall (zLo (x:=x) ((T.sto p y).up (w':=L))) ?_);rintro _ u7 ⟨rfl,S7,_,f7⟩;refine⟨f7.mono λi _ h=>⟨p,y,h⟩,?_⟩;have T6:=T.up (w':=L);have T7:=T6.put y S7 f7;have z6:=lz u L;have M:GrowR c.workers RW (updR d p (gR (d p) L u7)) w.heap.size:=E.put (by omega);have f6:Fr (anyR c.workers RW) w L:=f.trans (fE u L);have Q:=E.fr f6 y f7;have I:=H.put hu A hx F.1 (n:=c.pool) hp;rcases I with ⟨z,X,h3⟩|⟨z,X⟩
  ·refine iT z ?_;have Z:=fin T7 M Q;have U:overS g c (aftS s.held k0 t i) = !false:=zCe.2 ⟨p,y,h3⟩
   have he:updL Ls' p (putS' c.pool (Ls' p) x).1=Ls':=by
    funext k;unfold updL;split
    ·rename_i a8;rw [X,a8]
    ·rfl
   rw [he] at Z;exact⟨⟨false,Ls',_,rfl,Z,M,U,H.but,λh=>by cases h⟩,Q⟩
  ·refine iF z ?_;exact rA ⟨rfl,A,_,_,T7,M,Q,X⟩
 ·have a9:j=(sts g t.q k0 (i+1)).length:=by (try dsimp only at a6);omega
  subst a9;have he:=H.end hu;have Z:=fin T E f
  have U:overS g c (aftS s.held k0 t i) = !true:=by
   show _=false;rw [<-Vy,zCe];rintro⟨k,r,z⟩;have X:=(T.sto k r).lt.2.2.2.1;rw [he,zM9] at X;omega
  exact⟨⟨true,Ls',_,rfl,Z,E,U,H.but,λ_=>he⟩,f⟩
end
theorem zNm{k:Int}{l:List HitD}:(firstK k l).length<=k.toNat/\∀h∈firstK k l,h∈l:=by
 unfold firstK;split
 ·simp
 ·rename_i d;have b:=QU (show (0:Int)<=k by omega);obtain⟨m,rfl⟩:=b;rw [zGu];refine⟨by simp;omega,λh c=>?_⟩;exact(zEH l).2.mem_iff.1 (Vu c)
theorem zKf(s:GrOk g)(r:QyOk q g.n)(I:k<=1000){id:Int}(b:0<=id/\id<=2147483647):
  RepOk (repOf id 0 (doneL g q (sts g q k i) (mls g q k i)).1) (doneL g q (sts g q k i) (mls g q k i)).1.hits:=by
 have t:=s.n2
 have o:∀x∈sts g q k i,0<=x.key.v/\x.key.v<200/\0<=x.d/\x.d<200:=λx e=>by
  have c:=zD7 r t (by omega) e;have w:=c.1.1;unfold mayK at w;omega
 have f:RepOk (repOf id 0 zAn) zAn.hits:=⟨b,by simp [repOf],by simp [repOf,zAn],by simp [zAn],by simp [repOf],by simp [repOf,zAn],by simp [zAn],by simp [zAn]⟩;unfold doneL;split
 ·unfold distL;split
  ·rename_i m z;have c:=(zFt.1 z).1;have p:=zDa.1 c;obtain⟨x,e,y,A,_,_,_,rfl⟩:=p;have:=o x e;have:=o y A;exact⟨b,by simp [repOf],by simp only [repOf];omega,by simp,by simp [repOf],by simp [repOf],by simp,by simp⟩
  ·exact f
 split
 ·unfold reachL;split
  ·exact⟨b,by simp [repOf],by simp [repOf],by simp,by simp [repOf],by simp [repOf],by simp,by simp⟩
  ·exact f
 split
 ·rename_i C;have E:=r.near C;unfold nearL;split
  ·have F:=zNm (k:=q.most) (l:=hitsL (placesL g q.words) (sts g q k i));refine⟨b,by simp [repOf],by simp [repOf],by dsimp only;omega,by simp [repOf],λG=>?_,.inr rfl,λh H=>?_⟩
   ·refine⟨rfl,?_⟩;simpa [repOf] using G
   ·have c:=F.2 h H;unfold hitsL at c;have p:=Qq.1 c;obtain⟨x,e,rfl⟩:=p;have:=o x (QC.1 e).1;exact⟨by show 0<=x.key.v;omega,by show x.key.v<200;omega,by show 0<=x.d;omega,by show x.d<=200;omega⟩
  ·exact f
 ·exact f
theorem zGW{id b:Int}(c:0<=id/\id<=2147483647)(d:0<=b/\b<=1000):RepOk (repOf id b zAn) zAn.hits:=
 ⟨c,d,by simp [repOf,zAn],by simp [zAn],λ_=>by simp [repOf,zAn],by simp [repOf,zAn],by simp [zAn],by simp [zAn]⟩
section
variable {g:GrD} {q:QyD}
end
section
variable {g:GrD} {c:CfD}
theorem zNR{h:Hs}(f:j≠k):(stepS g c h k).1.getD j none=h.getD j none:=by
 have d:=zGP (g:=g) (c:=c) (h:=h) (k:=k);rcases d with ⟨_,e⟩|⟨p,r,l,e⟩
 ·rw [e]
 ·have d:=zAo l;obtain⟨o,_⟩:=d;rcases e with ⟨_,b⟩|⟨_,_,b⟩|⟨_,_,_,b⟩|⟨_,_,_,b⟩ <;> rw [b] <;> dsimp only <;> rw [zAA o,if_neg f]
theorem zJA{h:Hs}(b:k∈usedS h):∃x i,h.getD k none=some (x,i):=by
 unfold usedS at b;have f:=zHn.1 b;obtain⟨_,d⟩:=f
 cases e:h.getD k none with
 |none=>rw [e] at d;cases d
 |some p=>exact⟨p.1,p.2,rfl⟩
theorem zM6(h:Hs):(usedS h).Nodup:=List.nodup_range.filter _
end
noncomputable def stepR (g:GrD) (c:CfD) (h:Hs) (k:Nat):Option (Int×Int×AnP):=match h.getD k none with
 |none=>none
 |some (x,i) =>
  if overS g c (h.set k (some (x,i+1))) then some (x.id,250,zAn)
  else if (doneL g x.q (sts g x.q k (i+1)) (mls g x.q k (i+1))).2 then some (x.id,0,(doneL g x.q (sts g x.q k (i+1)) (mls g x.q k (i+1))).1)
  else if c.budget<=i+1 then some (x.id,251,zAn) else none
noncomputable def bytR (p:Int×Int×AnP):List UInt8:=repB p.1 p.2.1 p.2.2
section
variable {g:GrD} {c:CfD}
theorem zEI(h:Hs)(k:Nat):(stepS g c h k).2=(stepR g c h k).map bytR/\repIds g c h k=((stepR g c h k).map (·.1)).toList:=by
 unfold repIds stepS stepR
 cases e:h.getD k none with
 |none=>exact⟨rfl,rfl⟩
 |some p =>
  obtain⟨x,i⟩:=p;dsimp only;split
  ·exact⟨rfl,rfl⟩
  ·split
   ·exact⟨rfl,rfl⟩
   ·split
    ·exact⟨rfl,rfl⟩
    ·exact⟨rfl,rfl⟩
def TickRep (g:GrD) (c:CfD) (h:Hs) (p:Int×Int×AnP):Prop:=
 ∃x k i,k<h.length/\h.getD k none=some (x,i)/\RqOk g x/\x.id=p.1/\i+1<=c.budget/\k<=1000 /\
  (p.2=(250,zAn)\/p.2=(251,zAn) \/
   (doneL g x.q (sts g x.q k (i+1)) (mls g x.q k (i+1))).2=true/\p.2=(0,(doneL g x.q (sts g x.q k (i+1)) (mls g x.q k (i+1))).1))
theorem zPJ{l:List RqD}{h:Hs}(f:CfOk c)(s:SvOk g c ⟨l,h⟩){p:Int×Int×AnP}(b:stepR g c h k=some p):TickRep g c h p:=by
 unfold stepR at b
 cases e:h.getD k none with
 |none=>rw [e] at b;cases b
 |some q =>
  obtain⟨x,i⟩:=q;rw [e] at b;have o:=zAo e;obtain⟨d,r⟩:=o;have t:=s.held x i r;have v:=s.len;have w:=f.slots.2;dsimp only at b v d;refine⟨x,k,i,d,e,t.1,?_⟩;split at b
  ·cases b;exact⟨rfl,by omega,by omega,.inl rfl⟩
  ·split at b
   ·rename_i y;cases b;exact⟨rfl,by omega,by omega,.inr (.inr ⟨y,rfl⟩)⟩
   ·split at b
    ·cases b;exact⟨rfl,by omega,by omega,.inr (.inl rfl)⟩
    ·cases b
theorem TickRep.ok(o:GrOk g){h:Hs}{p:Int×Int×AnP}(t:TickRep g c h p):RepOk (repOf p.1 p.2.1 p.2.2) p.2.2.hits/\(p.2.1=0\/p.2.1=250\/p.2.1=251):=by
 obtain⟨id,l,a⟩:=p;obtain⟨x,k,i,r,e,d,rfl,_,f,b⟩:=t;rcases b with b|b|⟨_,b⟩
 ·cases b;exact⟨zGW d.id (by dsimp only;decide),by simp⟩
 ·cases b;exact⟨zGW d.id (by dsimp only;decide),by simp⟩
 ·cases b;exact⟨zKf o d.q.ok f d.id,by simp⟩
end
section
variable {g:GrD} {c:CfD} {h:Hs} {k:Nat} {x:RqD} {i:Nat}
theorem zJu(e:h.getD k none=some (x,i))(b:overS g c (h.set k (some (x,i+1)))=true):stepR g c h k=some (x.id,250,zAn)/\(stepS g c h k).1=h.set k none:=by
 unfold stepR stepS;rw [e];dsimp only;rw [if_pos b,if_pos b];exact⟨rfl,rfl⟩
theorem zCz(e:h.getD k none=some (x,i))(d:overS g c (h.set k (some (x,i+1)))=false)(hd:(doneL g x.q (sts g x.q k (i+1)) (mls g x.q k (i+1))).2=true):
  stepR g c h k=some (x.id,0,(doneL g x.q (sts g x.q k (i+1)) (mls g x.q k (i+1))).1)/\(stepS g c h k).1=h.set k none:=by
 have b:¬overS g c (h.set k (some (x,i+1)))=true:=by rw [d];simp
 unfold stepR stepS;rw [e];dsimp only;rw [if_neg b,if_neg b,if_pos hd,if_pos hd];exact⟨rfl,rfl⟩
theorem zEJ(e:h.getD k none=some (x,i))(l:overS g c (h.set k (some (x,i+1)))=false)(hd:(doneL g x.q (sts g x.q k (i+1)) (mls g x.q k (i+1))).2=false)(d:c.budget<=i+1):
  stepR g c h k=some (x.id,251,zAn)/\(stepS g c h k).1=h.set k none:=by
 have f:¬overS g c (h.set k (some (x,i+1)))=true:=by rw [l];simp
 have b:¬(doneL g x.q (sts g x.q k (i+1)) (mls g x.q k (i+1))).2=true:=by rw [hd];simp
 unfold stepR stepS;rw [e];dsimp only;rw [if_neg f,if_neg f,if_neg b,if_neg b,if_pos d,if_pos d];exact⟨rfl,rfl⟩
theorem zD6(e:h.getD k none=some (x,i))(l:overS g c (h.set k (some (x,i+1)))=false)(hd:(doneL g x.q (sts g x.q k (i+1)) (mls g x.q k (i+1))).2=false)(d:¬c.budget<=i+1):
  stepR g c h k=none/\(stepS g c h k).1=h.set k (some (x,i+1)):=by
 have f:¬overS g c (h.set k (some (x,i+1)))=true:=by rw [l];simp
 have b:¬(doneL g x.q (sts g x.q k (i+1)) (mls g x.q k (i+1))).2=true:=by rw [hd];simp
 unfold stepR stepS;rw [e];dsimp only;rw [if_neg f,if_neg f,if_neg b,if_neg b,if_neg d,if_neg d];exact⟨rfl,rfl⟩
end
section
variable {kx:Nat} {R:Nat->Prop} {B:Nat} {w0 w w':World} {bs:Nat} {g:GrD} {c:CfD} {s:SvD} {Ls:Nat->List StD} {K:SrvK} {wt hd:SV} {lw:List RReq} {lh:List RHeld} {lj:List RJob} {RW:Nat->Nat->Prop}
theorem zI7{b:Hs}{k0:Nat}{f:RJob}{d:RqD}{o:Nat}(r:k0<b.length)(e:b.getD k0 none=some (d,i))(H:∀k (h:k<lh.length) (t:k<lj.length),HeldOk 1000 u g lh[k] lj[k] (b.getD k none) k)(h:SlF u f.mails.v (mls g d.q k0 o)/\f.steps=o):
  ∀k (h:k<lh.length) (t:k<(lj.set k0 f).length),HeldOk 1000 u g lh[k] (lj.set k0 f)[k] ((b.set k0 (some (d,o))).getD k none) k:=λk x y=>by
 have l:=H k x (by simpa using y);rw [zAA r];by_cases p:k=k0
 ·subst p;rw [if_pos rfl,JX];rw [e] at l;exact⟨l.1,l.2.1,λ_=>h⟩
 ·rw [if_neg p,JT (Jq p)];exact l
theorem zGv{e:Hs}{k0:Nat}{l:RJob}(x:lh.length<=64)(H:∀k (h:k<lh.length) (r:k<lj.length),HeldOk 1000 u g lh[k] lj[k] (e.getD k none) k):
  ∀k (h:k<lh.length) (r:k<(lj.set k0 l).length),HeldOk k0 u g lh[k] (lj.set k0 l)[k] (e.getD k none) k:=λk t v=>by
 have b:=H k t (by simpa using v)
 cases o:e.getD k none with
 |none=>rw [o] at b;exact b
 |some p =>
  obtain⟨d,i⟩:=p;rw [o] at b;refine⟨b.1,b.2.1,λf=>?_⟩;rw [JT (Jq f)];exact b.2.2 (by omega)
def StepT (R : Nat -> Prop) (B : Nat) (bs : Nat) (g : GrD) (c : CfD) (s : SvD) (k0 : Nat) (w : World) (v : Value) (w' : World) : Prop :=
  (∃ (y : RepD) (all : Bool), v = .tuple #[agg y, .bool all] /\
    ((all = true /\ ∃ p Ls K wt hd lw lh lj RW, stepR g c s.held k0 = some p /\ y.id = p.1 /\ y.code = p.2.1 /\ y.a.found = p.2.2.found /\ y.a.num = p.2.2.num /\ Fz (mutS bs K.bj c.workers RW) (gR R w w') w' (λu => SlF u (.slice y.a.s.a y.a.s.n y.a.s.c) p.2.2.hits) /\
        SrvR k0 (gR R w w') B w' bs g c s Ls K wt hd lw lh lj RW /\ ButS g c.workers s.held k0 Ls /\ (stepS g c s.held k0).1 = s.held.set k0 none) \/
     (all = false /\ stepR g c s.held k0 = none /\ SrvP (gR R w w') B w' bs g c ⟨s.wait, (stepS g c s.held k0).1⟩))) /\ Fr R w w'
def zRp (id code:Int):RepD:=⟨id,code,⟨false,0,⟨none,0,0⟩⟩⟩
theorem zBm{k0:Nat}{b:RqD}(d:k0<s.held.length):ButS g c.workers s.held k0 (wkS g c.workers (aftS s.held k0 b i)):=λk=>⟨zBD ..,λx e=>by rw [zAQ,zAQ,zBG d e]⟩
theorem zIM{k0:Nat}{C:RqD}{c3:Nat}(S:SrvP R B w bs g c s)(hB:B<=w.heap.size)(hu:s.held.getD k0 none=some (C,i))(h3:SlF w (.slice a3 n3 c3) ps):
  Sp PP 53 #[.pointer (some ⟨bs,0,none⟩),.int .i64 (k0:Int),.slice a3 n3 c3] w (StepT R B bs g c s k0 w):=by
 have SP:=S;obtain⟨K,wt,hd,lw,lh,lj,RW,S⟩:=S;have F:=zAo hu;obtain⟨hk,hm⟩:=F;have F0:=S.fz.here;have p2:=S.so.len;have g4:=(S.so.held C i hm).1;have p5:=(S.so.held C i hm).2;have m5:=S.gi.ok.n2;have hW:=S.ci.workers;have p6:=S.ci.slots;have p7:=S.ci.budget;have g7:=S.gi;have p8:=S.ps;have g5:k0<lh.length:=by rw [F0.lhn];exact hk
 have g6:k0<lj.length:=by rw [F0.ljn];exact hk
 have m6:=F0.helds k0 g5 g6;rw [hu] at m6;obtain⟨o2,b8,g8⟩:=m6;have g8:=g8 (by omega);have Z:=g8.2;have p9:=F0.wkn;have q0:=F0.fh.len;have b7:=SP.lo
 have d0:∀{j:Nat} {x:StD},x∈sts g C.q k0 j->mayX x/\x.key.v<g.n/\0<=x.d/\x.d<g.n:=λ{j x} hx=>by
  have:=zD7 g4.q.ok m5 (by omega) hx;exact⟨this.1,this.2.1,this.2.2.1,this.2.2.2.1⟩
 have j7:∀{j:Nat} {x:StD},x∈mls g C.q k0 j->mayX x/\x.key.v<g.n/\0<=x.d/\x.d<g.n:=λ{j x} hx=>zIr g4.q.ok m5 (by omega) hx
 have g9:∀j,(sts g C.q k0 j).length<=400:=λj=>by
  rw [zF8];have:=sn_le (dir:=0) g4.q.ok j;have:=sn_le (dir:=1) g4.q.ok j;omega
 have j8:∀j,(mls g C.q k0 j).length<=400:=λj=>by
  have h1:=g9 (j+1);have h2:=(zBf (mls g C.q k0 j) (sts g C.q k0 j)).length_eq;have h4:sts g C.q k0 (j+1)=insAll (mls g C.q k0 j) (sts g C.q k0 j):=rfl;rw [<-h4,Qb] at h2;omega
 have k1:=zLl (g:=g) (q:=C.q) (slot:=(k0:Int)) g7.ok i;have F:∃rr,lh[k0]? = some rr:=⟨lh[k0],Qd g5⟩;obtain⟨rr,k2⟩:=F;have F:∃jj,lj[k0]? = some jj:=⟨lj[k0],Qd g6⟩;obtain⟨jj,k3⟩:=F;have er:lh[k0]=rr:=by rw [Qd g5] at k2;exact QL k2
 have ej:lj[k0]=jj:=by rw [Qd g6] at k3;exact QL k3
 rw [er] at o2 b8;rw [ej] at g8 Z;have o1:jj.mails.n=(mls g C.q k0 i).length:=SlF.len (a:=jj.mails.a) (c:=jj.mails.c) g8.1
 have g0:Fz (mutS bs K.bj c.workers RW) R w λu=>RqV u rr.r C/\SlF u jj.mails.v (mls g C.q k0 i):=S.fz.imp λu I=>by
  have:=I.helds k0 g5 g6;rw [hu,er,ej] at this;exact⟨this.2.1,(this.2.2 (by omega)).1⟩
 have m7:=(S.reg _ S.rj).2;have p3:=(S.reg _ S.rs).2;refine eN ?_;refine ral λb6 w1 n1 Y1=>?_;have j9:=n1.lo (u:=w);have p4:=n1.lt;have m8:=F0.fh.lt (λh=>by rw [h] at g5;simp at g5);refine dT (λi=>w.heap.size<=i) (oL [0,1,2,3,4,5,6,7,8,9,10,11,12,13,14] (.two 15 (oL [16,17,18] .nil) 16 (oL [15,17,18] .nil))) λw2 e2=>tX S.cell rfl (by omega) (tix (S.fz.at (w':=w2)).fh k2 λb o A hb=>tloadA (cs:=enc rr.r) (A.sub 1 8) (Enc.len _) ?_ ?_)
 ·obtain⟨b',h1,h2⟩:=m8;rw [hb] at h1;cases h1;omega
 refine tX S.cell rfl (by omega) (tix (S.jobs.up (w':=w2)).sl k3 λb o A hb=>tloadA A (Enc.len _) ?_ ?_)
 ·cases hb;exact Nat.not_le.2 m7
 refine⟨?_,?_⟩
 ·refine ral λbx w3 n3 X3=>⟨Fr.fr n3.e,?_⟩;refine ral λbJ w4 n4 h0=>⟨Fr.fr n4.e,?_⟩;have h5:=n3.lo (u:=w);have e1:=n4.lo (u:=w);have m9:=n3.lo (u:=w1);have n0:=n4.lo (u:=w1);have d5:¬bJ=bx:=by have:=n4.b;have:=n3.lt;omega
  have X4:=X3.mv (w:=w4);refine rS X4 (enc rr.r) (Enc.one _) λw5 X5 f5 _=>?_;have X5:Bk w5 bx (enc rr.r) 55:=X5;have s5:Stp w1 w5:=⟨Fr.st (lE w1 w4) f5 λi hi=>by omega⟩;have h6:=h0.fr f5 d5;refine⟨f5.mono λi _ hi=>by omega,?_⟩;refine rS h6 (enc jj) (Enc.one _) λw6 e3 f6 _=>?_;have e3:Bk w6 bJ (enc jj) 188:=e3;have s6:Stp w1 w6:=⟨Fr.st s5.e f6 λi hi=>by omega⟩;have X6:=X5.fr f6 (λh=>d5 h.symm);refine⟨f6.mono λi _ hi=>by omega,?_⟩;clear X4 h0 X5 h6;refine rX X6 rfl (rbuild (cs:=enc (zRp rr.r.id 0)) rfl (ral λa6 w7 n7 Y7=>?_));have h7:=n7.lo (u:=w);have n5:b6<a6:=by have:=n7.b;have:=lz w1 w6;omega
  refine rS Y7 (enc (zRp rr.r.id 0)) (Enc.one _) λw8 Y8 f8 _=>?_;have Y8:Bk w8 a6 (enc (zRp rr.r.id 0)) 67:=Y8;have s8:Stp w6 w8:=⟨Fr.st (lE w6 w7) f8 λi hi=>by have:=n7.b;omega⟩;clear Y7 f8;have X8:=X6.mv (w:=w8);have e4:=e3.mv (w:=w8);refine dD (λ_=>False) [0,1,2,3,4,5,6,7,9,10,11,12,13,14,15,16,8,17,18,19,20,21,22,23,24] λw9 e9=>tG X8 rr.r.q nf (tG S.cell K.xr nf (tX e4 rfl nf (tX S.cell rfl nf ?_)));refine rcall (zDe (SrvP.up (w':=w9) SP) hk) ?_;rintro _ d1 ⟨b9,h8⟩;rw [hu] at b9;have b9:Own w9.heap.size 222 d1 _ (sts g C.q k0 i):=b9;have F:=b9.shape;obtain⟨sa,sc,rfl⟩:=F;refine⟨h8.e,?_⟩;have Fu:=S.fz.at (w':=d1);have hV:=(g0.at (w':=d1));have D:=zE1 (W:=c.workers) (xq:=rr.r.q) (S:=sts g C.q k0 i) (M:=mls g C.q k0 i) g7 Fu.rows ⟨hV.1.q.kind,hV.1.q.rad⟩ b9.sl hV.2 (h3.up (w':=d1)) hW (zF9 i) (λx hx=>⟨(d0 hx).1,(d0 hx).2.1⟩) (λx hx=>⟨(j7 hx).1,(j7 hx).2.1⟩) (by have:=g9 i;omega) (j8 i);rw [k1] at D;refine rcall D ?_;rintro _ U ⟨⟨v1,v2,rfl,c0,c1⟩,h9⟩;dsimp only at c0 c1;refine⟨h9.e,?_⟩;have F:=c0.shape;obtain⟨i0,i1,rfl⟩:=F;have F:=c1.shape;obtain⟨d2,d3,rfl⟩:=F;refine iF (· rfl) ?_;have z9:=lz w w9;have o3:=h8.e.size;have o4:=h9.e.size;have ly:=(Y8.mv (w:=w9)).lt;have lq:=(Y1.mv (w:=w9)).lt;have lx:=(X8.mv (w:=w9)).lt;have lJ:=(e4.mv (w:=w9)).lt;refine rcall (zD4 (S.up (w':=U)) (Qw hB (lz w U)) hu c0 (λi hi=>by have:=b7 i hi;omega)) ?_;rintro _ t ⟨⟨b,Ls,V,rfl,X,k4,k5,i2,i3⟩,d6⟩;have a1:Fr R U t:=d6.mono λi _ ⟨k,hk,h⟩=>(S.rw k hk i h).1;have k6:Fr (mutS bs K.bj c.workers RW) w t:=(fE w U).trans (d6.mono λi _ h=>zBN h);have a7:∀{b:Nat},w.heap.size<=b->¬R b:=λ{b} hb h=>by have:=b7 b h;omega
  have i4:=(Y8.mv (w:=U)).fr a1 (a7 h7);have i5:=(Y1.mv (w:=U)).fr a1 (a7 j9);have k7:=(X8.mv (w:=U)).fr a1 (a7 h5);have d7:=(e4.mv (w:=U)).fr a1 (a7 e1);have k8:=c0.fr a1 λb hb _=>a7 (by omega);have i6:=c1.fr a1 λb hb _=>a7 (by omega);have o5:=a1.size;have d8:Fr R w t:=(fE w U).trans a1;have J:overS g c (s.held.set k0 (some (C,i+1))) = !b:=k5
  cases b with
  |false =>
   have F:=zJu hu J;obtain⟨q1,q2⟩:=F;refine rS i4 [.int .i64 250] (zAa _) λY e5 i7 _=>?_;have e5:Bk Y a6 (enc (zRp rr.r.id 250)) 67:=e5;have k9:=i5.fr i7 (by omega);refine rG e5 (zRp rr.r.id 250) (rS k9 (enc (zRp rr.r.id 250)) (Enc.one _) λl b4 O _=>?_);have b4:Bk l b6 (enc (zRp rr.r.id 250)) 67:=b4;refine rresG (B:=b4) rfl ?_;have p:Fr (λi=>w.heap.size<=i/\i<w9.heap.size) t l:=(i7.mono λi _ hi=>by omega).trans (O.mono λi _ hi=>by omega);have c2:Fr R w l:=d8.join p (λ_ _ h=>h) λi hi h=>by omega
   have l0:=p.size
   have l1:=(X.away p (λi hi h=>by rcases h with h|h;exact a7 hi.1 h;omega)).wide (R':=gR R w l) (λi hi=>hi.imp id λh=>by omega) λi hi=>by
    have:=(SrvX.reg SP).1;rcases hi with hi|hi
    ·have:=this i hi;omega
    ·omega
   exact⟨⟨zRp rr.r.id 250,true,rfl,.inl ⟨rfl,_,Ls,K,wt,hd,lw,lh,lj,V,q1,b8.id,rfl,rfl,rfl,(λu _=>SlF.nil u),l1.loose k0,i2,q2⟩⟩,c2⟩
  |true =>
   have l2:=i3 rfl;subst l2;have d9:=(SrvX.reg SP).1
   have l3:∀i,mutS bs K.bj c.workers V i->mutS bs K.bj c.workers RW i\/U.heap.size<=i:=λi h=>by
    rcases h with h|h|⟨k,hk,h⟩
    ·exact .inl (.inl h)
    ·exact .inl (.inr (.inl h))
    ·exact(k4 k hk i h).imp (λh1=>.inr (.inr ⟨k,hk,h1⟩)) id
   have X:=X.wide (R':=gR R w9 t) (λi hi=>hi.imp id λh=>by omega) λi hi=>by
    rcases hi with hi|hi
    ·have:=d9 i hi;omega
    ·omega
   have F2:=X.fz.here;have n6:k0<lj.length:=by rw [F2.ljn];exact hk
   have l4:lh.length<=64:=by rw [F2.lhn];omega
   have c4:∀{b:Nat},w.heap.size<=b->¬b=K.bj:=λ{b} h1 h=>by omega
   have F:∃nj:RJob,nj=⟨⟨d2,(mls g C.q k0 (i+1)).length,d3⟩,((i+1:Nat):Int)⟩:=⟨_,rfl⟩;obtain⟨nj,e6⟩:=F;refine dD (λi=>i=K.bj) (upF 12 0) λY o6=>tX X.cell rfl (λh=>X.ne h) (tX d7 rfl (c4 e1) (rarE (y:=((i+1:Nat):Int)) (by rw [Z];push_cast;rfl) (by omega) (tbuild (cs:=enc nj) (by rw [e6];rfl) ?_)));have i8:=X.jobs.up (w':=Y);refine tixO rfl i8 (x:=lj[k0]) (by simp) λgj hgj _ _=>rstO' rfl nj i8 hgj g6 rfl λl i9 O _=>?_;have O:Fr (λi=>i=K.bj) Y l:=O.mono λi _ hi=>bjD hi;refine⟨O,?_⟩;have j0:=(i4.mv (w:=Y)).fr O (c4 h7);have b4:=(i5.mv (w:=Y)).fr O (c4 j9);have l5:=(k7.mv (w:=Y)).fr O (c4 h5);have e0:=(d7.mv (w:=Y)).fr O (c4 e1);have c5:=(X.cell.mv (w:=Y)).fr O X.ne;have p:Fr (λi=>i=K.bj) t l:=(fE t Y).trans O;have a8:Fr (mutS bs K.bj c.workers V) t l:=p.mono λi _ h=>.inr (.inl h)
   have l6:SlF l (.slice i0 (sts g C.q k0 (i+1)).length i1) (sts g C.q k0 (i+1)):=by
    by_cases hl:sts g C.q k0 (i+1)=[]
    ·rw [hl];exact SlF.nil' _ _ _
    ·have F:=c0.lt hl;obtain⟨gq,g1,g2,g3⟩:=F;exact k8.sl.fr p λb hb h=>by rw [g1] at hb;cases hb;omega
   have l7:SlF l (.slice d2 (mls g C.q k0 (i+1)).length d3) (mls g C.q k0 (i+1)):=by
    by_cases hl:mls g C.q k0 (i+1)=[]
    ·rw [hl];exact SlF.nil' _ _ _
    ·have F:=c1.lt hl;obtain⟨gq,g1,g2,g3⟩:=F;exact i6.sl.fr p λb hb h=>by rw [g1] at hb;cases hb;omega
   have j1:=X.st.away p λk hk i hi h=>(X.rw k hk i hi).2.2 h;have j2:=X.fz l (a8.mono λi _ h=>.inl h);have j3:RqV l rr.r C:=(g0 l ((k6.trans (p.mono λi _ h=>.inr (.inl h))).mono λi _ h=>.inl h)).1;have l0:=p.size;have n8:=F2.words.len;have j4:B<=t.heap.size:=by omega
   have wide:∀{u:World},l.heap.size<=u.heap.size->(∀i,gR (gR R w9 t) t l i->gR R w u i)/\∀i,gR R w u i->B<=i/\i<u.heap.size:=λ{u} hz=>by
    refine⟨λi hi=>?_,λi hi=>?_⟩
    ·rcases hi with (hi|hi)|hi
     ·exact .inl hi
     ·exact .inr (by omega)
     ·exact .inr (by omega)
    ·rcases hi with hi|hi
     ·have:=d9 i hi;omega
     ·omega
   have apart:∀i,(w.heap.size<=i/\i<w9.heap.size)\/l.heap.size<=i->¬gR (gR R w9 t) t l i:=λi h hi=>by
    rcases hi with (hi|hi)|hi
    ·have:=b7 i hi;omega
    ·omega
    ·omega
   have c2:Fr R w l:=d8.trans (p.mono λi _ h=>h ▸ S.rj);have mF:∀{u:World},Fr (λi=>(w.heap.size<=i/\i<w9.heap.size)\/l.heap.size<=i) l u->Fr R w u:=λ{u} f=>c2.join f (λ_ _ h=>h) λi hi h=>by omega
   have mZ:∀{u:World},Fr (λi=>(w.heap.size<=i/\i<w9.heap.size)\/l.heap.size<=i) l u->SrvR k0 (gR R w u) B u bs g c s (wkS g c.workers (aftS s.held k0 C i)) K wt hd lw lh (lj.set k0 nj) V:=λ{u} f =>
    ((X.fin (w1:=t) (w':=l) (kx':=k0) (s':=s) (Ls':=wkS g c.workers (aftS s.held k0 C i)) (Qe _) a8 j4 c5 i9 j1 (.refl _) X.so
     ((X.fz1 (w':=t)).imp λu I=>⟨I.rows,I.pos,I.words,I.wk,I.fw,I.fh,I.lwn,I.waits,I.lhn,by simp [I.ljn],zGv l4 I.helds⟩)).away f apart).wide (wide f.size).1 (wide f.size).2
   have Zm:Fz (mutS bs K.bj c.workers V) (gR (gR R w9 t) t t) t λu=>SlF u (.slice d2 (mls g C.q k0 (i+1)).length d3) (mls g C.q k0 (i+1)):=
    c1.fzB i6.sl λi h1 h2=>⟨.inl (.inr (by omega)),λh=>by
     have F:=l3 i h;rcases F with h4|h4
     ·have:=b7 i (S.mut h4);omega
     ·omega⟩
   have mP:∀{u:World},Fr (λi=>(w.heap.size<=i/\i<w9.heap.size)\/l.heap.size<=i) l u->SvOk g c ⟨s.wait,aftS s.held k0 C i⟩->SrvP (gR R w u) B u bs g c ⟨s.wait,aftS s.held k0 C i⟩:=λ{u} f b5 =>
    ⟨K,wt,hd,lw,lh,lj.set k0 nj,V,((X.fin (w1:=t) (w':=l) (kx':=1000) (s':=⟨s.wait,aftS s.held k0 C i⟩) (Ls':=wkS g c.workers (aftS s.held k0 C i)) (Qe _) a8 j4 c5 i9 j1 (.refl _) b5
     (((X.fz1 (w':=t)).and Zm).imp λu ⟨I,Sm⟩=>⟨I.rows,I.pos,I.words,I.wk,I.fw,I.fh,I.lwn,I.waits,by simp [I.lhn],by simp [I.ljn],zI7 hk hu I.helds ⟨by rw [e6];exact Sm,by rw [e6]⟩⟩)).away f apart).wide (wide f.size).1 (wide f.size).2⟩
   clear wide Zm;have b5:=(zF7 k0 S.so).1;have F:∃an,an=(doneL g C.q (sts g C.q k0 (i+1)) (mls g C.q k0 (i+1))).1:=⟨_,rfl⟩;obtain⟨an,e7⟩:=F;have F:∃dn,dn=(doneL g C.q (sts g C.q k0 (i+1)) (mls g C.q k0 (i+1))).2:=⟨_,rfl⟩;obtain⟨dn,hdn⟩:=F
   have DD:∀{u:World},Le l u->Sp PP 112 #[agg rr.r.q,.slice K.ws.a K.ws.n K.ws.c,.slice i0 (sts g C.q k0 (i+1)).length i1,.slice d2 (mls g C.q k0 (i+1)).length d3] u λv w'=>(∃v1,v=.tuple #[v1,.bool dn]/\AnsO u.heap.size w' v1 an)/\Stp u w':=λ{u} L=>by
    have D:=zFx (j3.q.up (w':=u)) g4.q.ok g7 (j2.words.up (w':=u)) (j2.pos.up (w':=u)) (by omega) (l6.up (w':=u)) (by have:=g9 (i+1);omega) (λx hx=>by have:=d0 hx;omega) (l7.up (w':=u)) (by have:=j8 (i+1);omega);rw [<-e7,<-hdn] at D;exact D
   have o7:bs<l.heap.size:=by omega
   have o8:bx<l.heap.size:=by omega
   have o9:bJ<l.heap.size:=by omega
   refine dT (λi=>l.heap.size<=i) (oL [0,1,2,3,4,5,6,7] (.two 8 (oL [9,10,11,12,13,14] .nil) 12 (oL [8,9,10,11,13,14] .nil))) λj5 p0=>tG l5 rr.r.q (by omega) (tX c5 rfl (by omega) ?_);refine⟨?_,?_⟩
   ·refine rcall (DD (u:=j5) inferInstance) ?_;rintro _ e8 ⟨⟨v1,rfl,ax,rfl,f0,f1,OA⟩,l8⟩;refine⟨Fr.fr l8.e,?_⟩;refine ral λba d4 f2 j6=>⟨Fr.fr f2.e,?_⟩;have l9:=f2.lo (u:=l);refine rS j6 (enc ax) (Enc.one _) λE a9 b0 _=>?_;have a9:Bk E ba (enc ax) 65:=a9;refine⟨b0.mono λi _ h=>by omega,?_⟩;have m0:Stp l E:=⟨Fr.st (lE l d4) b0 λi h=>by omega⟩;have n9:=f2.b;have c6:=((OA.up (w':=d4)).frc b0 j6).mono (B':=l.heap.size) (lz l j5);have c7:=j0.mv (w:=E);have c8:=b4.mv (w:=E);have m1:=lz l E;have a4:Fr (λi=>(w.heap.size<=i/\i<w9.heap.size)\/l.heap.size<=i) l E:=fE l E
    cases dn with
    |true =>
     have F:=zCz hu J hdn.symm;obtain⟨q1,q2⟩:=F;rw [<-e7] at q1;refine rG a9 ax (rS c7 (enc ax) (Enc.one _) λQ H b1 _=>?_);have H:Bk Q a6 (enc (⟨rr.r.id,0,ax⟩:RepD)) 67:=H;have a0:=c8.fr b1 (by omega);refine rG H (⟨rr.r.id,0,ax⟩:RepD) (rS a0 (enc (⟨rr.r.id,0,ax⟩:RepD)) (Enc.one _) λT z G _=>?_);have z:Bk T b6 (enc (⟨rr.r.id,0,ax⟩:RepD)) 67:=z;refine rresG (B:=z) rfl ?_;have fl:=(a4.trans (b1.mono λi _ h=>.inl (by omega))).trans (G.mono λi _ h=>.inl (by omega));have c9:=((c6.fr b1 λb hb _ h=>by omega).fr G λb hb _ h=>by omega);have SZ:=mZ fl;exact⟨⟨⟨rr.r.id,0,ax⟩,true,rfl,.inl ⟨rfl,_,_,K,wt,hd,lw,lh,_,V,q1,b8.id,rfl,f0,f1,c9.fz (λi h1 h2=>⟨.inr ⟨by omega,h2⟩,λh=>by have:=(X.reg i (X.mut h)).2;omega⟩),SZ,zBm hk,q2⟩⟩,mF fl⟩
    |false =>
     refine dQ 10 λQ m2=>tX e0 rfl nf (rarE (y:=((i+1:Nat):Int)) (by rw [Z];push_cast;rfl) (by omega) (tX c5 rfl nf ?_));have H:=c7.mv (w:=Q);have a0:=c8.mv (w:=Q);have a5:=a4.trans (fE E Q);refine ite (λf3=>?_) (λf3=>?_)
     ·have F:=zEJ hu J hdn.symm (by omega);obtain⟨q1,q2⟩:=F;refine rS H [.int .i64 251] (zAa _) λT b2 G _=>?_;have b2:Bk T a6 (enc (zRp rr.r.id 251)) 67:=b2;have z:=a0.fr G (by omega);refine rG b2 (zRp rr.r.id 251) (rS z (enc (zRp rr.r.id 251)) (Enc.one _) λf4 b3 f7 _=>?_);have b3:Bk f4 b6 (enc (zRp rr.r.id 251)) 67:=b3;refine rresG (B:=b3) rfl ?_;have fl:=(a5.trans (G.mono λi _ h=>.inl (by omega))).trans (f7.mono λi _ h=>.inl (by omega));exact⟨⟨zRp rr.r.id 251,true,rfl,.inl ⟨rfl,_,_,K,wt,hd,lw,lh,_,V,q1,b8.id,rfl,rfl,rfl,(λu _=>SlF.nil u),mZ fl,zBm hk,q2⟩⟩,mF fl⟩
     ·have F:=zD6 hu J hdn.symm (by omega);obtain⟨q1,q2⟩:=F;refine rG H (zRp rr.r.id 0) (rS a0 (enc (zRp rr.r.id 0)) (Enc.one _) λT z G _=>?_);have z:Bk T b6 (enc (zRp rr.r.id 0)) 67:=z;refine rresG (B:=z) rfl ?_;have fl:=a5.trans (G.mono λi _ h=>.inl (by omega));rw [q2] at b5;have q3:=mP fl b5;rw [show aftS s.held k0 C i=(stepS g c s.held k0).1 from q2.symm] at q3;exact⟨⟨zRp rr.r.id 0,false,rfl,.inr ⟨rfl,q1,q3⟩⟩,mF fl⟩
   ·refine ral λba e8 f9 m3=>⟨Fr.fr f9.e,?_⟩;have l9:=f9.lo (u:=l);refine rcall (DD (u:=e8) inferInstance) ?_;rintro _ d4 ⟨⟨v1,rfl,ax,rfl,f0,f1,OA⟩,m4⟩;refine⟨Fr.fr m4.e,?_⟩;refine rS m3 (enc ax) (Enc.one _) λE a9 b0 _=>?_;have a9:Bk E ba (enc ax) 65:=a9;refine⟨b0.mono λi _ h=>by omega,?_⟩;have m0:Stp l E:=⟨Fr.st (lE l d4) b0 λi h=>by omega⟩;have o0:=f9.lt;have c6:=(OA.fr b0 λb hb _ h=>by omega).mono (B':=l.heap.size) (lz l e8);have c7:=j0.mv (w:=E);have c8:=b4.mv (w:=E);have m1:=lz l E;have a4:Fr (λi=>(w.heap.size<=i/\i<w9.heap.size)\/l.heap.size<=i) l E:=fE l E
    cases dn with
    |true =>
     have F:=zCz hu J hdn.symm;obtain⟨q1,q2⟩:=F;rw [<-e7] at q1;refine rG a9 ax (rS c7 (enc ax) (Enc.one _) λQ H b1 _=>?_);have H:Bk Q a6 (enc (⟨rr.r.id,0,ax⟩:RepD)) 67:=H;have a0:=c8.fr b1 (by omega);refine rG H (⟨rr.r.id,0,ax⟩:RepD) (rS a0 (enc (⟨rr.r.id,0,ax⟩:RepD)) (Enc.one _) λT z G _=>?_);have z:Bk T b6 (enc (⟨rr.r.id,0,ax⟩:RepD)) 67:=z;refine rresG (B:=z) rfl ?_;have fl:=(a4.trans (b1.mono λi _ h=>.inl (by omega))).trans (G.mono λi _ h=>.inl (by omega));have c9:=((c6.fr b1 λb hb _ h=>by omega).fr G λb hb _ h=>by omega);have SZ:=mZ fl;exact⟨⟨⟨rr.r.id,0,ax⟩,true,rfl,.inl ⟨rfl,_,_,K,wt,hd,lw,lh,_,V,q1,b8.id,rfl,f0,f1,c9.fz (λi h1 h2=>⟨.inr ⟨by omega,h2⟩,λh=>by have:=(X.reg i (X.mut h)).2;omega⟩),SZ,zBm hk,q2⟩⟩,mF fl⟩
    |false =>
     refine dQ 10 λQ m2=>tX e0 rfl nf (rarE (y:=((i+1:Nat):Int)) (by rw [Z];push_cast;rfl) (by omega) (tX c5 rfl nf ?_));have H:=c7.mv (w:=Q);have a0:=c8.mv (w:=Q);have a5:=a4.trans (fE E Q);refine ite (λf3=>?_) (λf3=>?_)
     ·have F:=zEJ hu J hdn.symm (by omega);obtain⟨q1,q2⟩:=F;refine rS H [.int .i64 251] (zAa _) λT b2 G _=>?_;have b2:Bk T a6 (enc (zRp rr.r.id 251)) 67:=b2;have z:=a0.fr G (by omega);refine rG b2 (zRp rr.r.id 251) (rS z (enc (zRp rr.r.id 251)) (Enc.one _) λf4 b3 f7 _=>?_);have b3:Bk f4 b6 (enc (zRp rr.r.id 251)) 67:=b3;refine rresG (B:=b3) rfl ?_;have fl:=(a5.trans (G.mono λi _ h=>.inl (by omega))).trans (f7.mono λi _ h=>.inl (by omega));exact⟨⟨zRp rr.r.id 251,true,rfl,.inl ⟨rfl,_,_,K,wt,hd,lw,lh,_,V,q1,b8.id,rfl,rfl,rfl,(λu _=>SlF.nil u),mZ fl,zBm hk,q2⟩⟩,mF fl⟩
     ·have F:=zD6 hu J hdn.symm (by omega);obtain⟨q1,q2⟩:=F;refine rG H (zRp rr.r.id 0) (rS a0 (enc (zRp rr.r.id 0)) (Enc.one _) λT z G _=>?_);have z:Bk T b6 (enc (zRp rr.r.id 0)) 67:=z;refine rresG (B:=z) rfl ?_;have fl:=a5.trans (G.mono λi _ h=>.inl (by omega));rw [q2] at b5;have q3:=mP fl b5;rw [show aftS s.held k0 C i=(stepS g c s.held k0).1 from q2.symm] at q3;exact⟨⟨zRp rr.r.id 0,false,rfl,.inr ⟨rfl,q1,q3⟩⟩,mF fl⟩
 ·refine ral λbJ w3 n3 p1=>⟨Fr.fr n3.e,?_⟩;refine ral λbx w4 n4 X4=>⟨Fr.fr n4.e,?_⟩;have h5:=n4.lo (u:=w);have e1:=n3.lo (u:=w);have m9:=n4.lo (u:=w1);have n0:=n3.lo (u:=w1);have d5:¬bJ=bx:=by have:=n4.b;have:=n3.lt;omega
  have h0:=p1.mv (w:=w4);refine rS X4 (enc rr.r) (Enc.one _) λw5 X5 f5 _=>?_;have X5:Bk w5 bx (enc rr.r) 55:=X5;have s5:Stp w1 w5:=⟨Fr.st (lE w1 w4) f5 λi hi=>by omega⟩;have h6:=h0.fr f5 d5;refine⟨f5.mono λi _ hi=>by omega,?_⟩;refine rS h6 (enc jj) (Enc.one _) λw6 e3 f6 _=>?_;have e3:Bk w6 bJ (enc jj) 188:=e3;have s6:Stp w1 w6:=⟨Fr.st s5.e f6 λi hi=>by omega⟩;have X6:=X5.fr f6 (λh=>d5 h.symm);refine⟨f6.mono λi _ hi=>by omega,?_⟩;clear X4 h0 X5 h6;refine rX X6 rfl (rbuild (cs:=enc (zRp rr.r.id 0)) rfl (ral λa6 w7 n7 Y7=>?_));have h7:=n7.lo (u:=w);have n5:b6<a6:=by have:=n7.b;have:=lz w1 w6;omega
  refine rS Y7 (enc (zRp rr.r.id 0)) (Enc.one _) λw8 Y8 f8 _=>?_;have Y8:Bk w8 a6 (enc (zRp rr.r.id 0)) 67:=Y8;have s8:Stp w6 w8:=⟨Fr.st (lE w6 w7) f8 λi hi=>by have:=n7.b;omega⟩;clear Y7 f8;have X8:=X6.mv (w:=w8);have e4:=e3.mv (w:=w8);refine dD (λ_=>False) [0,1,2,3,4,5,6,7,9,10,11,12,13,14,15,16,8,17,18,19,20,21,22,23,24] λw9 e9=>tG X8 rr.r.q nf (tG S.cell K.xr nf (tX e4 rfl nf (tX S.cell rfl nf ?_)));refine rcall (zDe (SrvP.up (w':=w9) SP) hk) ?_;rintro _ d1 ⟨b9,h8⟩;rw [hu] at b9;have b9:Own w9.heap.size 222 d1 _ (sts g C.q k0 i):=b9;have F:=b9.shape;obtain⟨sa,sc,rfl⟩:=F;refine⟨h8.e,?_⟩;have Fu:=S.fz.at (w':=d1);have hV:=(g0.at (w':=d1));have D:=zE1 (W:=c.workers) (xq:=rr.r.q) (S:=sts g C.q k0 i) (M:=mls g C.q k0 i) g7 Fu.rows ⟨hV.1.q.kind,hV.1.q.rad⟩ b9.sl hV.2 (h3.up (w':=d1)) hW (zF9 i) (λx hx=>⟨(d0 hx).1,(d0 hx).2.1⟩) (λx hx=>⟨(j7 hx).1,(j7 hx).2.1⟩) (by have:=g9 i;omega) (j8 i);rw [k1] at D;refine rcall D ?_;rintro _ U ⟨⟨v1,v2,rfl,c0,c1⟩,h9⟩;dsimp only at c0 c1;refine⟨h9.e,?_⟩;have F:=c0.shape;obtain⟨i0,i1,rfl⟩:=F;have F:=c1.shape;obtain⟨d2,d3,rfl⟩:=F;refine iF (· rfl) ?_;have z9:=lz w w9;have o3:=h8.e.size;have o4:=h9.e.size;have ly:=(Y8.mv (w:=w9)).lt;have lq:=(Y1.mv (w:=w9)).lt;have lx:=(X8.mv (w:=w9)).lt;have lJ:=(e4.mv (w:=w9)).lt;refine rcall (zD4 (S.up (w':=U)) (Qw hB (lz w U)) hu c0 (λi hi=>by have:=b7 i hi;omega)) ?_;rintro _ t ⟨⟨b,Ls,V,rfl,X,k4,k5,i2,i3⟩,d6⟩;have a1:Fr R U t:=d6.mono λi _ ⟨k,hk,h⟩=>(S.rw k hk i h).1;have k6:Fr (mutS bs K.bj c.workers RW) w t:=(fE w U).trans (d6.mono λi _ h=>zBN h);have a7:∀{b:Nat},w.heap.size<=b->¬R b:=λ{b} hb h=>by have:=b7 b h;omega
  have i4:=(Y8.mv (w:=U)).fr a1 (a7 h7);have i5:=(Y1.mv (w:=U)).fr a1 (a7 j9);have k7:=(X8.mv (w:=U)).fr a1 (a7 h5);have d7:=(e4.mv (w:=U)).fr a1 (a7 e1);have k8:=c0.fr a1 λb hb _=>a7 (by omega);have i6:=c1.fr a1 λb hb _=>a7 (by omega);have o5:=a1.size;have d8:Fr R w t:=(fE w U).trans a1;have J:overS g c (s.held.set k0 (some (C,i+1))) = !b:=k5
  cases b with
  |false =>
   have F:=zJu hu J;obtain⟨q1,q2⟩:=F;refine rS i4 [.int .i64 250] (zAa _) λY e5 i7 _=>?_;have e5:Bk Y a6 (enc (zRp rr.r.id 250)) 67:=e5;have k9:=i5.fr i7 (by omega);refine rG e5 (zRp rr.r.id 250) (rS k9 (enc (zRp rr.r.id 250)) (Enc.one _) λl b4 O _=>?_);have b4:Bk l b6 (enc (zRp rr.r.id 250)) 67:=b4;refine rresG (B:=b4) rfl ?_;have p:Fr (λi=>w.heap.size<=i/\i<w9.heap.size) t l:=(i7.mono λi _ hi=>by omega).trans (O.mono λi _ hi=>by omega);have c2:Fr R w l:=d8.join p (λ_ _ h=>h) λi hi h=>by omega
   have l0:=p.size
   have l1:=(X.away p (λi hi h=>by rcases h with h|h;exact a7 hi.1 h;omega)).wide (R':=gR R w l) (λi hi=>hi.imp id λh=>by omega) λi hi=>by
    have:=(SrvX.reg SP).1;rcases hi with hi|hi
    ·have:=this i hi;omega
    ·omega
   exact⟨⟨zRp rr.r.id 250,true,rfl,.inl ⟨rfl,_,Ls,K,wt,hd,lw,lh,lj,V,q1,b8.id,rfl,rfl,rfl,(λu _=>SlF.nil u),l1.loose k0,i2,q2⟩⟩,c2⟩
  |true =>
   have l2:=i3 rfl;subst l2;have d9:=(SrvX.reg SP).1
   have l3:∀i,mutS bs K.bj c.workers V i->mutS bs K.bj c.workers RW i\/U.heap.size<=i:=λi h=>by
    rcases h with h|h|⟨k,hk,h⟩
    ·exact .inl (.inl h)
    ·exact .inl (.inr (.inl h))
    ·exact(k4 k hk i h).imp (λh1=>.inr (.inr ⟨k,hk,h1⟩)) id
   have X:=X.wide (R':=gR R w9 t) (λi hi=>hi.imp id λh=>by omega) λi hi=>by
    rcases hi with hi|hi
    ·have:=d9 i hi;omega
    ·omega
   have F2:=X.fz.here;have n6:k0<lj.length:=by rw [F2.ljn];exact hk
   have l4:lh.length<=64:=by rw [F2.lhn];omega
   have c4:∀{b:Nat},w.heap.size<=b->¬b=K.bj:=λ{b} h1 h=>by omega
   have F:∃nj:RJob,nj=⟨⟨d2,(mls g C.q k0 (i+1)).length,d3⟩,((i+1:Nat):Int)⟩:=⟨_,rfl⟩;obtain⟨nj,e6⟩:=F;refine dD (λi=>i=K.bj) (upF 12 0) λY o6=>tX X.cell rfl (λh=>X.ne h) (tX d7 rfl (c4 e1) (rarE (y:=((i+1:Nat):Int)) (by rw [Z];push_cast;rfl) (by omega) (tbuild (cs:=enc nj) (by rw [e6];rfl) ?_)));have i8:=X.jobs.up (w':=Y);refine tixO rfl i8 (x:=lj[k0]) (by simp) λgj hgj _ _=>rstO' rfl nj i8 hgj g6 rfl λl i9 O _=>?_;have O:Fr (λi=>i=K.bj) Y l:=O.mono λi _ hi=>bjD hi;refine⟨O,?_⟩;have j0:=(i4.mv (w:=Y)).fr O (c4 h7);have b4:=(i5.mv (w:=Y)).fr O (c4 j9);have l5:=(k7.mv (w:=Y)).fr O (c4 h5);have e0:=(d7.mv (w:=Y)).fr O (c4 e1);have c5:=(X.cell.mv (w:=Y)).fr O X.ne;have p:Fr (λi=>i=K.bj) t l:=(fE t Y).trans O;have a8:Fr (mutS bs K.bj c.workers V) t l:=p.mono λi _ h=>.inr (.inl h)
   have l6:SlF l (.slice i0 (sts g C.q k0 (i+1)).length i1) (sts g C.q k0 (i+1)):=by
    by_cases hl:sts g C.q k0 (i+1)=[]
    ·rw [hl];exact SlF.nil' _ _ _
    ·have F:=c0.lt hl;obtain⟨gq,g1,g2,g3⟩:=F;exact k8.sl.fr p λb hb h=>by rw [g1] at hb;cases hb;omega
   have l7:SlF l (.slice d2 (mls g C.q k0 (i+1)).length d3) (mls g C.q k0 (i+1)):=by
    by_cases hl:mls g C.q k0 (i+1)=[]
    ·rw [hl];exact SlF.nil' _ _ _
    ·have F:=c1.lt hl;obtain⟨gq,g1,g2,g3⟩:=F;exact i6.sl.fr p λb hb h=>by rw [g1] at hb;cases hb;omega
   have j1:=X.st.away p λk hk i hi h=>(X.rw k hk i hi).2.2 h;have j2:=X.fz l (a8.mono λi _ h=>.inl h);have j3:RqV l rr.r C:=(g0 l ((k6.trans (p.mono λi _ h=>.inr (.inl h))).mono λi _ h=>.inl h)).1;have l0:=p.size;have n8:=F2.words.len;have j4:B<=t.heap.size:=by omega
   have wide:∀{u:World},l.heap.size<=u.heap.size->(∀i,gR (gR R w9 t) t l i->gR R w u i)/\∀i,gR R w u i->B<=i/\i<u.heap.size:=λ{u} hz=>by
    refine⟨λi hi=>?_,λi hi=>?_⟩
    ·rcases hi with (hi|hi)|hi
     ·exact .inl hi
     ·exact .inr (by omega)
     ·exact .inr (by omega)
    ·rcases hi with hi|hi
     ·have:=d9 i hi;omega
     ·omega
   have apart:∀i,(w.heap.size<=i/\i<w9.heap.size)\/l.heap.size<=i->¬gR (gR R w9 t) t l i:=λi h hi=>by
    rcases hi with (hi|hi)|hi
    ·have:=b7 i hi;omega
    ·omega
    ·omega
   have c2:Fr R w l:=d8.trans (p.mono λi _ h=>h ▸ S.rj);have mF:∀{u:World},Fr (λi=>(w.heap.size<=i/\i<w9.heap.size)\/l.heap.size<=i) l u->Fr R w u:=λ{u} f=>c2.join f (λ_ _ h=>h) λi hi h=>by omega
   have mZ:∀{u:World},Fr (λi=>(w.heap.size<=i/\i<w9.heap.size)\/l.heap.size<=i) l u->SrvR k0 (gR R w u) B u bs g c s (wkS g c.workers (aftS s.held k0 C i)) K wt hd lw lh (lj.set k0 nj) V:=λ{u} f =>
    ((X.fin (w1:=t) (w':=l) (kx':=k0) (s':=s) (Ls':=wkS g c.workers (aftS s.held k0 C i)) (Qe _) a8 j4 c5 i9 j1 (.refl _) X.so
     ((X.fz1 (w':=t)).imp λu I=>⟨I.rows,I.pos,I.words,I.wk,I.fw,I.fh,I.lwn,I.waits,I.lhn,by simp [I.ljn],zGv l4 I.helds⟩)).away f apart).wide (wide f.size).1 (wide f.size).2
   have Zm:Fz (mutS bs K.bj c.workers V) (gR (gR R w9 t) t t) t λu=>SlF u (.slice d2 (mls g C.q k0 (i+1)).length d3) (mls g C.q k0 (i+1)):=
    c1.fzB i6.sl λi h1 h2=>⟨.inl (.inr (by omega)),λh=>by
     have F:=l3 i h;rcases F with h4|h4
     ·have:=b7 i (S.mut h4);omega
     ·omega⟩
   have mP:∀{u:World},Fr (λi=>(w.heap.size<=i/\i<w9.heap.size)\/l.heap.size<=i) l u->SvOk g c ⟨s.wait,aftS s.held k0 C i⟩->SrvP (gR R w u) B u bs g c ⟨s.wait,aftS s.held k0 C i⟩:=λ{u} f b5 =>
    ⟨K,wt,hd,lw,lh,lj.set k0 nj,V,((X.fin (w1:=t) (w':=l) (kx':=1000) (s':=⟨s.wait,aftS s.held k0 C i⟩) (Ls':=wkS g c.workers (aftS s.held k0 C i)) (Qe _) a8 j4 c5 i9 j1 (.refl _) b5
     (((X.fz1 (w':=t)).and Zm).imp λu ⟨I,Sm⟩=>⟨I.rows,I.pos,I.words,I.wk,I.fw,I.fh,I.lwn,I.waits,by simp [I.lhn],by simp [I.ljn],zI7 hk hu I.helds ⟨by rw [e6];exact Sm,by rw [e6]⟩⟩)).away f apart).wide (wide f.size).1 (wide f.size).2⟩
   clear wide Zm;have b5:=(zF7 k0 S.so).1;have F:∃an,an=(doneL g C.q (sts g C.q k0 (i+1)) (mls g C.q k0 (i+1))).1:=⟨_,rfl⟩;obtain⟨an,e7⟩:=F;have F:∃dn,dn=(doneL g C.q (sts g C.q k0 (i+1)) (mls g C.q k0 (i+1))).2:=⟨_,rfl⟩;obtain⟨dn,hdn⟩:=F
   have DD:∀{u:World},Le l u->Sp PP 112 #[agg rr.r.q,.slice K.ws.a K.ws.n K.ws.c,.slice i0 (sts g C.q k0 (i+1)).length i1,.slice d2 (mls g C.q k0 (i+1)).length d3] u λv w'=>(∃v1,v=.tuple #[v1,.bool dn]/\AnsO u.heap.size w' v1 an)/\Stp u w':=λ{u} L=>by
    have D:=zFx (j3.q.up (w':=u)) g4.q.ok g7 (j2.words.up (w':=u)) (j2.pos.up (w':=u)) (by omega) (l6.up (w':=u)) (by have:=g9 (i+1);omega) (λx hx=>by have:=d0 hx;omega) (l7.up (w':=u)) (by have:=j8 (i+1);omega);rw [<-e7,<-hdn] at D;exact D
   have o7:bs<l.heap.size:=by omega
   have o8:bx<l.heap.size:=by omega
   have o9:bJ<l.heap.size:=by omega
   refine dT (λi=>l.heap.size<=i) (oL [0,1,2,3,4,5,6,7] (.two 8 (oL [9,10,11,12,13,14] .nil) 12 (oL [8,9,10,11,13,14] .nil))) λj5 p0=>tG l5 rr.r.q (by omega) (tX c5 rfl (by omega) ?_);refine⟨?_,?_⟩
   ·refine rcall (DD (u:=j5) inferInstance) ?_;rintro _ e8 ⟨⟨v1,rfl,ax,rfl,f0,f1,OA⟩,l8⟩;refine⟨Fr.fr l8.e,?_⟩;refine ral λba d4 f2 j6=>⟨Fr.fr f2.e,?_⟩;have l9:=f2.lo (u:=l);refine rS j6 (enc ax) (Enc.one _) λE a9 b0 _=>?_;have a9:Bk E ba (enc ax) 65:=a9;refine⟨b0.mono λi _ h=>by omega,?_⟩;have m0:Stp l E:=⟨Fr.st (lE l d4) b0 λi h=>by omega⟩;have n9:=f2.b;have c6:=((OA.up (w':=d4)).frc b0 j6).mono (B':=l.heap.size) (lz l j5);have c7:=j0.mv (w:=E);have c8:=b4.mv (w:=E);have m1:=lz l E;have a4:Fr (λi=>(w.heap.size<=i/\i<w9.heap.size)\/l.heap.size<=i) l E:=fE l E
    cases dn with
    |true =>
     have F:=zCz hu J hdn.symm;obtain⟨q1,q2⟩:=F;rw [<-e7] at q1;refine rG a9 ax (rS c7 (enc ax) (Enc.one _) λQ H b1 _=>?_);have H:Bk Q a6 (enc (⟨rr.r.id,0,ax⟩:RepD)) 67:=H;have a0:=c8.fr b1 (by omega);refine rG H (⟨rr.r.id,0,ax⟩:RepD) (rS a0 (enc (⟨rr.r.id,0,ax⟩:RepD)) (Enc.one _) λT z G _=>?_);have z:Bk T b6 (enc (⟨rr.r.id,0,ax⟩:RepD)) 67:=z;refine rresG (B:=z) rfl ?_;have fl:=(a4.trans (b1.mono λi _ h=>.inl (by omega))).trans (G.mono λi _ h=>.inl (by omega));have c9:=((c6.fr b1 λb hb _ h=>by omega).fr G λb hb _ h=>by omega);have SZ:=mZ fl;exact⟨⟨⟨rr.r.id,0,ax⟩,true,rfl,.inl ⟨rfl,_,_,K,wt,hd,lw,lh,_,V,q1,b8.id,rfl,f0,f1,c9.fz (λi h1 h2=>⟨.inr ⟨by omega,h2⟩,λh=>by have:=(X.reg i (X.mut h)).2;omega⟩),SZ,zBm hk,q2⟩⟩,mF fl⟩
    |false =>
     refine dQ 10 λQ m2=>tX e0 rfl nf (rarE (y:=((i+1:Nat):Int)) (by rw [Z];push_cast;rfl) (by omega) (tX c5 rfl nf ?_));have H:=c7.mv (w:=Q);have a0:=c8.mv (w:=Q);have a5:=a4.trans (fE E Q);refine ite (λf3=>?_) (λf3=>?_)
     ·have F:=zEJ hu J hdn.symm (by omega);obtain⟨q1,q2⟩:=F;refine rS H [.int .i64 251] (zAa _) λT b2 G _=>?_;have b2:Bk T a6 (enc (zRp rr.r.id 251)) 67:=b2;have z:=a0.fr G (by omega);refine rG b2 (zRp rr.r.id 251) (rS z (enc (zRp rr.r.id 251)) (Enc.one _) λf4 b3 f7 _=>?_);have b3:Bk f4 b6 (enc (zRp rr.r.id 251)) 67:=b3;refine rresG (B:=b3) rfl ?_;have fl:=(a5.trans (G.mono λi _ h=>.inl (by omega))).trans (f7.mono λi _ h=>.inl (by omega));exact⟨⟨zRp rr.r.id 251,true,rfl,.inl ⟨rfl,_,_,K,wt,hd,lw,lh,_,V,q1,b8.id,rfl,rfl,rfl,(λu _=>SlF.nil u),mZ fl,zBm hk,q2⟩⟩,mF fl⟩
     ·have F:=zD6 hu J hdn.symm (by omega);obtain⟨q1,q2⟩:=F;refine rG H (zRp rr.r.id 0) (rS a0 (enc (zRp rr.r.id 0)) (Enc.one _) λT z G _=>?_);have z:Bk T b6 (enc (zRp rr.r.id 0)) 67:=z;refine rresG (B:=z) rfl ?_;have fl:=a5.trans (G.mono λi _ h=>.inl (by omega));rw [q2] at b5;have q3:=mP fl b5;rw [show aftS s.held k0 C i=(stepS g c s.held k0).1 from q2.symm] at q3;exact⟨⟨zRp rr.r.id 0,false,rfl,.inr ⟨rfl,q1,q3⟩⟩,mF fl⟩
   ·refine ral λba e8 f9 m3=>⟨Fr.fr f9.e,?_⟩;have l9:=f9.lo (u:=l);refine rcall (DD (u:=e8) inferInstance) ?_;rintro _ d4 ⟨⟨v1,rfl,ax,rfl,f0,f1,OA⟩,m4⟩;refine⟨Fr.fr m4.e,?_⟩;refine rS m3 (enc ax) (Enc.one _) λE a9 b0 _=>?_;have a9:Bk E ba (enc ax) 65:=a9;refine⟨b0.mono λi _ h=>by omega,?_⟩;have m0:Stp l E:=⟨Fr.st (lE l d4) b0 λi h=>by omega⟩;have o0:=f9.lt;have c6:=(OA.fr b0 λb hb _ h=>by omega).mono (B':=l.heap.size) (lz l e8);have c7:=j0.mv (w:=E);have c8:=b4.mv (w:=E);have m1:=lz l E;have a4:Fr (λi=>(w.heap.size<=i/\i<w9.heap.size)\/l.heap.size<=i) l E:=fE l E
    cases dn with
    |true =>
     have F:=zCz hu J hdn.symm;obtain⟨q1,q2⟩:=F;rw [<-e7] at q1;refine rG a9 ax (rS c7 (enc ax) (Enc.one _) λQ H b1 _=>?_);have H:Bk Q a6 (enc (⟨rr.r.id,0,ax⟩:RepD)) 67:=H;have a0:=c8.fr b1 (by omega);refine rG H (⟨rr.r.id,0,ax⟩:RepD) (rS a0 (enc (⟨rr.r.id,0,ax⟩:RepD)) (Enc.one _) λT z G _=>?_);have z:Bk T b6 (enc (⟨rr.r.id,0,ax⟩:RepD)) 67:=z;refine rresG (B:=z) rfl ?_;have fl:=(a4.trans (b1.mono λi _ h=>.inl (by omega))).trans (G.mono λi _ h=>.inl (by omega));have c9:=((c6.fr b1 λb hb _ h=>by omega).fr G λb hb _ h=>by omega);have SZ:=mZ fl;exact⟨⟨⟨rr.r.id,0,ax⟩,true,rfl,.inl ⟨rfl,_,_,K,wt,hd,lw,lh,_,V,q1,b8.id,rfl,f0,f1,c9.fz (λi h1 h2=>⟨.inr ⟨by omega,h2⟩,λh=>by have:=(X.reg i (X.mut h)).2;omega⟩),SZ,zBm hk,q2⟩⟩,mF fl⟩
    |false =>
     refine dQ 10 λQ m2=>tX e0 rfl nf (rarE (y:=((i+1:Nat):Int)) (by rw [Z];push_cast;rfl) (by omega) (tX c5 rfl nf ?_));have H:=c7.mv (w:=Q);have a0:=c8.mv (w:=Q);have a5:=a4.trans (fE E Q);refine ite (λf3=>?_) (λf3=>?_)
     ·have F:=zEJ hu J hdn.symm (by omega);obtain⟨q1,q2⟩:=F;refine rS H [.int .i64 251] (zAa _) λT b2 G _=>?_;have b2:Bk T a6 (enc (zRp rr.r.id 251)) 67:=b2;have z:=a0.fr G (by omega);refine rG b2 (zRp rr.r.id 251) (rS z (enc (zRp rr.r.id 251)) (Enc.one _) λf4 b3 f7 _=>?_);have b3:Bk f4 b6 (enc (zRp rr.r.id 251)) 67:=b3;refine rresG (B:=b3) rfl ?_;have fl:=(a5.trans (G.mono λi _ h=>.inl (by omega))).trans (f7.mono λi _ h=>.inl (by omega));exact⟨⟨zRp rr.r.id 251,true,rfl,.inl ⟨rfl,_,_,K,wt,hd,lw,lh,_,V,q1,b8.id,rfl,rfl,rfl,(λu _=>SlF.nil u),mZ fl,zBm hk,q2⟩⟩,mF fl⟩
     ·have F:=zD6 hu J hdn.symm (by omega);obtain⟨q1,q2⟩:=F;refine rG H (zRp rr.r.id 0) (rS a0 (enc (zRp rr.r.id 0)) (Enc.one _) λT z G _=>?_);have z:Bk T b6 (enc (zRp rr.r.id 0)) 67:=z;refine rresG (B:=z) rfl ?_;have fl:=a5.trans (G.mono λi _ h=>.inl (by omega));rw [q2] at b5;have q3:=mP fl b5;rw [show aftS s.held k0 C i=(stepS g c s.held k0).1 from q2.symm] at q3;exact⟨⟨zRp rr.r.id 0,false,rfl,.inr ⟨rfl,q1,q3⟩⟩,mF fl⟩
end
section
variable {kx:Nat} {R:Nat->Prop} {B:Nat} {w0 w w':World} {bs:Nat} {g:GrD} {c:CfD} {s:SvD} {Ls:Nat->List StD} {K:SrvK} {wt hd:SV} {lw:List RReq} {lh:List RHeld} {lj:List RJob} {RW:Nat->Nat->Prop}
theorem zDL(k:Nat):∀(b:List Nat) (h:Hs),stepsS g c (b++[k]) h=((stepS g c (stepsS g c b h).1 k).1,(stepsS g c b h).2++(stepS g c (stepsS g c b h).1 k).2.toList)
 |[],h=>by simp [stepsS]
 |a::r,h=>by
  have:=zDL k r (stepS g c h a).1;show ((stepsS g c (r++[k]) (stepS g c h a).1).1,(stepS g c h a).2.toList++(stepsS g c (r++[k]) (stepS g c h a).1).2)=_;rw [this];refine Prod.ext rfl ?_;show _++(_++_)=(_++_)++_;rw [Qp];rfl
theorem zCU:∀(b:List Nat) (h:Hs),(stepsS g c b h).2.length<=b.length
 |[],h=>Qe _
 |a::r,h=>by
  have:=zCU r (stepS g c h a).1;show ((stepS g c h a).2.toList++(stepsS g c r (stepS g c h a).1).2).length<=r.length+1;rw [Qb];cases (stepS g c h a).2 <;> simp <;> omega
theorem zDM:∀(d:List Nat) (h:Hs),j∉d->(stepsS g c d h).1.getD j none=h.getD j none
 |[],h,_=>rfl
 |a::r,h,b=>by
  rw [Ql,not_or] at b;show (stepsS g c r (stepS g c h a).1).1.getD j none=_;rw [zDM r _ b.2,zNR b.1]
theorem zK6{y:RepD}{p:Int×Int×AnP}(b:y.id=p.1)(d:y.code=p.2.1)(e:y.a.found=p.2.2.found)(f:y.a.num=p.2.2.num):(RepOk y p.2.2.hits↔RepOk (repOf p.1 p.2.1 p.2.2) p.2.2.hits)/\encR y p.2.2.hits=encR (repOf p.1 p.2.1 p.2.2) p.2.2.hits:=by
 obtain⟨id,h,found,l,s⟩:=y;obtain⟨o,pc,pa⟩:=p;dsimp only at b d e f;subst b d e f;exact⟨Iff.rfl,rfl⟩
theorem zIJ{c3:Nat}(S:SrvP R B w bs g c s)(hB:B<=w.heap.size)(h3:∀u,Fr R w u->SlF u (.slice a3 n3 c3) ps):
  Sp PP 14 #[.pointer (some ⟨bs,0,none⟩),.slice a3 n3 c3] w λv w'=>∃R':Nat->Prop,Own w.heap.size 9 w' v ((tickS g c s).2.map bsOf)/\(∀b,Value.blk v=some b->b<w'.heap.size/\¬R' b)/\SrvP R' B w' bs g c (tickS g c s).1/\(∀i,R' i->gR R w w' i)/\Fr R w w':=by
 have hR:=(SrvX.reg S).1;refine eN ?_;refine rpnil (rcall (zH6 S hB) ?_);rintro _ w1 ⟨S1,f1⟩;have z1:=f1.size;have A:∃d:SvD,d=⟨(admitS s.wait s.held).1,(admitS s.wait s.held).2⟩:=⟨_,rfl⟩;obtain⟨d,U⟩:=A;rw [<-U] at S1;have c6:=(SrvX.reg S1).1;have a7:=S1;obtain⟨K,wt,hd,lw,lh,lj,RW,S2⟩:=a7;have c7:=S2.small;have F2:=S2.fz.here;have hu:=F2.usedH;have c8:=F2.fh.len;have c9:(usedS d.held).length<=lh.length:=by rw [F2.lhn];exact zD3 _ _
 refine rX S2.cell rfl ?_;have D:=zJQ F2.fh (by omega);rw [hu] at D;refine rcall D ?_;rintro v w2 ⟨O2,e2⟩;have A:=O2.shape;obtain⟨ua,uc,rfl⟩:=A;have z2:=e2.e.size;have c2:((usedS d.held).map λk:Nat=>(k:Int)).length=(usedS d.held).length:=by simp
 have P0:SrvP (gR R w w1) B w2 bs g c ⟨d.wait,(stepsS g c ((usedS d.held).take 0) d.held).1⟩:=SrvP.up (w':=w2) S1
 refine cO 22 [7,8,9,10,11] 5 22 (usedS d.held).length (λj v u=>∃r:Nat->Prop,Own w2.heap.size 9 u v ((stepsS g c ((usedS d.held).take j) d.held).2.map bsOf)/\(∀b,Value.blk v=some b->b<u.heap.size/\¬r b) /\
   SrvP r B u bs g c ⟨d.wait,(stepsS g c ((usedS d.held).take j) d.held).1⟩/\(∀i,r i->gR R w w1 i\/w2.heap.size<=i)/\Fr (λi=>r i/\i<w2.heap.size) w2 u)
  ⟨gR R w w1,Own.nil _ _ _,(λb C=>by cases C),P0,(λi hi=>.inl hi),Fr.refl _ _⟩ ?_
 clear P0;rintro j v G u hj ⟨r,O,o,P,M,f⟩;have zu:=f.size;have ff:Fr (λi=>gR R w w1 i/\i<w2.heap.size) w2 u:=f.mono λi hi h=>⟨(M i h.1).elim id λL=>by omega,h.2⟩;have fR:Fr R w u:=(f1.join (H:=λi=>R i) ((Fr.fr (D:=λi=>gR R w w1 i/\i<w2.heap.size) e2.e).trans ff) (λ_ _ h=>h) λi hi h=>h.1.elim id λh=>by omega);have Ou:=O2.fr ff λb C d0 h=>by rcases h.1 with h4|h4;(have:=hR b h4;omega);omega
 refine ite (λhlt=>?_) (λa8=>?_)
 ·have I:j<(usedS d.held).length:=by (try dsimp only at hlt);omega
  have A:∃k,k=(usedS d.held)[j]:=⟨_,rfl⟩;obtain⟨k,hk⟩:=A;have a9:k∈usedS d.held:=by rw [hk];exact Qa I
  have A:=zJA a9;obtain⟨x0,i,b0⟩:=A
  have b2:k∉(usedS d.held).take j:=λh=>by
   have A:=QI.1 h;obtain⟨m,hm,he⟩:=A;rw [Qm] at hm;rw [VI,hk] at he;have:=(VQ (zM6 d.held)).1 he;omega
  have V:(stepsS g c ((usedS d.held).take j) d.held).1.getD k none=some (x0,i):=by rw [zDM _ _ b2];exact b0
  have l:=zDL (g:=g) (c:=c) k ((usedS d.held).take j) d.held;rw [show (usedS d.held).take j++[k]=(usedS d.held).take (j+1) by rw [hk,<-QO I]] at l;have A:∃E,E=(stepsS g c ((usedS d.held).take j) d.held).1:=⟨_,rfl⟩;obtain⟨E,b3⟩:=A;have A:∃lo,lo=(stepsS g c ((usedS d.held).take j) d.held).2:=⟨_,rfl⟩;obtain⟨lo,W⟩:=A;rw [<-b3] at V P l;rw [<-W] at O l;have b4:B<=u.heap.size:=by omega
  have X:=(SrvX.reg P).1;refine rix Ou.sl (x:=(k:Int)) (by simp [I,hk]) λb1 o1 A1=>rload1 (A1.cell0 rfl) (rcall (zIM P b4 V (h3 u fR)) ?_);rintro _ t ⟨⟨y,d1,rfl,T⟩,fs⟩;have zs:=fs.size;refine ral λb5 u2 n2 Y2=>?_;have b7:=n2.lo (u:=t);have c4:=n2.lt;refine rE Y2 y λz Y3 f3 _=>?_;have Y3:Bk z b5 (enc y) 67:=Y3;have s3:Stp t z:=⟨Fr.st Le.e f3 λi hi=>by subst hi;exact b7⟩;clear Y2 f3;have z3:=lz t z;have Q:∀{b:Nat},b<u.heap.size->¬r b->∀{x y:World},u.heap.size<=x.heap.size->¬gR r x y b:=λ{b} C hn {x y} V h=>h.elim hn λh=>by omega
  have c5:lo.length<=64:=by
   have:=zCU (g:=g) (c:=c) ((usedS d.held).take j) d.held;rw [<-W,Qm] at this;omega
  have Os:Own w2.heap.size 9 t v (lo.map bsOf):=O.fr fs λb _ C=>(o b C).2;have Y:Fr (λi=>gR r u t i/\i<w2.heap.size) w2 t:=f.join fs (λi _ h=>⟨.inl h.1,h.2⟩) λi hi h=>⟨.inl h,hi⟩;have Z:∀{y x:World},w2.heap.size<=x.heap.size->∀i,gR r x y i->gR R w w1 i\/w2.heap.size<=i:=λ{y x} V i hi=>hi.elim (M i) λh=>.inr (by omega);rcases T with ⟨rfl,p,Ls,K,wt,hd,lw,lh,lj,RW,q1,b8,b9,c0,c1,HZ,SZ,a0,q2⟩|⟨rfl,q1,P1⟩
  ·have a1:=SZ.up (w':=z);refine rcall (zDE a1 a0 V (by omega)) ?_;rintro _ F ⟨P4,m4⟩;have f4:Fr (gR r u t) z F:=m4.mono λi _ h=>a1.mut h;have z4:=f4.size;have Y4:=Y3.fr f4 λh=>h.elim (λh=>by have:=(X _ h).2;omega) λh=>by omega
   have H4:SlF F (.slice y.a.s.a y.a.s.n y.a.s.c) p.2.2.hits:=HZ F (((fE t z).trans m4).mono λi _ h=>.inl h);refine rG Y4 y ?_;have a4:=((zPJ (SrvX.reg P).2.2.1 (SrvX.reg P).2.2.2 q1).ok (SrvX.reg P).2.1.ok).1;refine rcall (zCH (x:=y) H4 (by have:=a4.2.2.2.1;omega)) ?_;rintro v5 u5 ⟨J,e5⟩
   have J:∃e,v5=Value.tuple #[txt (bytR p),e]:=by
    have A:=zK6 b8 b9 c0 c1;obtain⟨r1,r2⟩:=A;rcases J with ⟨h1,L⟩|⟨h1,L⟩
    ·refine⟨.int .i64 0,?_⟩;rw [L,r2,bytR,zIC (r1.1 h1)]
    ·refine⟨.int .i64 1,?_⟩;rw [L,bytR,zIB (λh=>h1 (r1.2 h))]
   obtain⟨ee,rfl⟩:=J;refine bS (bsOf (bytR p)) λb6 u6 n6 _ S6=>?_;have O4:Own w2.heap.size 9 F v (lo.map bsOf):=(Os.up (w':=z)).fr f4 λb _ C=>Q (o b C).1 (o b C).2 (Qe _);have z6:=lz F u6;refine rappD ⟨rfl,rfl⟩ (O4.up (w':=u6)) S6 (by simp) (by omega) (by rw [Qr];simp;omega) λv7 u7 O7 f7 a5=>?_;have z7:=f7.size;have P7:=P4.up (w':=u6);have nv:∀b,ownD w2.heap.size v b->b<u.heap.size/\¬r b:=λb C=>o b C.2.1
   have a6:∀b,ownD w2.heap.size v b->¬gR (gR r u t) z F b:=λb C h=>by
    have:=nv b C;rcases h with (h|h)|h
    ·exact this.2 h
    ·omega
    ·omega
   have P8:=SrvP.away P7 f7 a6
   have k1:Own w2.heap.size 9 u7 v7 ((stepsS g c ((usedS d.held).take (j+1)) d.held).2.map bsOf):=by
    have:(stepsS g c ((usedS d.held).take (j+1)) d.held).2.map bsOf=lo.map bsOf++[bsOf (bytR p)]:=by
     rw [l];show (lo++(stepS g c E k).2.toList).map bsOf=_;rw [(zEI E k).1,q1,QB];rfl
    rw [this];exact O7
   have k2:∀b,Value.blk v7=some b->b<u7.heap.size/\¬gR (gR r u t) z F b:=λb C=>by
    rcases a5 with h|h
    ·rw [h] at C;have:=o b C;refine⟨by omega,λL=>?_⟩;rcases L with (L|L)|L
     ·exact this.2 L
     ·omega
     ·omega
    ·rw [h] at C;cases C;have A:=O7.lt (by simp);obtain⟨gq,g1,_,g3⟩:=A;rw [h] at g1;cases g1;refine⟨g3,λh=>?_⟩;rcases h with (h|h)|h
     ·have:=(X _ h).2;omega
     ·omega
     ·omega
   have k3:SrvP (gR (gR r u t) z F) B u7 bs g c ⟨d.wait,(stepsS g c ((usedS d.held).take (j+1)) d.held).1⟩:=by
    rw [l];show SrvP _ _ _ _ _ _ ⟨d.wait,(stepS g c E k).1⟩;rw [q2];exact P8
   have k4:∀i,gR (gR r u t) z F i->gR R w w1 i\/w2.heap.size<=i:=λi hi=>by
    rcases hi with (h|h)|h
    ·exact M i h
    ·exact .inr (by omega)
    ·exact .inr (by omega)
   have k5:Fr (λi=>gR (gR r u t) z F i/\i<w2.heap.size) w2 u7:=by
    refine((Y.trans (fE t z)).join (H:=λi=>gR (gR r u t) z F i/\i<w2.heap.size) f4 (λi _ h=>⟨.inl h.1,h.2⟩) λi hi h=>⟨.inl h,hi⟩).join ((Fr.fr (D:=ownD w2.heap.size v) (lE F u6)).trans f7) (λ_ _ h=>h) λi hi h=>?_;have:=h.1;omega
   clear Y4 H4 O4 S6 P7 P8 nv a6 O7 f7 a5;exact rA ⟨rfl,I,_,k1,k2,k3,k4,k5⟩
  ·have P3:=SrvP.up (w':=z) P1
   have k1:Own w2.heap.size 9 z v ((stepsS g c ((usedS d.held).take (j+1)) d.held).2.map bsOf):=by
    have:(stepsS g c ((usedS d.held).take (j+1)) d.held).2.map bsOf=lo.map bsOf:=by
     rw [l];show (lo++(stepS g c E k).2.toList).map bsOf=_;rw [(zEI E k).1,q1];simp
    rw [this];exact Os.up
   have k2:∀b,Value.blk v=some b->b<z.heap.size/\¬gR r u t b:=λb C=>by
    have:=o b C;exact⟨by omega,Q this.1 this.2 (Qe _)⟩
   have k3:SrvP (gR r u t) B z bs g c ⟨d.wait,(stepsS g c ((usedS d.held).take (j+1)) d.held).1⟩:=by rw [l];exact P3
   have k5:Fr (λi=>gR r u t i/\i<w2.heap.size) w2 z:=Y.trans (fE t z);exact rA ⟨rfl,I,gR r u t,k1,k2,k3,Z (by omega),k5⟩
 ·obtain rfl:j=(usedS d.held).length:=by (try dsimp only at a8);omega
  rw [Qg] at O P;have h1:tickS g c s=(⟨d.wait,(stepsS g c (usedS d.held) d.held).1⟩,(stepsS g c (usedS d.held) d.held).2):=by rw [U];rfl
  rw [h1];refine⟨r,O.mono (by omega),o,P,λi hi=>?_,fR⟩;have:=(SrvX.reg P).1 i hi;have A:=M i hi;rcases A with (h|h)|h
  ·exact .inl h
  ·exact .inr (by omega)
  ·exact .inr (by omega)
end
section
variable {R:Nat->Prop} {B:Nat} {w0 w w':World} {bs:Nat} {g:GrD} {c:CfD} {s:SvD}
def comeV (o:Option (List UInt8)):Value:=.tuple #[txt (o.getD []),.bool o.isSome]
theorem zPW(s:SvD)(id:Int):(backS s id).2≠0:=by
 unfold backS;split
 ·exact(by decide:(253:Int)≠0)
 ·split
  ·exact(by decide:(253:Int)≠0)
  ·exact(by decide:(141:Int)≠0)
theorem zKy(f:Fn)(a b:Array Value):∀u∈[Value.func f a b],u.oneCell'=true:=by intro u d;simp at d;subst d;rfl
theorem zIH{f:List UInt8}(S:SrvP R B w bs g c s)(U:B<=w.heap.size)(hf:f.length<=4611686018427387904):
  Sp PP 16 #[.pointer (some ⟨bs,0,none⟩),txt f] w λv w'=>v=comeV (comeS g c s f).2/\SrvP (gR R w w') B w' bs g c (comeS g c s f).1/\Fr R w w':=by
 have H:=S.lo;have t:∃s' o,comeS g c s f=(s',o):=⟨_,_,rfl⟩;obtain⟨s',o,b⟩:=t
 have X:reqOf f=none->idOf f=none->s'=s/\o=none:=λl z=>by
  unfold comeS at b;rw [l] at b;dsimp only at b;rw [z] at b;cases b;exact⟨rfl,rfl⟩
 have Y:reqOf f=none->∀id,idOf f=some id->s'=s/\o=some (repB id 220 zAn):=λl id z=>by
  unfold comeS at b;rw [l] at b;dsimp only at b;rw [z] at b;cases b;exact⟨rfl,rfl⟩
 have Z:∀d,reqOf f=some d->d.kind=4->s'=(backS s d.id).1/\o=some (repB d.id (backS s d.id).2 zAn):=λd l z=>by
  unfold comeS at b;rw [l] at b;dsimp only at b;rw [if_pos z] at b;cases b;exact⟨rfl,rfl⟩
 have a0:∀d,reqOf f=some d->d.kind≠4->((askS g c s d (QyIs d.q g.n)).2=0/\s'=(askS g c s d (QyIs d.q g.n)).1/\o=none)\/((askS g c s d (QyIs d.q g.n)).2≠0/\s'=(askS g c s d (QyIs d.q g.n)).1/\o=some (repB d.id (askS g c s d (QyIs d.q g.n)).2 zAn)):=λd l z=>by
  unfold comeS at b;rw [l] at b;dsimp only at b;rw [if_neg z] at b;by_cases I:(askS g c s d (QyIs d.q g.n)).2=0
  ·rw [if_pos I] at b;cases b;exact .inl ⟨I,rfl,rfl⟩
  ·rw [if_neg I] at b;cases b;have hs:=(SrvX.reg S).2.2.2;have t:=ask_ok (x:=d) hs (zCh l).2.1;rcases t with ⟨A,_⟩|⟨_,A⟩
   ·exact absurd A I
   ·exact .inr ⟨I,A.symm,rfl⟩
 rw [b];dsimp only;refine eN ?_;refine rpnil (rcall (zB7 hf) ?_);rintro _ w1 ⟨⟨d,x,hr,rfl,O⟩|⟨J,rfl⟩,e1⟩
 case inr =>
  refine ral λbx w2 n2 K=>rE K zRq λC y L _=>?_;have s3:Stp w1 C:=n2.st L;clear K L;refine iT (by first|omega|decide|(dsimp only <;> omega)) (rcall (zLI hf) ?_);rintro _ w4 ⟨⟨id,E,rfl⟩|⟨E,rfl⟩,e4⟩
  ·have t:=Y J id E;obtain⟨rfl,rfl⟩:=t;refine rcall zB5 ?_;rintro _ r ⟨rfl,e5⟩;exact⟨rfl,SrvP.new (w':=r) S U⟩
  ·have t:=X J E;obtain⟨rfl,rfl⟩:=t;exact⟨rfl,SrvP.new (w':=w4) S U⟩
 case inl =>
  have hd:=zCh hr;refine ral λbx w2 n2 K=>?_;have a4:=n2.lo (u:=w);refine rE K x λC y L _=>?_;have y:Bk C bx (enc x) 55:=y;have s3:Stp w1 C:=n2.st L;clear K L;refine iF (· rfl) (rbuild (cs:=[.func (.func 63) #[.pointer (some ⟨bs,0,none⟩)] #[]]) rfl (ral λbd w4 n4 D4=>rS D4 [.func (.func 63) #[.pointer (some ⟨bs,0,none⟩)] #[]] (zKy _ _ _) λr V f5 _=>?_));have V:Bk r bd [.func (.func 63) #[.pointer (some ⟨bs,0,none⟩)] #[]] 121:=V;have s5:Stp C r:=n4.st f5;clear D4 f5;refine rX y rfl ?_;have hk:=O.2.1;refine ite (λA=>?_) (λA=>?_)
  ·refine rbuild (cs:=[.func (.func 64) #[.pointer (some ⟨bs,0,none⟩)] #[]]) rfl (rS V [.func (.func 64) #[.pointer (some ⟨bs,0,none⟩)] #[]] (zKy _ _ _) λG D6 f6 _=>?_);have D6:Bk G bd [.func (.func 64) #[.pointer (some ⟨bs,0,none⟩)] #[]] 121:=D6;have s6:Stp C G:=⟨Fr.st (lE C r) f6 λi hi=>by subst hi;exact n4.lo⟩;refine rX D6 rfl (rG y x (rcall (zIK (x:=x) (w0:=w) (w:=G) S U) ?_));rintro _ w7 ⟨rfl,W,F⟩;refine iT (zPW s x.id) ?_;have X7:=(y.mv (w:=G)).fr F λh=>by have:=H _ h;omega
   refine rX X7 rfl (rcall zB5 ?_);rintro _ M ⟨rfl,Q⟩;obtain⟨rfl,rfl⟩:=Z d hr (by rw [<-hk];exact A);have hz:=F.size;have a1:=lz w G;rw [<-O.1];refine⟨rfl,?_,((fE w G).trans F).trans (fE w7 M)⟩;have p:=(SrvX.reg S).1
   exact SrvX.wide (SrvP.up (w':=M) W) (λi hi=>hi.imp id λh=>by have:=Q.e.size;omega) λi hi=>by
    rcases hi with hi|hi
    ·have:=p i hi;have:=Q.e.size;omega
    ·omega
  ·refine rX V rfl (rG y x (rcall (zJO (w0:=w) (w:=r) S U (RqO.up (w':=r) O) hd) ?_));rintro _ w7 ⟨rfl,W,F⟩;have hz:=F.size;have a1:=lz w r;have T:=(Fr.fr (D:=R) (lE w r)).trans F;have p:=(SrvX.reg S).1;have t:=a0 d hr (by rw [<-hk];exact A);rcases t with ⟨l,rfl,rfl⟩|⟨l,rfl,rfl⟩
   ·refine iF (· l) ?_;exact⟨rfl,W,T⟩
   ·refine iT l ?_;have X7:=(y.mv (w:=r)).fr F λh=>by have:=H _ h;omega
    refine rX X7 rfl (rcall zB5 ?_);rintro _ M ⟨rfl,Q⟩;rw [<-O.1];refine⟨rfl,?_,T.trans (fE w7 M)⟩
    exact SrvX.wide (SrvP.up (w':=M) W) (λi hi=>hi.imp id λh=>by have:=Q.e.size;omega) λi hi=>by
     rcases hi with hi|hi
     ·have:=p i hi;have:=Q.e.size;omega
     ·omega
end
def cfgOk (x:RCfg):Prop:=(1<=x.workers/\x.workers<=16)/\(1<=x.slots/\x.slots<=64)/\(1<=x.queue/\x.queue<=1000)/\(1<=x.pool/\x.pool<=400)/\(1<=x.budget/\x.budget<=1000)
def cfOf (x:RCfg):CfD:=⟨x.workers.toNat,x.slots.toNat,x.queue.toNat,x.pool.toNat,x.budget.toNat⟩
theorem zDQ{x:RCfg}(h:cfgOk x):CfOk (cfOf x):=by
 unfold cfgOk at h;refine⟨?_,?_,?_,?_,?_⟩ <;> simp only [cfOf] <;> omega
section
variable {B B':Nat} {w w':World} {g:GrD}
theorem StoP.low{b d size:Nat}{L:List StD}(h:StoP R B w b d size L)(c:B'<=B):StoP R B' w b d size L:=by
 obtain⟨f,ta,tc,ts,l,o,fr,p,st,t,m,x,h,T,M,C,Z⟩:=h;have y:=h.tab;obtain⟨g0,z,H,r⟩:=y;have A:=h.lo;exact⟨f,ta,tc,ts,l,o,fr,p,st,t,m,x,⟨⟨by omega,by omega,by omega⟩,h.cell,⟨Qw c g0,z,⟨H.cell,H.row.mono c,H.len,H.tab,H.bnd,H.may,H.zero⟩,r⟩,h.free,h.sts.mono c,h.map,λs v e=>⟨(h.rows s v e).1.mono c,(h.rows s v e).2⟩,h.empt,h.apart,h.apart2⟩,T,M,C,Z⟩
theorem Stos.add{W c:Nat}{K:SrvK}{f:Nat->Nat->Prop}{b r:Nat}{L:List StD}{Ls:Nat->List StD}(T:Stos B w W K c f Ls)[Le w w'](S:StoP (λi=>w.heap.size<=i/\i<w'.heap.size) B w' b r c L)(v:Ls W=L):
  Stos B w' (W+1) { K with sb:=λk=>if k=W then b else K.sb k,sg:=λk=>if k=W then r else K.sg k } c (updR f W λi=>w.heap.size<=i/\i<w'.heap.size) Ls:=by
 have s:=T.up (w':=w');have z:=lz w w';have e:∀{j},j<W->updR f W (λi=>w.heap.size<=i/\i<w'.heap.size) j=f j:=λ{j} h=>if_neg (by omega);have l:updR f W (λi=>w.heap.size<=i/\i<w'.heap.size) W=λi=>w.heap.size<=i/\i<w'.heap.size:=if_pos rfl;refine⟨λk j t x o i hi=>?_,λk t=>?_,λk t i hi=>?_⟩
 ·by_cases d:k=W
  ·subst d;rw [l] at hi;rw [e (show j<k by omega)];intro p;have:=T.lt j (by omega) i p;omega
  ·rw [e (show k<W by omega)] at hi;by_cases p:j=W
   ·subst p;rw [l];intro y;have:=T.lt k (by omega) i hi;omega
   ·rw [e (show j<W by omega)];exact T.dis k j (by omega) (by omega) o i hi
 ·by_cases d:k=W
  ·subst d;rw [l,v];simp only [if_true];exact S
  ·rw [e (show k<W by omega)];simp only [if_neg d];exact s.sto k (by omega)
 ·by_cases d:k=W
  ·subst d;rw [l] at hi;exact hi.2
  ·rw [e (show k<W by omega)] at hi;exact s.lt k (by omega) i hi
theorem zQJ(g:GrD)(W n k:Nat):wkS g W (List.replicate n none) k=[]:=by
 unfold wkS allS;rw [JA];intro x b;have c:=VP.1 b;obtain⟨j,_,h⟩:=c;rw [Qk,Vk] at h;split at h <;> cases h
def zSrvK (bj jc:Nat) (xr:RRow) (r:List EdN) (ws:SV) (wl:List ByteArray) (ps:List RPo):SrvK:=⟨bj,jc,xr,r,ws,wl,ps,⟨none,0,0⟩,λ_=>0,λ_=>0⟩
theorem zJN{x:RCfg}{f:List UInt8}(hf:f.length<=4611686018427387904):
  Sp PP 10 #[agg x,txt f] w λv w'=>((¬cfgOk x/\v=.tuple #[.pointer none,.int .i64 1])\/(cfgOk x/\imgOf f=none/\v=.tuple #[.pointer none,.int .i64 30]) \/
   ∃g bs,cfgOk x/\imgOf f=some g/\v=.tuple #[.pointer (some ⟨bs,0,none⟩),.int .i64 0]/\SrvP (λi=>w.heap.size<=i/\i<w'.heap.size) w.heap.size w' bs g (cfOf x) (newS (cfOf x)))/\Stp w w':=by
 obtain⟨xw,xs,xq,xp,xb⟩:=x;refine eN ?_;refine rbx λbc w1 n1 I=>rX I rfl (rcall (zLi (n:=xs)) ?_);rintro _ w2 ⟨⟨v2,rfl,O2⟩,e2⟩;by_cases b5:xs<1\/64<xs
 ·have J:newH xs=([],1):=if_pos b5;rw [J] at O2 ⊢;refine iT (by first|omega|decide|(dsimp only <;> omega)) ?_;exact⟨.inl ⟨λh=>by have H:1<=xs/\xs<=64:=h.2.1;omega,rfl⟩,stp⟩
 have J:newH xs=(List.replicate xs.toNat zeroH,0):=if_neg b5;rw [J] at O2 ⊢;refine iF (· rfl) (rX I rfl (rcall zA9 ?_));rintro _ w3 ⟨⟨rfl,M⟩|⟨rfl,M⟩,rfl⟩
 case' inr=>exact⟨.inl ⟨λh=>M h.1,rfl⟩,stp⟩
 refine rX I rfl (rcall zA9 ?_);rintro _ w3 ⟨⟨rfl,S⟩|⟨rfl,S⟩,rfl⟩
 case' inr=>exact⟨.inl ⟨λh=>S h.2.2.1,rfl⟩,stp⟩
 refine rX I rfl (rcall zA9 ?_);rintro _ w3 ⟨⟨rfl,V⟩|⟨rfl,V⟩,rfl⟩
 case' inr=>exact⟨.inl ⟨λh=>V h.2.2.2.1,rfl⟩,stp⟩
 refine rX I rfl (rcall zA9 ?_);rintro _ w3 ⟨⟨rfl,X⟩|⟨rfl,X⟩,rfl⟩
 case' inr=>exact⟨.inl ⟨λh=>X h.2.2.2.2,rfl⟩,stp⟩
 have M:1<=xw/\xw<=16:=M;have S:1<=xq/\xq<=1000:=S;have V:1<=xp/\xp<=400:=V;have X:1<=xb/\xb<=1000:=X;have Y:cfgOk ⟨xw,xs,xq,xp,xb⟩:=⟨M,by dsimp only;omega,S,V,X⟩;have b6:=zDQ Y;have s:=QU (show (0:Int)<=xw by omega);obtain⟨W,rfl⟩:=s;have s:=QU (show (0:Int)<=xs by omega);obtain⟨N,rfl⟩:=s;have s:=QU (show (0:Int)<=xq by omega);obtain⟨Q,rfl⟩:=s;have s:=QU (show (0:Int)<=xp by omega);obtain⟨P,rfl⟩:=s;have s:=QU (show (0:Int)<=xb by omega);obtain⟨U,rfl⟩:=s;have I:Bk w1 bc [.int .i64 (W:Int),.int .i64 (N:Int),.int .i64 (Q:Int),.int .i64 (P:Int),.int .i64 (U:Int)] 23:=I;have b7:cfOf ⟨W,N,Q,P,U⟩=⟨W,N,Q,P,U⟩:=by simp [cfOf]
 rw [b7] at b6;rw [QW] at O2;have s:=O2.shape;obtain⟨a2,c2,rfl⟩:=s;have d2:(List.replicate N zeroH).length=N:=by simp
 refine rcall (zIo hf) ?_;rintro _ w4 ⟨⟨g,gx,vs,a1,rfl,V4⟩|⟨a1,rfl⟩,e4⟩
 case' inr =>
  refine ral λbg w5 n5 G5=>rS G5 (enc zGr) (Enc.one _) λw6 G6 f6 _=>?_;have s6:Stp w4 w6:=n5.st f6;clear G5 f6;refine iT (by first|omega|decide|(dsimp only <;> omega)) ?_;exact⟨.inr (.inl ⟨Y,a1,rfl⟩),stp⟩
 have a9:=zKp a1;refine ral λbg w5 n5 G5=>rS G5 (enc gx) (Enc.one _) λw6 G6 f6 _=>?_;have G6:Bk w6 bg (enc gx) 77:=G6;have s6:Stp w4 w6:=n5.st f6;clear G5 f6;refine iF (· rfl) (dQ 8 λw7 e7=>tG I (⟨W,N,Q,P,U⟩:RCfg) nf (tX I rfl nf (rmk zJob rfl rfl (by omega) λt w8 OJ s8 f5=>⟨s8.e,?_⟩)));refine tbuild (cs:=srvL ⟨W,N,Q,P,U⟩ (zSrvK t N ⟨⟨none,0,0⟩,⟨none,0,0⟩,⟨none,0,0⟩,⟨none,0,0⟩⟩ [] ⟨none,0,0⟩ [] []) ⟨none,0,0⟩ ⟨a2,(List.replicate N zeroH).length,c2⟩) (by rw [d2];rfl) (rbx λbs w9 n9 S9=>⟨n9.e,?_⟩);have b1:=n1.b;have l1:=n1.lt;have b9:=n9.b;have l9:=n9.lt;have z8:=lz w w8;have f7:=lz w w7
 have f1:t<bs:=by
  have H:=OJ.lt (by intro h;have:=congrArg List.length h;simp at this;omega);obtain⟨gq,H,_,h3⟩:=H;have h4:t=gq:=QL H;omega
 refine rG G6 gx (rcall (zLa (V4.up (w':=w9)) a9) ?_);rintro _ b8 ⟨⟨y,r,rfl,RO⟩,d3⟩;refine ral λbr f8 c0 c1=>rS c1 (enc y) (Enc.one _) λa4 b0 c4 _=>?_;have b0:Bk a4 br (enc y) 82:=b0;have f9:Stp b8 a4:=c0.st c4;have g0:=c0.lo (u:=w9);clear c1 c4;refine rG G6 gx (rcall (zHQ (V4.up (w':=a4)) a9) ?_);rintro _ o ⟨⟨pa,pc,ps,wl,rfl,PM,_,d4,OP,c5⟩,d5⟩;refine rG b0 y ?_;have g2:=d3.e.size;have g4:=lz b8 a4;have g5:=d5.e.size;refine rS S9 (enc y) (Enc.one _) λg6 c6 d6 _=>rS c6 [.slice pa ps.length pc] (sv1 _ _ _) λd a5 d7 _=>?_;have s:∃K:SrvK,K=zSrvK t N y r ⟨pa,ps.length,pc⟩ wl ps:=⟨_,rfl⟩;obtain⟨K,hK⟩:=s
 have a5:Bk d bs (srvL ⟨W,N,Q,P,U⟩ K ⟨none,0,0⟩ ⟨a2,(List.replicate N zeroH).length,c2⟩) 87:=by
  rw [hK];exact a5
 clear c6 S9;have A:Fr (λi=>i=bs) o d:=d6.trans d7;have g7:=A.size;have g8:Stp w8 d:=⟨Fr.st (lE w8 o) A λi hi=>by omega⟩;refine rX I rfl ?_
 refine cN 82 [4,5,14,15] 82 W (λj u=>∃(wa:Option Addr) (wc:Nat) (sb sg:Nat->Nat) (F:Nat->Nat->Prop),
   Own w.heap.size 92 u (.slice wa j wc) ((List.range j).map λk=>(⟨sb k⟩:RPtr)) /\
   Bk u bs (srvL ⟨W,N,Q,P,U⟩ { K with wk:=⟨wa,j,wc⟩ } ⟨none,0,0⟩ ⟨a2,(List.replicate N zeroH).length,c2⟩) 87 /\
   Stos w.heap.size u j { K with sb:=sb,sg:=sg } P F (λ_=>[])/\(∀k,k<j->∀i,F k i->d.heap.size<=i) /\
   (∀b,Value.blk (.slice wa j wc)=some b->d.heap.size<=b/\b<u.heap.size/\∀k,k<j->¬F k b)/\Fr (λi=>i=bs) d u)
  ⟨none,0,λ_=>0,λ_=>0,λ_ _=>False,Own.nil _ _ _,by rw [hK] at a5 ⊢;exact a5,⟨λk j p=>by omega,λk p=>by omega,λk p=>by omega⟩,(λk p=>by omega),(λb hb=>by cases hb),Fr.refl _ _⟩ ?_
 rintro j G u hj ⟨wa,wc,sb,sg,F,OW,Su,T,a6,Z,f⟩;have zu:=f.size;have su:Stp w8 u:=⟨Fr.st (lE w8 d) f λi hi=>by omega⟩;refine ite (λhlt=>?_) (λd8=>?_)
 ·have d9:j<W:=Int.ofNat_lt.1 hlt;refine rX I rfl (rcall (zLn (size:=(P:Int))) ?_);rintro _ u1 ⟨⟨g9,_⟩|⟨N',b,gs,h0,_,_,rfl,SN⟩,e1⟩
  ·omega
  have s:P=N':=by omega
  obtain rfl:=s;have z1:=e1.e.size;refine iF (· rfl) (rX Su rfl (bS (⟨b⟩:RPtr) λb2 u2 n2 _ S2=>?_));have z2:=n2.e.size;refine rappD ⟨rfl,rfl⟩ (OW.up (w':=u2)) S2 (by simp) (by omega) (by simp;omega) λv3 u3 O3 f3 a7=>?_;have a7:Value.blk v3=Value.blk (.slice wa j wc)\/Value.blk v3=some u2.heap.size:=a7;have f3:Fr (ownD w.heap.size (.slice wa j wc)) u2 u3:=f3;have z3:=f3.size;have hv:∀b,ownD w.heap.size (.slice wa j wc) b->d.heap.size<=b/\b<u.heap.size/\∀k,k<j->¬F k b:=λb hb=>Z b hb.2.1;have f2:bs<d.heap.size:=by omega
  have c7:=(Su.mv (w:=u2)).fr f3 λh=>by have:=hv _ h;omega
  have e0:((List.range j).map (λk=>(⟨sb k⟩:RPtr))++[(⟨b⟩:RPtr)]).length=j+1:=by simp
  have e3:∃a c,v3=.slice a (j+1) c:=by
   have h:=O3.shape;rw [e0] at h;exact h
  obtain⟨a3,c3,c8⟩:=e3;subst c8;refine rS c7 [.slice a3 (j+1) c3] (sv1 _ _ _) λu4 S4 f4 _=>?_;have S4:Bk u4 bs (srvL ⟨W,N,Q,P,U⟩ { K with wk:=⟨a3,j+1,c3⟩ } ⟨none,0,0⟩ ⟨a2,(List.replicate N zeroH).length,c2⟩) 87:=S4;have z4:=f4.size
  have b3:∀z,Value.blk (.slice a3 (j+1) c3)=some z->d.heap.size<=z/\z<u3.heap.size/\(∀k,k<j->¬F k z)/\¬(u.heap.size<=z/\z<u1.heap.size):=λz E=>by
   have s:=O3.lt (by simp);obtain⟨gq,g1,_,g3⟩:=s;rw [E] at g1;cases g1;rcases a7 with h|h
   ·rw [E] at h;have:=Z z h.symm;exact⟨this.1,g3,this.2.2,by omega⟩
   ·rw [E] at h;cases h;exact⟨by omega,g3,λk p h2=>by have:=T.lt k p _ h2;omega,by omega⟩
  have k1:Own w.heap.size 92 u4 (.slice a3 (j+1) c3) ((List.range (j+1)).map λk=>(⟨(λk=>if k=j then b else sb k) k⟩:RPtr)):=by
   have e:((List.range (j+1)).map λk=>(⟨(λk=>if k=j then b else sb k) k⟩:RPtr))=(List.range j).map (λk=>(⟨sb k⟩:RPtr))++[(⟨b⟩:RPtr)]:=by
    rw [Jm,QB];congr 1
    ·apply Ja;intro k p;have:=Q0.1 p;dsimp only;rw [if_neg (by omega)]
    ·simp
   rw [e];exact O3.fr f4 λz _ E h=>by have:=b3 z E;omega
  have T1:=(Stos.add (L:=[]) (Ls:=λ_=>[]) T (SN.low (by omega)) rfl)
  have T4:Stos w.heap.size u4 (j+1) { K with sb:=λk=>if k=j then b else sb k,sg:=λk=>if k=j then gs else sg k } P (updR F j λi=>u.heap.size<=i/\i<u1.heap.size) (λ_=>[]):=by
   refine((T1.up (w':=u2)).away f3 λk p i hi h=>?_).away f4 λk p i hi h=>?_
   ·have h5:=hv i h;unfold updR at hi;split at hi
    ·omega
    ·exact h5.2.2 k (by omega) hi
   ·unfold updR at hi;split at hi
    ·omega
    ·have:=a6 k (by omega) i hi;omega
  have k4:∀k,k<j+1->∀i,updR F j (λi=>u.heap.size<=i/\i<u1.heap.size) k i->d.heap.size<=i:=λk p i hi=>by
   unfold updR at hi;split at hi
   ·omega
   ·exact a6 k (by omega) i hi
  have k5:∀z,Value.blk (.slice a3 (j+1) c3)=some z->d.heap.size<=z/\z<u4.heap.size/\∀k,k<j+1->¬updR F j (λi=>u.heap.size<=i/\i<u1.heap.size) k z:=λz E=>by
   have h5:=b3 z E;refine⟨h5.1,by omega,λk p hi=>?_⟩;unfold updR at hi;split at hi
   ·exact h5.2.2.2 hi
   ·exact h5.2.2.1 k (by omega) hi
  have k6:Fr (λi=>i=bs) d u4:=(f.join ((Fr.fr (D:=ownD w.heap.size (.slice wa j wc)) (lE u u2)).trans f3) (λ_ _ h=>h) λi hi h=>by have:=hv i h;omega).trans f4;clear O3 f3 a7 hv b3 T1 c7 OW;exact rA ⟨rfl,d9,a3,c3,_,_,_,k1,S4,T4,k4,k5,k6⟩
 ·have e5:j=W:=by have h5:=Int.ofNat_le.1 (Int.not_lt.1 d8);exact Nat.le_antisymm hj h5
  subst e5
  have hR:∀{C:Nat},w.heap.size<=C->∀{a8:Nat},a8<=d.heap.size->(∀i,C<=i->i<a8->¬i=bs/\¬i=t)->∀i,C<=i->i<a8->(w.heap.size<=i/\i<u.heap.size)/\¬mutS bs t j F i:=λ{C} hC {a8} hl hn i H h2=>by
   refine⟨by omega,λh=>?_⟩;rcases h with h|h|⟨k,p,h⟩
   ·exact(hn i H h2).1 h
   ·exact(hn i H h2).2 h
   ·have:=a6 k p i h;omega
  have h1:K.bj=t:=by rw [hK];rfl
  have a0:Fr (λi=>i=bs) o u:=A.trans f
  have rowF:∀{α:Type} [Enc α] {e:TypeId} {C:Nat} {v:Value} {l:List α} {u0:World},Own C e u0 v l->Le w9 u0->u0.heap.size<=o.heap.size->w9.heap.size<=C->Own C e o v l->Fz (mutS bs t j F) (λi=>w.heap.size<=i/\i<u.heap.size) u λu=>SlF u v l:=λ{α _ e C v l u0} O L0 hz hC b4 =>
   O.fzB (b4.fr a0 λb hb _ h=>by omega).sl (hR (by omega) (by omega) λi H h2=>by omega)
  have c9:=rowF RO.off inferInstance (by omega) (Qe _) (RO.off.up (w':=o));have e6:=rowF RO.to inferInstance (by omega) (Qe _) (RO.to.up (w':=o));have d0:=rowF RO.rof inferInstance (by omega) (Qe _) (RO.rof.up (w':=o));have d1:=rowF RO.rev inferInstance (by omega) (Qe _) (RO.rev.up (w':=o));have e8:=rowF OP inferInstance (Qe _) (by omega) OP;have e9:∀i (h:i<ps.length) (h':i<wl.length),Fz (mutS bs t j F) (λi=>w.heap.size<=i/\i<u.heap.size) u λu=>SlF u ps[i].pl.v (plOf g wl[i]):=λi h h'=>rowF (c5 i h h') inferInstance (Qe _) (by omega) (c5 i h h')
  have f0:Fz (mutS bs t j F) (λi=>w.heap.size<=i/\i<u.heap.size) u λu=>SlF u (.slice a2 (List.replicate N zeroH).length c2) (List.replicate N zeroH):=by
   have z2:=lz w3 w7
   have b4:=((O2.up (w':=o)).fr a0 λb _ hb h=>by
    obtain⟨gq,g1,_,g3⟩:=O2.lt (by intro h;have:=congrArg List.length h;simp at this;omega);rw [hb] at g1;cases g1;omega)
   exact O2.fzB b4.sl (hR (by have:=lz w w1;omega) (by omega) λi H h2=>by omega)
  have Ju:Own w.heap.size 188 u (.slice (some ⟨t,0,none⟩) N N) (List.replicate N zJob):=((OJ.up (w':=o)).fr a0 λb _ hb h=>by
   have:t=b:=QL hb;omega).mono (by omega)
  refine⟨.inr (.inr ⟨g,bs,Y,a1,rfl,?_⟩),stp⟩;rw [b7];refine⟨{ K with wk:=⟨wa,j,wc⟩,sb:=sb,sg:=sg },⟨none,0,0⟩,⟨a2,(List.replicate N zeroH).length,c2⟩,[],List.replicate N zeroH,List.replicate N zJob,F,?_⟩;subst hK;refine⟨λi hi=>hi,by omega,?_,?_,λk p i hi=>?_,Su,Ju,⟨T.dis,λk p=>by rw [show (newS ⟨j,N,Q,P,U⟩).held=List.replicate N none from rfl,zQJ];exact T.sto k p,T.lt⟩,λu' f'=>?_,a9,b6,d4,new_ok g _⟩
  ·show w.heap.size<=t/\t<u.heap.size;omega
  ·show bs≠t;omega
  ·have H:=a6 k p i hi;have h2:=T.lt k p i hi;exact⟨by omega,by omega,by show i≠t;omega⟩
  ·refine⟨⟨RO.rev',c9 u' f',e6 u' f',d0 u' f',d1 u' f'⟩,⟨PM.ris,PM.all,PM.len,λi h h'=>⟨(PM.at' i h h').1,e9 i h h' u' f'⟩⟩,e8 u' f',OW.sl.fr f' λb hb hd=>?_,SlF.nil _,f0 u' f',rfl,λi h=>absurd h (Nat.not_lt_zero _),by simp [newS],by simp [newS],λk h h'=>?_⟩
   ·have H:=Z b hb;rcases hd with hd|hd
    ·rcases hd with hd|hd|⟨k,p,hd⟩
     ·omega
     ·have hd:b=t:=hd;omega
     ·exact H.2.2 k p hd
    ·exact hd ⟨by omega,H.2.1⟩
   ·have e:(newS ⟨j,N,Q,P,U⟩).held.getD k none=none:=by
     show (List.replicate N none).getD k none=none;rw [Qk,Vk];split <;> rfl
    rw [e];show ((List.replicate N zeroH)[k]).used=false;simp [zeroH]
end
section
variable {g:GrD} {c:CfD}
end
theorem rdB(h:n<128)(t:List UInt8):rdN (UInt8.ofNat n::t)=some (n,t):=by
 have:=zA6 (n:=n) (by omega) t
 rwa [numB_lt h] at this
def im0:List UInt8:=[119,103,2,1,1,0,0,0]
def g0:GrD:=⟨2,[⟨0,1⟩],[[],[]]⟩
def c0:CfD:=⟨1,1,1,9,9⟩
theorem g0_is:GrIs g0:=by
 refine⟨⟨by decide,by decide,by decide⟩,by decide,rfl,?_,by simp [g0],?_⟩
 ·intro l b;have:l=[]:=by simpa [g0] using b
  subst this;simp
 ·intro l b;have:l=[]:=by simpa [g0] using b
  subst this;exact .nil
theorem im0_rd:rdI im0=some (2,[([1],[]),([],[])],[]):=by
 have b:rdN [2,1,1,0,0,0]=some (2,[1,1,0,0,0]):=rdB (n:=2) (by decide) _;have c:rdN [1,1,0,0,0]=some (1,[1,0,0,0]):=rdB (n:=1) (by decide) _;have d:rdN [1,0,0,0]=some (1,[0,0,0]):=rdB (n:=1) (by decide) _;have e:rdN [0,0,0]=some (0,[0,0]):=rdB (n:=0) (by decide) _;have f:rdN [0,0]=some (0,[0]):=rdB (n:=0) (by decide) _;have h:rdN [0]=some (0,[]):=rdB (n:=0) (by decide) _
 show (match rdN [2,1,1,0,0,0] with
  |some (n,t)=>if n<=200 then (match rdMany rdPl n t with|some (ps,u)=>some (n,ps,u)|none=>none) else none
  |none=>none)=_
 rw [b];simp [rdMany,rdPl,rdRow,rdWs,c,d,e,f,h]
theorem im0_g:imgOf im0=some g0:=by
 unfold imgOf;rw [im0_rd];exact if_pos ⟨rfl,g0_is⟩
def q7:QyD:=⟨1,0,1,[],0,0⟩
def x7:RqD:=⟨7,1,q7⟩
def x8:RqD:=⟨8,1,q7⟩
theorem q7_is(n:Int)(h:2<=n):QyIs q7 n:=⟨.inl rfl,⟨by decide,by show (0:Int)<n;omega⟩,λ_=>⟨by decide,by show (1:Int)<n;omega⟩,λh=>by simp [q7] at h⟩
theorem rq_is{id:Int}(h:0<=id/\id<=2147483647):RqIs ⟨id,1,q7⟩:=⟨.inr ⟨rfl,q7_is 200 (by decide)⟩,h,by
 show (if (1:Int)=4 then q7=zQy else if (1:Int)=3 then q7.to=0 else q7.words=[]/\q7.rad=0/\q7.most=0);rw [if_neg (by decide),if_neg (by decide)];exact⟨rfl,rfl,rfl⟩⟩
theorem rd7(h:n<128):rdR [UInt8.ofNat n,1,0,1]=some (⟨n,1,q7⟩,[]):=by
 have b:rdN [UInt8.ofNat n,1,0,1]=some (n,[1,0,1]):=rdB h _;have c:rdN [1,0,1]=some (1,[0,1]):=rdB (n:=1) (by decide) _;have d:rdN [0,1]=some (0,[1]):=rdB (n:=0) (by decide) _;have e:rdN [1]=some (1,[]):=rdB (n:=1) (by decide) _;unfold rdR;rw [b];dsimp only;rw [c];dsimp only;rw [if_pos (by decide),if_neg (by decide)];unfold rdQ;rw [d];dsimp only;rw [if_pos (by decide),e];rfl
theorem req7:reqOf [7,1,0,1]=some x7:=by
 have e:rdR [7,1,0,1]=some (x7,[]):=rd7 (n:=7) (by decide);unfold reqOf;rw [e];exact if_pos (rq_is (by decide))
theorem req8:reqOf [8,1,0,1]=some x8:=by
 have e:rdR [8,1,0,1]=some (x8,[]):=rd7 (n:=8) (by decide);unfold reqOf;rw [e];exact if_pos (rq_is (by decide))
theorem come7:comeS g0 c0 (newS c0) [7,1,0,1]=(⟨[x7],[none]⟩,none):=by
 have e:askS g0 c0 (newS c0) x7 (QyIs x7.q g0.n)=(⟨[x7],[none]⟩,0):=by
  unfold askS;rw [if_pos (show QyIs x7.q (g0.n:Int) from q7_is 2 (by decide))];rfl
 unfold comeS;rw [req7];dsimp only;rw [if_neg (by decide),e];rfl
theorem enc252:repB 8 252 zAn=[8,252,1]:=by
 have h:RepOk (repOf 8 252 zAn) zAn.hits:=zGW (by decide) (by decide);unfold repB;rw [if_pos h];have b:numB 8=[8]:=numB_lt (by decide);have c:numB 252=[252,1]:=by rw [zBz (by decide),numB_lt (by decide)];rfl
 simp [encR,repOf,numsB,b,c]
theorem come8:comeS g0 c0 ⟨[x7],[none]⟩ [8,1,0,1]=(⟨[x7],[none]⟩,some [8,252,1]):=by
 have e:askS g0 c0 ⟨[x7],[none]⟩ x8 (QyIs x8.q g0.n)=(⟨[x7],[none]⟩,252):=by
  unfold askS;rw [if_pos (show QyIs x8.q (g0.n:Int) from q7_is 2 (by decide))];rfl
 unfold comeS;rw [req8];dsimp only;rw [if_neg (by decide),e];dsimp only;rw [if_neg (by decide),<-enc252];rfl
section
variable {g:GrD} {c:CfD}
theorem zJy{s:SvD}{l:List RqD}{h b:Hs}{o:Option (List UInt8)}(d:admitS s.wait s.held=(l,h))(e:usedS h=[0])(f:(stepS g c h 0).1=b)(p:(stepS g c h 0).2=o):tickS g c s=(⟨l,b⟩,o.toList):=by
 unfold tickS;rw [d];dsimp only;rw [e];show ((⟨l,(stepS g c h 0).1⟩:SvD),(stepS g c h 0).2.toList++[])=_;rw [f,p,QE]
end
def h0 (j:Nat):Hs:=[some (x7,j)]
theorem tick7a:tickS g0 c0 ⟨[x7],[none]⟩=(⟨[],h0 1⟩,[]):=by
 have e:(h0 0).getD 0 none=some (x7,0):=rfl;have d:=zD6 (g:=g0) (c:=c0) e (by decide) (by decide) (by decide);obtain⟨f,l⟩:=d;have b:=(zEI (g:=g0) (c:=c0) (h0 0) 0).1;rw [f] at b;exact zJy (h:=h0 0) (o:=none) rfl rfl l b
theorem done7:doneL g0 q7 (sts g0 q7 0 2) (mls g0 q7 0 2)=(⟨true,1,[]⟩,true):=by decide
theorem enc7:bytR (7,0,⟨true,1,[]⟩)=[7,0,1,1,0]:=by
 have h:RepOk (repOf 7 0 ⟨true,1,[]⟩) []:=⟨by decide,by decide,by decide,by decide,by simp [repOf],by simp [repOf],by simp,by simp⟩;unfold bytR repB;rw [if_pos h];have b:numB 7=[7]:=numB_lt (by decide);have c:numB 0=[0]:=numB_lt (by decide);have d:numB 1=[1]:=numB_lt (by decide);simp [encR,repOf,numsB,hitsB,b,c,d]
theorem tick7b:tickS g0 c0 ⟨[],h0 1⟩=(⟨[],[none]⟩,[[7,0,1,1,0]]):=by
 have e:(h0 1).getD 0 none=some (x7,1):=rfl;have hd:doneL g0 x7.q (sts g0 x7.q (0:Nat) (1+1)) (mls g0 x7.q (0:Nat) (1+1))=(⟨true,1,[]⟩,true):=done7;have d:=zCz (g:=g0) (c:=c0) e (by decide) (by rw [hd]);obtain⟨f,l⟩:=d;have b:=(zEI (g:=g0) (c:=c0) (h0 1) 0).1;rw [f,hd] at b;have o:(stepS g0 c0 (h0 1) 0).2=some [7,0,1,1,0]:=by rw [b,<-enc7];rfl
 exact zJy (h:=h0 1) rfl rfl l o
theorem tick7c:tickS g0 c0 ⟨[],[none]⟩=(⟨[],[none]⟩,[]):=rfl
theorem live7:((List.range 1).map λk=>(liveW g0 1 [none] k:Int))=[0]:=by decide

structure REv where
 tick:Bool
 frame:List UInt8
 picks:SV
instance:Enc REv:=⟨3,λx=>[.bool x.tick,txt x.frame,.slice x.picks.a x.picks.n x.picks.c],λ_=>rfl,by intro x u hu;simp at hu;rcases hu with rfl|rfl|rfl <;> rfl,by decide⟩
def EvsM (w:World) (l:List REv):Prop:=∀y∈l,∃ps:List Int,SlF w y.picks.v ps
theorem EvsM.up{w:World}[Le w w']{l:List REv}(h:EvsM w l):EvsM w' l:=λy b=>let ⟨ps,c⟩:=h y b;⟨ps,c.up⟩
def EvsS (l:List REv):Prop:=l.length<=80/\∀y∈l,y.frame.length<=300/\y.picks.n<=60
theorem zNI{c:Nat}{l:List REv}{w:World}(h:SlF w (.slice a n c) l):Sp PP 39 #[.slice a n c] w λv w'=>(v=.bool true\/(v=.bool false/\EvsS l))/\Stp w w':=by
 have p:=h.len;obtain rfl:=p;refine eN ?_;refine cN 4 [2] 3 l.length (λk u=>(k=0\/l.length<=80)/\(∀y∈l.take k,y.frame.length<=300/\y.picks.n<=60)/\Stp w u) ⟨.inl rfl,by simp,stp⟩ ?_;rintro k g u E ⟨r,e,f⟩
 have fin:(l.length<=80->k=l.length)->IteC ((80:Int)<l.length) ((Value.bool true=Value.bool true\/(Value.bool true=Value.bool false/\EvsS l))/\Stp w u) ((Value.bool false=Value.bool true\/(Value.bool false=Value.bool false/\EvsS l))/\Stp w u):=by
  intro s;refine ite (λh=>⟨.inl rfl,f⟩) (λh=>⟨.inr ⟨rfl,by omega,?_⟩,f⟩);have:=s (by omega);subst this;simpa using e
 refine ite (λhlt=>?_) (λt=>?_)
 ·refine ite (λx=>?_) (λx=>?_)
  ·have d:k<l.length:=by omega
   have hi:l[k]? = some l[k]:=by simp
   refine rix (i:=k) (h.up (w':=u)) hi λF G z=>rload1 (z.cell 1 rfl) (ite (λo=>?_) (λo=>?_))
   ·exact⟨.inl rfl,stp⟩
   ·refine rix (i:=k) (h.up (w':=u)) hi λH I A=>rload1 (A.cell 2 rfl) (ite (λC=>?_) (λC=>?_))
    ·exact⟨.inl rfl,stp⟩
    ·refine rA ⟨rfl,d,.inr (by omega),λy b=>?_,stp⟩;rw [List.take_add_one,hi] at b;simp only [Yb,Qf,Qc] at b;rcases b with b|rfl
     ·exact e y b
     ·rw [zAd] at o;constructor <;> omega
  ·exact fin (by omega)
 ·exact fin (by omega)
set_option maxRecDepth 100000
set_option warn.classDefReducibility false
variable {B N i j k m n n3:Nat} {D R:Nat -> Prop} {P:Program} {a a2 a3:Option Addr} {g:GrD} {ps:List Int} {q:QyD} {u u' w' w1 w2:World}
noncomputable instance:Rd PP 9 ByteArray:=rdStr (by kernel_rfl) (by kernel_rfl)
noncomputable instance:Rd PP 4 Bool:=rdBool (by kernel_rfl) (by kernel_rfl)
noncomputable instance:Rd PP 34 SV:=rdSl (α:=Int) (e:=3) (by kernel_rfl) (by kernel_rfl)
noncomputable instance:Rd PP 23 RCfg where
 G _ _:=True
 cells:=by kernel_rfl
 rd:=by
  intro H eH w sp fuel cs x hx
  have q_:=zJo (P:=PP) (t:=23) (fl:=[(3,0,1),(3,1,1),(3,2,1),(3,3,1),(3,4,1)]) (n:=5) (by kernel_rfl) hx
  obtain⟨hl,hf⟩:=q_
  have q_:=zBv (P:=PP) (α:=Int) hf 0 rfl
  obtain⟨a0,h0,_⟩:=q_
  have q_:=zBv (P:=PP) (α:=Int) hf 1 rfl
  obtain⟨a1,h1,_⟩:=q_
  have q_:=zBv (P:=PP) (α:=Int) hf 2 rfl
  obtain⟨a2,h2,_⟩:=q_
  have q_:=zBv (P:=PP) (α:=Int) hf 3 rfl
  obtain⟨a3,h3,_⟩:=q_
  have q_:=zBv (P:=PP) (α:=Int) hf 4 rfl
  obtain⟨a4,h4,_⟩:=q_
  refine⟨⟨a0,a1,a2,a3,a4⟩,?_,trivial⟩
  have:=tile h0 (tile h1 (tile h2 (tile h3 (tile h4 (tile0 hl) rfl) rfl) rfl) rfl) rfl
  rw [List.drop_zero] at this
  rw [this];simp [enc]
noncomputable instance:Rd PP 36 REv where
 G w y:=∃l:List Int,SlF w y.picks.v l
 cells:=by kernel_rfl
 rd:=by
  intro H eH w sp fuel cs x hx
  have q_:=zJo (P:=PP) (t:=36) (fl:=[(4,0,1),(9,1,1),(34,2,1)]) (n:=3) (by kernel_rfl) hx
  obtain⟨hl,hf⟩:=q_
  have q_:=zBv (P:=PP) (α:=Bool) hf 0 rfl
  obtain⟨a0,h0,_⟩:=q_
  have q_:=zBv (P:=PP) (α:=ByteArray) hf 1 rfl
  obtain⟨a1,h1,_⟩:=q_
  have q_:=zBv (P:=PP) (α:=SV) hf 2 rfl
  obtain⟨a2,h2,g2⟩:=q_
  obtain⟨l,hl2,_⟩:=g2
  refine⟨⟨a0,a1.data.toList,a2⟩,?_,l,hl2⟩
  have:=tile h0 (tile h1 (tile h2 (tile0 hl) rfl) rfl) rfl
  rw [List.drop_zero] at this
  rw [this];simp [enc]
theorem w_tail{H:Type}{t:TypeId}{ts:List TypeId}{d:DataW H}{r:List (DataW H)}{p:Nat->Bool}(h:(DataW.weightsEach P (t::ts) (d::r)).all p=true):(d.weights P t).all p=true/\(DataW.weightsEach P ts r).all p=true:=by
 simpa only [DataW.weightsEach,List.all_append,Qz] using h
theorem zPT{W:World}{b:Nat}{v:Value}{H:Type}{e:TypeId×Value->H}{d:DataW H}{ps:List MemPlace}(h:Value.okWide PP W .any b 23 v)(f:DataW.Trod e PP W 0 (λ_=>true) true 23 v d ps):
  ∃x:RCfg,v=agg x:=by
 obtain⟨c,l⟩:=f;have o:=Rd.rd (P:=PP) (t:=23) (α:=RCfg) l;obtain⟨r,p,_⟩:=o;exact⟨r,zPS h (by kernel_rfl) p⟩
theorem zPU{W:World}{b:Nat}{v:Value}{H:Type}{p:TypeId×Value->H}{d:DataW H}{ps:List MemPlace}(h:Value.okWide PP W .any b 9 v)(r:DataW.Trod p PP W 0 (λ_=>true) true 9 v d ps)
  (c:(d.weights PP 9).all (·<=reachBytes)=true):∃f:List UInt8,v=txt f/\f.length<=4611686018427387904:=by
 obtain⟨o,w⟩:=r;have x:=DataW.trod_string (P:=PP) (t:=9) (by kernel_rfl) w;obtain⟨s,y,e,_⟩:=x;refine⟨s.data.toList,zId h (by kernel_rfl) y,?_⟩;have hd:d=.lit (.string s.data.toList):=congrArg Prod.fst e;rw [hd] at c;simp only [DataW.weights,Ye,List.all_nil,Bool.and_true] at c;have z:=of_decide_eq_true c;have l:reachBytes=140737488351232:=rfl;rw [l] at z;omega
set_option warn.classDefReducibility false
theorem zQi{α:Type}[Enc α]{e:TypeId}{w:World}(A:P.cellsOf e=Enc.sz α){G:α->Prop}{a:Addr}{len cap:Nat}(C:len<=cap)
  (h:∀i,i<len->∃y:α,(∃c,w.cells? 0 (a.add (i*P.cellsOf e)) (P.cellsOf e)=some c/\c=enc y)/\G y):
  ∃l:List α,SlF w (.slice (some a) len cap) l/\∀y∈l,G y:=by
 have b:=zMK h;obtain⟨l,f,o⟩:=b;refine⟨l,⟨_,_,by rw [f],by rw [f];exact C,?_⟩,?_⟩
 ·by_cases h0:l=[]
  ·exact .inl h0
  ·right;have x:=Enc.pos (α:=α);have p:0<l.length:=by cases l;exact absurd rfl h0;simp
   have d:a.spot=none:=by
    have b:=o 0 l[0] (by simp [p]);obtain⟨⟨c,r,M⟩,_⟩:=b;have b:=World.cells?_some r;obtain⟨_,E,s⟩:=b;have:=s 0 (by omega);rw [Qd (by omega)] at this;have F:(a.add (0*P.cellsOf e)).add 0=a:=by simp [Addr.add]
    rw [F] at this;unfold World.cell? at this;split at this
    ·split at this
     ·cases this
     ·rename_i H;simpa using H
    ·cases this
   obtain⟨I,J,K⟩:=a;simp only at d;subst d;refine⟨I,J,rfl,At.flat λi y t=>?_⟩;have b:=o i y t;obtain⟨⟨c,r,rfl⟩,_⟩:=b;have b:=World.cells?_some r;obtain⟨_,E,s⟩:=b;intro j v z;have L:j<(enc y).length:=(Qy.1 z).1;have:=s j (by omega);rw [zAs,zAs,A] at this;rw [this];exact z
 ·intro y t;have b:=QI.1 t;obtain⟨i,hi,rfl⟩:=b;exact(o i _ (by simp [hi])).2
theorem zD9{H:Type}{e:TypeId}{p:Nat->Bool}:∀{ds:List (DataW H)} {d:DataW H},d∈ds->(DataW.weightsAll P e ds).all p=true->(d.weights P e).all p=true
 |[],_,hd,_=>by simp at hd
 |d'::r,d,hd,h=>by
  simp only [DataW.weightsAll,List.all_append,Qz] at h;have b:=Ql.1 hd;rcases b with rfl|hd
  ·exact h.1
  ·exact zD9 hd h.2
def strF (P:Program) (t:TypeId) (ts:List TypeId) (os:List Nat):Bool:=match P.underlying t with
 |some (.struct fs)=>decide (fs.toList.map (·.type)=ts) && decide (fs.toList.map (·.offset)=os)
 |_=>false
theorem zOA{t:TypeId}{ts:List TypeId}{os:List Nat}(h:strF P t ts os=true):∃fs,P.underlying t=some (.struct fs)/\fs.toList.map (·.type)=ts/\fs.toList.map (·.offset)=os:=by
 unfold strF at h;split at h
 ·rename_i fs b;rw [Qz] at h;exact⟨fs,b,of_decide_eq_true h.1,of_decide_eq_true h.2⟩
 ·cases h
theorem zOK{W:World}{b:Nat}{v:Value}{H:Type}{X:TypeId×Value->H}{d:DataW H}{ps:List MemPlace}(h:Value.okWide PP W .any b 24 v)(ht:DataW.Trod X PP W 0 (λ_=>true) true 24 v d ps)
  (E:(d.weights PP 24).all (·<=reachBytes)=true):
  ∃a n c,∃l:List REv,v=.slice a n c/\SlF W (.slice a n c) l/\EvsM W l/\∀y∈l,y.frame.length<=4611686018427387904:=by
 obtain⟨Y,hx⟩:=ht;have Z:PP.underlying 24=some (.slice 36):=by kernel_rfl
 have hc:PP.cellsOf 36=Enc.sz REv:=by kernel_rfl
 have us:PP.underlying 9=some .string:=by kernel_rfl
 have F:PP.cellsOf 9=1:=by kernel_rfl
 have e:=zOA (P:=PP) (t:=36) (ts:=[4,9,34]) (os:=[0,1,2]) (by kernel_rfl);obtain⟨fs,z,p,G⟩:=e;have e:=DataW.trod_slice Z hx;rcases e with ⟨r,_⟩|⟨a,len,cap,f,rest,n,_,r,I,_,hl,hm,a0,J,_⟩
 ·exact⟨none,0,0,[],zId h (by kernel_rfl) r,SlF.nil W,λy o=>by simp at o,by simp⟩
 ·have hd:d=.slice (f.map (·.1)) (rest.map (·.1)):=congrArg Prod.fst I;rw [hd] at E;simp only [DataW.weights,Z,Ye,List.all_append,Qz] at E;have K:=E.2.1
  have L:∀i,i<len->∃y:REv,(∃c,W.cells? 0 (a.add (i*PP.cellsOf 36)) (PP.cellsOf 36)=some c/\c=enc y)/\((∃ps:List Int,SlF W y.picks.v ps)/\y.frame.length<=4611686018427387904):=by
   intro i hi;have hE:=J i hi;rw [Qd (by omega),Option.bind_eq_some_iff] at hE;obtain⟨c,h1,h2⟩:=hE;have e:=Rd.rd (P:=PP) (t:=36) (α:=REv) h2;obtain⟨y,o,hg⟩:=e;refine⟨y,⟨c,h1,o⟩,hg,?_⟩;have w:=zD9 (Qq.2 ⟨f[i],Qa (by omega),rfl⟩) K;have e:=DataW.trod_struct z h2;obtain⟨xs,m,_,M,_,a1,hf⟩:=e
   have a4:fs.size=3:=by
    have:=congrArg List.length p;simpa using this
   have x:1<fs.toList.length:=by simp;omega
   have O:(fs.toList[1]).type=9:=by
    have:(fs.toList.map (·.type))[1]? = some 9:=by rw [p];rfl
    rw [QK,Qd x] at this;exact QL this
   have Q:(fs.toList[1]).offset=1:=by
    have:(fs.toList.map (·.offset))[1]? = some 1:=by rw [G];rfl
    rw [QK,Qd x] at this;exact QL this
   have h3:=hf 1 (fs.toList[1]) (by rw [<-Jj];exact Qd x);rw [O,Q,F,o] at h3
   obtain⟨A,x1,C,S⟩:∃A x1 C,xs=[A,x1,C]:=by
    match xs,(by omega:xs.length=3) with
    |[A,x1,C],_=>exact⟨A,x1,C,rfl⟩
   subst S;have h4:DataW.trod X PP W 0 (λ_=>true) true m 9 [txt y.frame]=some x1:=h3;have e:=DataW.trod_string us h4;obtain⟨s,h5,h6,_⟩:=e
   have h7:(⟨y.frame.toArray⟩:ByteArray)=s:=by
    have:=List.head_eq_of_cons_eq h5;injection this
   have h8:s.data.toList=y.frame:=by rw [<-h7]
   rw [M] at w;simp only [DataW.weights,z,p,QS,JP,DataW.weightsEach,List.all_append,Qz] at w;have T:=w.2.1;rw [h6] at T;simp only [DataW.weights,Ye,List.all_nil,Bool.and_true] at T;have U:=of_decide_eq_true T;have V:reachBytes=140737488351232:=rfl;rw [V,h8] at U;omega
  have e:=zQi hc hl L;obtain⟨l,hL,hG⟩:=e;exact⟨some a,len,cap,l,zId h (by kernel_rfl) r,hL,λy o=>(hG y o).1,λy o=>(hG y o).2⟩
theorem zPF{α:Type}{P:List α->Prop}(h0:P [])(b:∀l x,P l->P (l++[x]))(l:List α):P l:=by
 have h:∀r:List α,P r.reverse:=by
  intro r
  induction r with
  |nil=>exact h0
  |cons x r c=>rw [List.reverse_cons];exact b _ _ c
 have:=h l.reverse
 rwa [List.reverse_reverse] at this
abbrev EvD:=Bool×List UInt8
def evD (l:List REv):List EvD:=l.map λy=>(y.tick,y.frame)
structure AuD where
 s:SvD
 told:List (List UInt8)
 took:List Int
section
variable {g:GrD} {c:CfD}
noncomputable def audS (g:GrD) (c:CfD) (r:AuD) (e:EvD):AuD:=
 if e.1 then ⟨(tickS g c r.s).1,r.told++(tickS g c r.s).2,r.took⟩
 else match (comeS g c r.s e.2).2 with
  |some t=>⟨(comeS g c r.s e.2).1,r.told++[t],r.took⟩
  |none=>match reqOf e.2 with
   |some x=>⟨(comeS g c r.s e.2).1,r.told,r.took++[x.id]⟩
   |none=>⟨(comeS g c r.s e.2).1,r.told,r.took⟩
noncomputable def audR (g:GrD) (c:CfD) (l:List EvD):AuD:=l.foldl (audS g c) ⟨newS c,[],[]⟩
theorem zIU(l:List EvD)(e:EvD):audR g c (l++[e])=audS g c (audR g c l) e:=by
 unfold audR;rw [VF];rfl
theorem zFi{l:List EvD}(h:k<l.length):audR g c (l.take (k+1))=audS g c (audR g c (l.take k)) l[k]:=by
 rw [take_add h,zIU]
theorem zBl(r:AuD)(f:List UInt8):audS g c r (true,f)=⟨(tickS g c r.s).1,r.told++(tickS g c r.s).2,r.took⟩:=rfl
theorem zBS{r:AuD}{f t:List UInt8}(h:(comeS g c r.s f).2=some t):audS g c r (false,f)=⟨(comeS g c r.s f).1,r.told++[t],r.took⟩:=by
 unfold audS;rw [if_neg (by simp)];dsimp only;rw [h]
theorem zBk{r:AuD}{f:List UInt8}(h:(comeS g c r.s f).2=none):audS g c r (false,f)=⟨(comeS g c r.s f).1,r.told,r.took++((reqOf f).map (·.id)).toList⟩:=by
 unfold audS;rw [if_neg (by simp)];dsimp only;rw [h];dsimp only;cases reqOf f <;> simp
theorem zFR(b:CfOk c){s:SvD}(h:SvOk g c s):(tickS g c s).2.length<=64:=by
 have e:=zCU (g:=g) (c:=c) (usedS (admitS s.wait s.held).2) (admitS s.wait s.held).2;have f:(usedS (admitS s.wait s.held).2).length<=(admitS s.wait s.held).2.length:=zD3 _ _;have d:=(zGT b s.wait s.held h).1.len;have l:=b.slots.2;dsimp only at d;show (stepsS g c _ _).2.length<=64;omega
theorem zPV(d:CfOk c){r:AuD}(h:SvOk g c r.s)(e:EvD):SvOk g c (audS g c r e).s/\(audS g c r e).told.length<=r.told.length+64/\(audS g c r e).took.length<=r.took.length+1/\r.told <+: (audS g c r e).told/\r.took <+: (audS g c r e).took:=by
 obtain⟨b,f⟩:=e
 cases b with
 |true =>
  rw [zBl];have:=zFR d h;exact⟨(zQB d h).1,by dsimp only;rw [Qb];omega,by dsimp only;omega,List.prefix_append _ _,List.prefix_refl _⟩
 |false =>
  have l:=zP3 h f
  cases o:(comeS g c r.s f).2 with
  |some t =>
   rw [zBS o];exact⟨l,by dsimp only;rw [Qb];simp,by dsimp only;omega,List.prefix_append _ _,List.prefix_refl _⟩
  |none =>
   rw [zBk o];refine⟨l,by dsimp only;omega,?_,List.prefix_refl _,List.prefix_append _ _⟩;dsimp only;rw [Qb];cases reqOf f <;> simp
theorem zFW(b:CfOk c)(l:List EvD):SvOk g c (audR g c l).s/\(audR g c l).told.length<=64*l.length/\(audR g c l).took.length<=l.length:=by
 refine zPF (P:=λl=>SvOk g c (audR g c l).s/\(audR g c l).told.length<=64*l.length/\(audR g c l).took.length<=l.length) ⟨new_ok g c,by simp [audR],by simp [audR]⟩ (λl e d=>?_) l;rw [zIU,Qb];have:=zPV b d.1 e;refine⟨this.1,?_,?_⟩ <;> simp only [QA,QZ] <;> omega
end
open Classical in
/-- the error of a new server -/
noncomputable def errN (x:RCfg) (im:List UInt8):Int:=if cfgOk x then (if imgOf im=none then 30 else 0) else 1
noncomputable def errA (x:RCfg) (im:List UInt8) (n:Nat):Int:=if 1000<n then 2 else errN x im
noncomputable def graA (im:List UInt8):GrD:=(imgOf im).getD ⟨0,[],[]⟩
noncomputable def toldA (x:RCfg) (im:List UInt8) (l:List EvD):List (List UInt8):=if errA x im l.length=0 then (audR (graA im) (cfOf x) l).told else []
noncomputable def tookA (x:RCfg) (im:List UInt8) (l:List EvD):List Int:=if errA x im l.length=0 then (audR (graA im) (cfOf x) l).took else []
noncomputable def liveA (x:RCfg) (im:List UInt8) (l:List EvD):List Int:=if errA x im l.length=0 then (List.range (cfOf x).workers).map λk=>(liveW (graA im) (cfOf x).workers (audR (graA im) (cfOf x) l).s.held k:Int) else []
theorem zDo{x:RCfg}{im:List UInt8}:errN x im=0↔cfgOk x/\∃g,imgOf im=some g:=by
 unfold errN;by_cases h:cfgOk x
 ·rw [if_pos h]
  cases e:imgOf im with
  |none=>simp
  |some g=>simp [h]
 ·rw [if_neg h];simp [h]
theorem zCp{x:RCfg}{im:List UInt8}:errA x im n=0↔n<=1000/\errN x im=0:=by
 unfold errA;by_cases h:1000<n
 ·rw [if_pos h];simp;omega
 ·rw [if_neg h];simp;omega
theorem zAY{im:List UInt8}(h:imgOf im=some g):graA im=g:=by unfold graA;rw [h];rfl
section
variable {g:GrD} {c:CfD}
end
section
variable {R R' R2:Nat->Prop} {B B2:Nat} {u u' w w':World} {bs bt:Nat} {g:GrD} {c:CfD} {s t:SvD}
theorem SrvP.ok(S:SrvP R B w bs g c s):GrIs g/\CfOk c/\SvOk g c s:=(SrvX.reg S).2
theorem SrvP.frB(S:SrvP R B w bs g c s)(f:Fr R w w'):Fr (λi=>B<=i) w w':=f.mono λi _ hi=>((SrvX.reg S).1 i hi).1
end
section
variable {P:Program} {k:Value->World->Prop} {pn:List PanicEntry->World->Prop} {w:World}
theorem zNP{t e:TypeId}{zero:List Value}{sz:Nat}(l:ArrT P t N e)(c:(P.info? t).bind (·.zero)=some (.agg zero.toArray))(d:(P.info? e).map (·.size)=some sz){b:List (Nat×Value)}{cs:List Value}
  (o:fillL (λi=>some (i*sz,sz)) zero b=some cs)(w:World):(Instr.build t b.toArray).run P w=.ok (.agg cs.toArray) w:=by
 obtain⟨i,hi,c⟩:=Option.bind_eq_some_iff.1 c;obtain⟨j,p,d⟩:=Vo.1 d;have f:=zIk _ b zero cs o;simp only [Instr.build,zeroValue,sizeOf,typeInfo,underlying,Qo,run_program,Qh,hi,p,d,c,Jd,l.h,Value.cells,f]
theorem rbuildA{t e:TypeId}{zero:List Value}{sz:Nat}[c:ArrT P t N e](d:(P.info? t).bind (·.zero)=some (.agg zero.toArray))(f:(P.info? e).map (·.size)=some sz){b:List (Nat×Value)}{cs:List Value}
  (h:fillL (λi=>some (i*sz,sz)) zero b=some cs)(l:k (.agg cs.toArray) w):SemV P (Instr.build t b.toArray) k pn w:=SemV.of (zNP c d f h w) l
theorem zPu{t ty e:TypeId}{z:Value}{sz b:Nat}(d:SlT P t e)(o:Elem P e z sz b){c f:Nat}(h:n<=c)(w:World):
  (Builtin.append_ #[t,t] ty #[.slice a n c,.slice a2 0 f]).run P w=.ok (.slice a n c) w:=by
 obtain⟨i,hi,r,s,p⟩:=info_parts o.h
 have l:∀w,(Builtin.firstCells i.size 0 (.slice a2 0 f)).run P w=.ok (#[]:Array Value) w:=λw=>by
  cases a2 <;> simp [Builtin.firstCells,loadCells,loadCellsFrom]
 exact run_append_nothing w t t ty e i d.h hi a n c h _ ⟨.inl ⟨e,d.h⟩,λw'=>by simp [Builtin.lenOf],l w,l _,by simp,by simp⟩
open Enc (enc) in
/-- append, and where the row lies behind it, whatever is put behind -/
theorem rappF{α:Type}[Enc α]{t ty e:TypeId}{z:Value}{sz d:Nat}[A:SlT P t e][C:Elem P e z sz d]{v x:Value}{l m:List α}(f:Enc.sz α=sz/\z.cells.size=sz)
  (o:Own B e w v l)(s:SlF w x m)(E:B<=w.heap.size)(F:(l.length+m.length)*d<=140737488355328/\l.length+m.length<=9223372036854775807)
  (y:∀b w',Own B e w' b (l++m)->Fr (ownD B v) w w'->((Value.blk b=Value.blk v\/Value.blk b=some w.heap.size/\m≠[]))->k b w'):SemV P (Builtin.append_ #[t,t] ty #[v,x]) k pn w:=by
 by_cases p:m=[]
 ·subst p;obtain⟨a2,K,rfl⟩:=s.shape;obtain⟨a,c,G,r,_⟩:=o.sl;subst G;refine SemV.of (zPu A C r w) (y _ _ ?_ (Fr.refl _ _) (.inl rfl));rw [QE];exact o
 ·exact rappD f o s p E F λb w' H I J=>y b w' H I (J.imp id λh=>⟨h,p⟩)
end
def RunP (X:Nat->Prop) (B:Nat) (u:World) (br bs:Nat) (g:GrD) (c:CfD) (r:AuD):Prop:=
 ∃(R:Nat->Prop) (vt vk:SV),SrvP R B u bs g c r.s/\Bk u br [.pointer (some ⟨bs,0,none⟩),.slice vt.a vt.n vt.c,.slice vk.a vk.n vk.c] 135/\Own B 9 u (.slice vt.a vt.n vt.c) (r.told.map bsOf)/\Own B 3 u (.slice vk.a vk.n vk.c) r.took /\
  (∀b,Value.blk (.slice vt.a vt.n vt.c)=some b->b<u.heap.size/\¬R b/\b≠br/\Value.blk (.slice vk.a vk.n vk.c)≠some b)/\(∀b,Value.blk (.slice vk.a vk.n vk.c)=some b->b<u.heap.size/\¬R b/\b≠br)/\¬R br/\B<=br/\br<u.heap.size /\
  ∀i,X i->i<u.heap.size/\¬R i/\i≠br/\Value.blk (.slice vt.a vt.n vt.c)≠some i/\Value.blk (.slice vk.a vk.n vk.c)≠some i
theorem RunP.up{X:Nat->Prop}[L:Le u u']{e bs:Nat}{c:CfD}{r:AuD}(h:RunP X B u e bs g c r):RunP X B u' e bs g c r:=by
 obtain⟨R,p,s,S,K,t,v,f,l,x,y,z,o⟩:=h;have:=lz u u';exact⟨R,p,s,S.up,K.mv (w:=u'),t.up,v.up,λb d=>⟨by have:=(f b d).1;omega,(f b d).2⟩,λb d=>⟨by have:=(l b d).1;omega,(l b d).2⟩,x,y,by omega,λi hi=>⟨by have:=(o i hi).1;omega,(o i hi).2⟩⟩
theorem zIc{α:Type}[Enc α]{e:TypeId}{w:World}{v d:Value}{l:List α}{X:Nat->Prop}(h:∀b,Value.blk v=some b->b<w.heap.size/\¬X b)
  (c:Value.blk d=Value.blk v\/Value.blk d=some w.heap.size/\l≠[])(O:Own B e w' d l)(p:∀i,X i->i<w.heap.size)(y:w.heap.size<=w'.heap.size):
  ∀b,Value.blk d=some b->b<w'.heap.size/\¬X b:=λb f=>by
 rcases c with c|⟨c,r⟩
 ·rw [c] at f;have:=h b f;exact⟨by omega,this.2⟩
 ·have s:=O.lt r;obtain⟨z,o,_,t⟩:=s;rw [c] at f o;cases o;cases f;exact⟨t,λx=>by have:=p _ x;omega⟩
theorem zAB{v:Value}{b:Nat}(h:ownD B v b):B<=b/\Value.blk v=some b:=⟨h.1,h.2.1⟩
theorem zGe{X:Nat->Prop}{z bs:Nat}{c:CfD}{r:AuD}{y:REv}{w:World}(Q:RunP X B w z bs g c r)(hB:B<=w.heap.size)(hf:y.frame.length<=4611686018427387904)(ht:r.told.length<=100000)(hk:r.took.length<=100000):
  Sp PP 139 #[.pointer (some ⟨z,0,none⟩),agg y] w λ_ w'=>RunP X B w' z bs g c (audS g c r (false,y.frame))/\Fr (λi=>B<=i/\¬X i) w w':=by
 obtain⟨R,⟨ta,tn,tc⟩,⟨ka,kn,kc⟩,S,K,O1,O2,F,J,hR,L,b2,E⟩:=Q;obtain⟨yt,T,pa,pn,pc⟩:=y;dsimp only at K O1 O2 F J E hf;have x:=(SrvX.reg S).1;have b3:=O1.sl.len;have b5:=O2.sl.len;have b6:(r.told.map bsOf).length=r.told.length:=Qr ..;refine eN ?_;refine rbx λbx w1 n1 X1=>?_;have X1:Bk w1 bx (enc (⟨yt,T,pa,pn,pc⟩:REv)) 36:=X1;have b7:=n1.lo (u:=w);have z1:=lz w w1;refine dD (λi=>B<=i/\i≠z/\i≠bx) (upF 12 0) λw2 e2=>tX K rfl (λh=>h.2.1 rfl) (tX X1 rfl (λh=>h.2.2 rfl) ?_);have D:=zIH (f:=T) (S.up (w':=w2)) (by have:=e2.e.size;omega) (by omega);have⟨o,ho⟩:∃o,(comeS g c r.s T).2=o:=⟨_,rfl⟩;rw [ho] at D;have z2:=lz w w2
 have tw (v:World) (A:Fr R w2 v):Fr (λi=>B<=i/\i≠z/\i≠bx) w2 v:=A.mono λi _ hi=>by
  have l:=x i hi;exact⟨l.1,λh=>hR (h ▸ hi),by omega⟩
 cases o with
 |some t =>
  refine rcall D ?_;rintro _ v ⟨rfl,S3,A⟩;refine⟨tw v A,?_⟩;have z3:=A.size;have K3:=(K.mv (w:=w2)).fr A hR;have O3:=(O1.up (w':=w2)).fr A λb _ p C=>(F b p).2.1 C;have P3:=(O2.up (w':=w2)).fr A λb _ p C=>(J b p).2.1 C;refine rX K3 rfl (bS (bsOf t) λb4 Y e4 _ S4=>?_);have z4:=e4.e.size;refine rappF ⟨rfl,rfl⟩ (O3.up (w':=Y)) S4 (by omega) (by simp only [QA,QZ];omega) λv5 w5 O5 f5 U=>?_;have z5:=f5.size;have U:Value.blk v5=Value.blk (.slice ta tn tc)\/Value.blk v5=some Y.heap.size/\r.told.map bsOf++[bsOf t]≠[]:=U.imp id λh=>⟨h.1,by simp⟩;have K5:=(K3.mv (w:=Y)).fr f5 λh=>(F z (zAB h).2).2.2.1 rfl;have P5:=(P3.up (w':=Y)).fr f5 λb _ p h=>(F b (zAB h).2).2.2.2 p
  have S5:=(S3.up (w':=Y)).away f5 λb h C=>by
   have l:=F b (zAB h).2;rcases C with h4|h4
   ·exact l.2.1 h4
   ·omega
  have N5:=zIc (X:=λi=>((gR R w2 v i\/i=z)\/Value.blk (.slice ka kn kc)=some i)\/X i) (λb p=>by
   have l:=F b p;refine⟨by omega,λh=>?_⟩;rcases h with ((h|h)|h)|h
   ·rcases h with h|h
    ·exact l.2.1 h
    ·omega
   ·exact l.2.2.1 h
   ·exact l.2.2.2 h
   ·exact(E _ h).2.2.2.1 p) U O5 (λi h=>by
   rcases h with ((h|h)|h)|h
   ·rcases h with h|h
    ·have:=x i h;omega
    ·omega
   ·omega
   ·have:=J i h;omega
   ·have:=E i h;omega) z5
  have q_:=O5.shape;obtain⟨a5,c5,rfl⟩:=q_;refine rS K5 [.slice a5 _ c5] (sl_one _ _ _) λG K6 O _=>?_;have z6:=O.size
  have fin:RunP X B G z bs g c (audS g c r (false,T)):=by
   rw [zBS ho]
   have H:¬gR R w2 v z:=λh=>by
    rcases h with h|h
    ·exact hR h
    ·omega
   refine⟨gR R w2 v,⟨a5,_,c5⟩,⟨ka,kn,kc⟩,S5.away O λb h C=>H (h ▸ C),K6,?_,P5.fr O λb _ p h=>(J b p).2.2 h,λb p=>?_,λb p=>?_,H,L,by omega,λi hi=>?_⟩
   ·have:=O5.fr O λb _ p h=>(N5 b p).2 (.inl (.inl (.inr h)));rw [show (r.told++[t]).map bsOf=r.told.map bsOf++[bsOf t] by simp];exact this
   ·have l:=N5 b p;exact⟨by omega,λh=>l.2 (.inl (.inl (.inl h))),λh=>l.2 (.inl (.inl (.inr h))),λh=>l.2 (.inl (.inr h))⟩
   ·have l:=J b p;refine⟨by omega,λh=>?_,l.2.2⟩;rcases h with h|h
    ·exact l.2.1 h
    ·omega
   ·have l:=E i hi;refine⟨by omega,λh=>?_,l.2.2.1,λh=>(N5 i h).2 (.inr hi),l.2.2.2.2⟩;rcases h with h|h
    ·exact l.2.1 h
    ·omega
  have a6:Fr (λi=>B<=i/\¬X i) w G:=((((fE w w2).trans (A.mono λi _ hi=>⟨(x i hi).1,λM=>(E i M).2.1 hi⟩)).trans (Fr.fr e4.e)).trans (f5.mono λi _ hi=>⟨hi.1,λM=>(E i M).2.2.2.1 (zAB hi).2⟩)).trans (O.mono λi _ hi=>by rw [hi];exact⟨L,λM=>(E z M).2.2.1 rfl⟩);exact⟨fin,a6⟩
 |none =>
  refine rcall D ?_;rintro _ v ⟨rfl,S3,A⟩;refine⟨tw v A,?_⟩;have z3:=A.size;have K3:=(K.mv (w:=w2)).fr A hR;have X3:=(X1.mv (w:=w2)).fr A λh=>by have:=x _ h;omega
  have O3:=(O1.up (w':=w2)).fr A λb _ p C=>(F b p).2.1 C;have P3:=(O2.up (w':=w2)).fr A λb _ p C=>(J b p).2.1 C;have a0:Fr (λi=>B<=i/\¬X i) w v:=(fE w w2).trans (A.mono λi _ hi=>⟨(x i hi).1,λM=>(E i M).2.1 hi⟩)
  have H:¬gR R w2 v z:=λh=>by
   rcases h with h|h
   ·exact hR h
   ·omega
  refine rX X3 rfl (rcall (zB7 (s:=T) (by omega)) ?_);rintro _ Y ⟨⟨d,q,V,rfl,hO⟩|⟨V,rfl⟩,e4⟩
  ·have a7:=hO.1;refine ral λbq w5 n5 X5=>?_;have a8:=n5.lo (u:=v);refine rE X5 q λG X6 O _=>?_;have X6:Bk G bq (enc q) 55:=X6;have t6:Stp v G:=⟨Fr.st (lE v w5) O λi hi=>by omega⟩;have z6:=t6.e.size;have lq:=X6.lt;have K6:=K3.mv (w:=G);refine iT rfl (dT (λi=>i≠bq) (oL [0,1,2,3,5,6] (.duo 4 (oL [7,8,9,10,11] .nil) 7 (.lone 4 (oL [8,9,10,11] .nil)))) λw7 e7=>?_);have z7:=e7.e.size;refine tX X6 rfl (λh=>h rfl) ?_;refine⟨?_,?_⟩
   case' refine_1 =>
    refine rX K6 rfl ⟨Fr.refl _ _,?_⟩;refine bS (q.id:Int) λb8 Z e8 _ S8=>⟨e8.e.mono λ_ _ h=>h.elim,?_⟩
   case' refine_2 =>
    refine bS (q.id:Int) λb8 Z e8 _ S8=>⟨e8.e.mono λ_ _ h=>h.elim,?_⟩;refine rX K6 rfl ⟨Fr.refl _ _,?_⟩
   all_goals
    have z8:=e8.e.size;refine rappF ⟨rfl,rfl⟩ (P3.up (w':=Z)) S8 (by omega) (by simp only [QA,QZ];omega) λv9 w9 O9 f9 W=>⟨f9.mono λi _ hi=>by have:=(J i (zAB hi).2).1;omega,?_⟩;have z9:=f9.size;have W:Value.blk v9=Value.blk (.slice ka kn kc)\/Value.blk v9=some Z.heap.size/\r.took++[q.id]≠[]:=W.imp id λh=>⟨h.1,by simp⟩;have K9:=(K6.mv (w:=Z)).fr f9 λh=>(J z (zAB h).2).2.2 rfl;have P9:=(O3.up (w':=Z)).fr f9 λb _ p h=>(F b p).2.2.2 (zAB h).2
    have S9:=(S3.up (w':=Z)).away f9 λb h C=>by
     have l:=J b (zAB h).2;rcases C with h4|h4
     ·exact l.2.1 h4
     ·omega
    have N9:=zIc (X:=λi=>((gR R w2 v i\/i=z)\/Value.blk (.slice ta tn tc)=some i)\/X i) (λb p=>by
     have l:=J b p;refine⟨by omega,λh=>?_⟩;rcases h with ((h|h)|h)|h
     ·rcases h with h|h
      ·exact l.2.1 h
      ·omega
     ·exact l.2.2 h
     ·exact(F b h).2.2.2 p
     ·exact(E _ h).2.2.2.2 p) W O9 (λi h=>by
     rcases h with ((h|h)|h)|h
     ·rcases h with h|h
      ·have:=x i h;omega
      ·omega
     ·omega
     ·have:=F i h;omega
     ·have:=E i h;omega) z9
    have q_:=O9.shape;obtain⟨a9,c9,rfl⟩:=q_;refine rS K9 [.slice a9 _ c9] (sl_one _ _ _) λa1 b0 I _=>⟨I.mono λi _ hi=>by omega,?_⟩;have b9:=I.size
    have fin:RunP X B a1 z bs g c (audS g c r (false,T)):=by
     have b1:r.took++((some d).map (·.id)).toList=r.took++[q.id]:=by rw [a7];rfl
     rw [zBk ho,V,b1];refine⟨gR R w2 v,⟨ta,tn,tc⟩,⟨a9,_,c9⟩,S9.away I λb h C=>H (h ▸ C),b0,P9.fr I λb _ p h=>(F b p).2.2.1 h,?_,λb p=>?_,λb p=>?_,H,L,by omega,λi hi=>?_⟩
     ·exact O9.fr I λb _ p h=>(N9 b p).2 (.inl (.inl (.inr h)))
     ·have l:=F b p;refine⟨by omega,λh=>?_,l.2.2.1,λh=>(N9 b h).2 (.inl (.inr p))⟩;rcases h with h|h
      ·exact l.2.1 h
      ·omega
     ·have l:=N9 b p;exact⟨by omega,λh=>l.2 (.inl (.inl (.inl h))),λh=>l.2 (.inl (.inl (.inr h)))⟩
     ·have l:=E i hi;refine⟨by omega,λh=>?_,l.2.2.1,l.2.2.2.1,λh=>(N9 i h).2 (.inr hi)⟩;rcases h with h|h
      ·exact l.2.1 h
      ·omega
    have a4:Fr (λi=>B<=i/\¬X i) w a1:=(((a0.trans (fE v w7)).trans (Fr.fr e8.e)).trans (f9.mono λi _ hi=>⟨hi.1,λM=>(E i M).2.2.2.2 (zAB hi).2⟩)).trans (I.mono λi _ hi=>by rw [hi];exact⟨L,λM=>(E z M).2.2.1 rfl⟩);exact⟨fin,a4⟩
  ·refine ral λbq w5 n5 X5=>?_;have a8:=n5.lo (u:=v);refine rE X5 zRq λG X6 O _=>?_;have t6:Stp v G:=⟨Fr.st (lE v w5) O λi hi=>by omega⟩;have z6:=t6.e.size;refine iF (by decide) ?_
   have fin:RunP X B G z bs g c (audS g c r (false,T)):=by
    rw [zBk ho,V];refine⟨gR R w2 v,⟨ta,tn,tc⟩,⟨ka,kn,kc⟩,S3.up (w':=G),K3.mv (w:=G),O3.up (w':=G),?_,λb p=>?_,λb p=>?_,H,L,by omega,λi hi=>?_⟩
    ·have:=P3.up (w':=G);simpa using this
    ·have l:=F b p;refine⟨by omega,λh=>?_,l.2.2⟩;rcases h with h|h
     ·exact l.2.1 h
     ·omega
    ·have l:=J b p;refine⟨by omega,λh=>?_,l.2.2⟩;rcases h with h|h
     ·exact l.2.1 h
     ·omega
    ·have l:=E i hi;refine⟨by omega,λh=>?_,l.2.2.1,l.2.2.2.1,l.2.2.2.2⟩;rcases h with h|h
     ·exact l.2.1 h
     ·omega
   exact⟨fin,a0.trans (Fr.fr t6.e)⟩
theorem zGf{X:Nat->Prop}{t bs:Nat}{c:CfD}{r:AuD}{y:REv}{w:World}(Q:RunP X B w t bs g c r)(hB:B<=w.heap.size)(z:∀u,Fr (λi=>B<=i) w u->SlF u y.picks.v ps)(ht:r.told.length<=100000):
  Sp PP 140 #[.pointer (some ⟨t,0,none⟩),agg y] w λ_ w'=>RunP X B w' t bs g c (audS g c r (true,y.frame))/\Fr (λi=>B<=i/\¬X i) w w':=by
 obtain⟨R,⟨ta,tn,tc⟩,⟨ka,kn,kc⟩,S,K,O1,O2,A,L,hR,C,a4,E⟩:=Q;obtain⟨yt,yf,pa,U,pc⟩:=y;dsimp only at K O1 O2 A L E;have z:∀u,Fr (λi=>B<=i) w u->SlF u (.slice pa U pc) ps:=z;have p:=(SrvX.reg S).1;have a6:(r.told.map bsOf).length=r.told.length:=Qr ..;have l:=S.ok;obtain⟨_,V,W⟩:=l;have a7:=zFR V W;have a1:((tickS g c r.s).2.map bsOf).length=(tickS g c r.s).2.length:=Qr ..;refine eN ?_;refine rbx λbx w1 n1 Y=>?_;have Y:Bk w1 bx (enc (⟨yt,yf,pa,U,pc⟩:REv)) 36:=Y;have a8:=n1.lo (u:=w);have z1:=lz w w1;refine dT (λi=>B<=i/\i≠bx) (oL [0,1,2,3,5,6,7,9,10] (.duo 4 (.lone 8 (oL [11,12,13,14,15] .nil)) 8 (.duo 4 (oL [11,12,13,14,15] .nil) 11 (.lone 4 (oL [12,13,14,15] .nil))))) λw2 e2=>?_;have z2:=lz w w2;have S2:=S.up (w':=w2);have D:=zIJ (a3:=pa) (n3:=U) (c3:=pc) (ps:=ps) S2 (by omega) λu f=>z u ((fE w w2).trans (S2.frB f))
 have tw (H:World) (x:Fr R w2 H):Fr (λi=>B<=i/\i≠bx) w2 H:=x.mono λi _ hi=>by
  have e:=p i hi;exact⟨e.1,by omega⟩
 refine tX Y rfl (λh=>h.2 rfl) ?_;refine⟨?_,?_⟩
 case' refine_2 =>
  refine rX K rfl ⟨Fr.refl _ _,?_⟩;refine⟨?_,?_⟩
 case' refine_1 =>
  refine rX K rfl ⟨Fr.refl _ _,?_⟩;refine rX K rfl ⟨Fr.refl _ _,?_⟩
 case' refine_2.refine_1=>refine rX K rfl ⟨Fr.refl _ _,?_⟩
 all_goals
  refine rcall D ?_;rintro v3 H ⟨T,V3,_,S3,Z,x⟩;refine⟨tw H x,?_⟩;have K3:=(K.mv (w:=w2)).fr x hR
 case' refine_2.refine_2=>refine rX K3 rfl ⟨Fr.refl _ _,?_⟩
 all_goals
  have z3:=x.size;have O3:=(O1.up (w':=w2)).fr x λb _ o F=>(A b o).2.1 F;have P3:=(O2.up (w':=w2)).fr x λb _ o F=>(L b o).2.1 F;have l:=V3.shape;obtain⟨a3,c3,rfl⟩:=l;refine rappF ⟨rfl,rfl⟩ O3 V3.sl (by omega) (by constructor <;> omega) λv5 w5 O5 I G=>⟨I.mono λi _ hi=>⟨hi.1,by have:=(A i (zAB hi).2).1;omega⟩,?_⟩;have z5:=I.size;have G:Value.blk v5=Value.blk (.slice ta tn tc)\/Value.blk v5=some H.heap.size/\r.told.map bsOf++(tickS g c r.s).2.map bsOf≠[]:=G.imp id λh=>⟨h.1,λh0=>h.2 (List.append_eq_nil_iff.1 h0).2⟩;have K5:=K3.fr I λh=>(A t (zAB h).2).2.2.1 rfl;have P5:=P3.fr I λb _ o h=>(A b (zAB h).2).2.2.2 o;have d:∀i,T i->R i\/w2.heap.size<=i/\i<H.heap.size:=Z
  have S5:=S3.away I λb h F=>by
   have e:=A b (zAB h).2;have l:=d b F;rcases l with h4|h4
   ·exact e.2.1 h4
   ·omega
  have M:¬T t:=λh=>by
   have l:=d _ h;rcases l with h|h
   ·exact hR h
   ·omega
  have N5:=zIc (X:=λi=>((T i\/i=t)\/Value.blk (.slice ka kn kc)=some i)\/X i) (λb o=>by
   have e:=A b o;refine⟨by omega,λh=>?_⟩;rcases h with ((h|h)|h)|h
   ·have l:=d _ h;rcases l with h|h
    ·exact e.2.1 h
    ·omega
   ·exact e.2.2.1 h
   ·exact e.2.2.2 h
   ·exact(E _ h).2.2.2.1 o) G O5 (λi h=>by
   rcases h with ((h|h)|h)|h
   ·have l:=d _ h;rcases l with h|h
    ·have:=p i h;omega
    ·omega
   ·omega
   ·have:=L i h;omega
   ·have:=E i h;omega) z5
  have l:=O5.shape;obtain⟨a5,c5,rfl⟩:=l;refine rS K5 [.slice a5 _ c5] (sl_one _ _ _) λw6 K6 J _=>⟨J.mono λi _ hi=>by rw [hi];exact⟨C,by omega⟩,?_⟩;have z6:=J.size
  have fin:RunP X B w6 t bs g c (audS g c r (true,yf)):=by
   rw [zBl];refine⟨T,⟨a5,_,c5⟩,⟨ka,kn,kc⟩,S5.away J λb h F=>M (h ▸ F),K6,?_,P5.fr J λb _ o h=>(L b o).2.2 h,λb o=>?_,λb o=>?_,M,C,by omega,λi hi=>?_⟩
   ·have:=O5.fr J λb _ o h=>(N5 b o).2 (.inl (.inl (.inr h)));rw [show (r.told++(tickS g c r.s).2).map bsOf=r.told.map bsOf++(tickS g c r.s).2.map bsOf from QB];exact this
   ·have e:=N5 b o;exact⟨by omega,λh=>e.2 (.inl (.inl (.inl h))),λh=>e.2 (.inl (.inl (.inr h))),λh=>e.2 (.inl (.inr h))⟩
   ·have e:=L b o;refine⟨by omega,λh=>?_,e.2.2⟩;have l:=d _ h;rcases l with h|h
    ·exact e.2.1 h
    ·omega
   ·have e:=E i hi;refine⟨by omega,λh=>?_,e.2.2.1,λh=>(N5 i h).2 (.inr hi),e.2.2.2.2⟩;have l:=d _ h;rcases l with h|h
    ·exact e.2.1 h
    ·omega
  have a0:Fr (λi=>B<=i/\¬X i) w w6:=(((fE w w2).trans (x.mono λi _ hi=>⟨(p i hi).1,λO=>(E i O).2.1 hi⟩)).trans (I.mono λi _ hi=>⟨hi.1,λO=>(E i O).2.2.2.1 (zAB hi).2⟩)).trans (J.mono λi _ hi=>by rw [hi];exact⟨C,λO=>(E t O).2.2.1 rfl⟩);exact⟨fin,a0⟩
end Go.W
