/-
  Proved here: parts of this claim.
  Conditions: told at each.
-/
import Derived.Deep.Upon
import Derived.Lib.ItoaLen
import Derived.Test.YtnanheiakfekdaaGreatDoorT5
set_option maxHeartbeats 8000000
set_option linter.unusedVariables false
set_option linter.unusedSimpArgs false
namespace Go.W
open Go Go.Proofs
open AL (enc)
set_option maxRecDepth 10000
variable {B N i j k m n n2 n3:Nat} {D R:Nat -> Prop} {P:Program} {a a2 a3:OA} {g:Al} {ps:List Int} {w w' w1:World}
section
variable {kx:Nat} {R:Nat->Prop} {B:Nat} {w0 w w':World} {bs:Nat} {g:Al} {c:DP} {s:EV} {Ls:Nat->List AN} {K:Hk} {wt hd:SV} {lw:List Ax} {lh:List BA} {lj:List FP} {RW:Nat->Nat->Prop}
theorem zLU(k:Nat):∀(b:List Nat) (h:Hs),BJ g c (b++[k]) h=((BB g c (BJ g c b h).1 k).1,(BJ g c b h).2++(BB g c (BJ g c b h).1 k).2.toList):=by intro a;induction a<;>grind[BJ,BB]
theorem qJ:∀(b:List Nat) (h:Hs),(BJ g c b h).2.length<=b.length:=by intro a;induction a<;>grind[BB,BJ]
theorem xL:∀(b:List Nat) (h:Hs),j∉b->(BJ g c b h).1.getD j none=h.getD j none:=by intro a;induction a<;>grind[BJ,BB]
theorem zPn{y:CG}{p:Int×Int×Gj}(b:y.id=p.1)(d:y.code=p.2.1)(e:y.a.found=p.2.2.found)(f:y.a.num=p.2.2.num):(BE y p.2.2.hits↔BE (BC p.1 p.2.1 p.2.2) p.2.2.hits)/\DF y p.2.2.hits=DF (BC p.1 p.2.1 p.2.2) p.2.2.hits:=by grind[BE,BC,DF]
theorem zIu{c3:Nat}(S:Ay R B w bs g c s)(hB:B<=w.heap.size)(h3:∀u,Fr R w u->AQ u (.slice a3 n3 c3) ps):
  Sp PP 57 #[.pointer (some ⟨bs,0,none⟩),.slice a3 n3 c3] w λv w'=>∃R':Nat->Prop,AD w.heap.size 9 w' v ((Ew g c s).2.map AS)/\(∀b,Value.blk v=some b->b<w'.heap.size/\¬R' b)/\Ay R' B w' bs g c (Ew g c s).1/\(∀i,R' i->gR R w w' i)/\Fr R w w':=by
 have hR:=(CT.reg S).1;refine eN ?_;refine EE (AA (zT S hB) ?_);rintro _ w1 ⟨S1,f1⟩;have z1:=f1.size;have A:∃d:EV,d=⟨(BQ s.wait s.held).1,(BQ s.wait s.held).2⟩:=⟨_,rfl⟩;obtain⟨d,T⟩:=A;rw[<-T]at S1;have c5:=(CT.reg S1).1;have a6:=S1;obtain⟨K,wt,hd,lw,lh,lj,RW,S2⟩:=a6;have c6:=S2.small;have F2:=S2.fz.here;have hu:=F2.usedH;have c7:=F2.fh.len;have c8:(Ar d.held).length<=lh.length:=by rw[F2.lhn];exact cK _ _
 refine rX S2.cell rfl ?_;have D:=sK F2.fh (by omega);rw[hu]at D;refine AA D ?_;rintro v o ⟨O2,e2⟩;have A:=O2.shape;obtain⟨ua,uc,rfl⟩:=A;have z2:=e2.e.size;have c1:((Ar d.held).map λk:Nat=>(k:Int)).length=(Ar d.held).length:=by simp
 have P0:Ay (gR R w w1) B o bs g c ⟨d.wait,(BJ g c ((Ar d.held).take 0) d.held).1⟩:=Ay.up (w':=o) S1
 refine cO 22 [7,8,9,10,11] 5 22 (Ar d.held).length (λj v u=>∃r:Nat->Prop,AD o.heap.size 9 u v ((BJ g c ((Ar d.held).take j) d.held).2.map AS)/\(∀b,Value.blk v=some b->b<u.heap.size/\¬r b) /\
   Ay r B u bs g c ⟨d.wait,(BJ g c ((Ar d.held).take j) d.held).1⟩/\(∀i,r i->gR R w w1 i\/o.heap.size<=i)/\Fr (λi=>r i/\i<o.heap.size) o u)
  ⟨gR R w w1,AD.nil _ _ _,(λb hb=>by cases hb),P0,(λi hi=>.inl hi),Fr.refl _ _⟩ ?_
 clear P0;rintro j v G u hj ⟨r,O,q,P,L,f⟩;have zu:=f.size;have ff:Fr (λi=>gR R w w1 i/\i<o.heap.size) o u:=f.mono λi hi h=>⟨(L i h.1).elim id λJ=>by omega,h.2⟩;have fR:Fr R w u:=(f1.join (H:=λi=>R i) ((Fr.fr (D:=λi=>gR R w w1 i/\i<o.heap.size) e2.e).trans ff) (λ_ _ h=>h) λi hi h=>h.1.elim id λh=>by omega);have Ou:=O2.fr ff λb hb c9 h=>by rcases h.1 with h4|h4;(have:=hR b h4;omega);omega
 refine ite (λBS=>?_) (λa7=>?_)
 ·have F:j<(Ar d.held).length:=by(try dsimp only at BS);omega
  have A:∃k,k=(Ar d.held)[j]:=⟨_,rfl⟩;obtain⟨k,hk⟩:=A;have a8:k∈Ar d.held:=by rw[hk];exact Qa F
  have A:=xQ a8;obtain⟨x0,i,a9⟩:=A
  have b0:k∉(Ar d.held).take j:=λh=>by
   have A:=QI.1 h;obtain⟨m,hm,he⟩:=A;rw[Qm]at hm;rw[VI,hk]at he;have:=(VQ (zQY d.held)).1 he;omega
  have U:(BJ g c ((Ar d.held).take j) d.held).1.getD k none=some (x0,i):=by rw[xL _ _ b0];exact a9
  have l:=zLU (g:=g) (c:=c) k ((Ar d.held).take j) d.held;rw[show(Ar d.held).take j++[k]=(Ar d.held).take (j+1) by rw[hk,<-QO F]]at l;have A:∃C,C=(BJ g c ((Ar d.held).take j) d.held).1:=⟨_,rfl⟩;obtain⟨C,b2⟩:=A;have A:∃lo,lo=(BJ g c ((Ar d.held).take j) d.held).2:=⟨_,rfl⟩;obtain⟨lo,V⟩:=A;rw[<-b2]at U P l;rw[<-V]at O l;have b3:B<=u.heap.size:=by omega
  have W:=(CT.reg P).1;refine Bp Ou.sl (x:=(k:Int)) (by simp[F,hk]) λb1 o1 A1=>AF (A1.cell0 rfl) (AA (yW P b3 U (h3 u fR)) ?_);rintro _ t ⟨⟨y,all,rfl,Q⟩,fs⟩;have zs:=fs.size;refine Ao λb4 u2 n2 Y2=>?_;have b5:=n2.lo (u:=t);have c2:=n2.lt;refine rE Y2 y λz Y3 f3 _=>?_;have Y3:Bk z b4 (enc y) 173:=Y3;have s3:AC t z:=⟨Fr.st Le.e f3 λi hi=>by subst hi;exact b5⟩;clear Y2 f3;have z3:=lz t z;have M:∀{b:Nat},b<u.heap.size->¬r b->∀{x y:World},u.heap.size<=x.heap.size->¬gR r x y b:=λ{b} hb hn {x y} U h=>h.elim hn λh=>by omega
  have c4:lo.length<=64:=by
   have:=qJ (g:=g) (c:=c) ((Ar d.held).take j) d.held;rw[<-V,Qm]at this;omega
  have Os:AD o.heap.size 9 t v (lo.map AS):=O.fr fs λb _ hb=>(q b hb).2;have X:Fr (λi=>gR r u t i/\i<o.heap.size) o t:=f.join fs (λi _ h=>⟨.inl h.1,h.2⟩) λi hi h=>⟨.inl h,hi⟩;have Y:∀{y x:World},o.heap.size<=x.heap.size->∀i,gR r x y i->gR R w w1 i\/o.heap.size<=i:=λ{y x} U i hi=>hi.elim (L i) λh=>.inr (by omega);rcases Q with⟨rfl,p,Ls,K,wt,hd,lw,lh,lj,RW,q1,b7,b8,b9,c0,HZ,SZ,Z,q2⟩|⟨rfl,q1,P1⟩
  ·have a0:=SZ.up (w':=z);refine AA (pW a0 Z U (by omega)) ?_;rintro _ E ⟨P4,m4⟩;have f4:Fr (gR r u t) z E:=m4.mono λi _ h=>a0.mut h;have z4:=f4.size;have Y4:=Y3.fr f4 λh=>h.elim (λh=>by have:=(W _ h).2;omega) λh=>by omega
   have H4:AQ E (.slice y.a.s.a y.a.s.n y.a.s.c) p.2.2.hits:=HZ E (((fE t z).trans m4).mono λi _ h=>.inl h);refine rG Y4 y ?_;have a1:=((wP (CT.reg P).2.2.1 (CT.reg P).2.2.2 q1).ok (CT.reg P).2.1.ok).1;refine AA (tC (x:=y) H4 (by have:=a1.2.2.2.1;omega)) ?_;rintro v5 u5 ⟨I,e5⟩
   have I:∃e,v5=Value.tuple #[Ae (GK p),e]:=by
    have A:=zPn b7 b8 b9 c0;obtain⟨r1,r2⟩:=A;rcases I with⟨h1,J⟩|⟨h1,J⟩
    ·refine⟨.int .i64 0,?_⟩;rw[J,r2,GK,uL (r1.1 h1)]
    ·refine⟨.int .i64 1,?_⟩;rw[J,GK,vD (λh=>h1 (r1.2 h))]
   obtain⟨ee,rfl⟩:=I;refine bS (AS (GK p)) λb6 u6 n6 _ S6=>?_;have O4:AD o.heap.size 9 E v (lo.map AS):=(Os.up (w':=z)).fr f4 λb _ hb=>M (q b hb).1 (q b hb).2 (Qe _);have z6:=lz E u6;refine Fy ⟨rfl,rfl⟩ (O4.up (w':=u6)) S6 (by simp) (by omega) (by rw[Qr];simp;omega) λv7 u7 O7 f7 a4=>?_;have z7:=f7.size;have P7:=P4.up (w':=u6);have nv:∀b,AV o.heap.size v b->b<u.heap.size/\¬r b:=λb hb=>q b hb.2.1
   have a5:∀b,AV o.heap.size v b->¬gR (gR r u t) z E b:=λb hb h=>by
    have:=nv b hb;rcases h with (h|h)|h
    ·exact this.2 h
    ·omega
    ·omega
   have P8:=Ay.away P7 f7 a5
   have k1:AD o.heap.size 9 u7 v7 ((BJ g c ((Ar d.held).take (j+1)) d.held).2.map AS):=by
    have:(BJ g c ((Ar d.held).take (j+1)) d.held).2.map AS=lo.map AS++[AS (GK p)]:=by
     rw[l];show(lo++(BB g c C k).2.toList).map AS=_;rw[(rW C k).1,q1,QB];rfl
    rw[this];exact O7
   have k2:∀b,Value.blk v7=some b->b<u7.heap.size/\¬gR (gR r u t) z E b:=λb hb=>by
    rcases a4 with h|h
    ·rw[h]at hb;have:=q b hb;refine⟨by omega,λJ=>?_⟩;rcases J with (J|J)|J
     ·exact this.2 J
     ·omega
     ·omega
    ·rw[h]at hb;cases hb;have A:=O7.lt (by simp);obtain⟨gq,g1,_,g3⟩:=A;rw[h]at g1;cases g1;refine⟨g3,λh=>?_⟩;rcases h with (h|h)|h
     ·have:=(W _ h).2;omega
     ·omega
     ·omega
   have k3:Ay (gR (gR r u t) z E) B u7 bs g c ⟨d.wait,(BJ g c ((Ar d.held).take (j+1)) d.held).1⟩:=by
    rw[l];show Ay _ _ _ _ _ _ ⟨d.wait,(BB g c C k).1⟩;rw[q2];exact P8
   have k4:∀i,gR (gR r u t) z E i->gR R w w1 i\/o.heap.size<=i:=λi hi=>by
    rcases hi with (h|h)|h
    ·exact L i h
    ·exact .inr (by omega)
    ·exact .inr (by omega)
   have k5:Fr (λi=>gR (gR r u t) z E i/\i<o.heap.size) o u7:=by
    refine((X.trans (fE t z)).join (H:=λi=>gR (gR r u t) z E i/\i<o.heap.size) f4 (λi _ h=>⟨.inl h.1,h.2⟩) λi hi h=>⟨.inl h,hi⟩).join ((Fr.fr (D:=AV o.heap.size v) (lE E u6)).trans f7) (λ_ _ h=>h) λi hi h=>?_;have:=h.1;omega
   clear Y4 H4 O4 S6 P7 P8 nv a5 O7 f7 a4;exact rA ⟨rfl,F,_,k1,k2,k3,k4,k5⟩
  ·have P3:=Ay.up (w':=z) P1
   have k1:AD o.heap.size 9 z v ((BJ g c ((Ar d.held).take (j+1)) d.held).2.map AS):=by
    have:(BJ g c ((Ar d.held).take (j+1)) d.held).2.map AS=lo.map AS:=by
     rw[l];show(lo++(BB g c C k).2.toList).map AS=_;rw[(rW C k).1,q1];simp
    rw[this];exact Os.up
   have k2:∀b,Value.blk v=some b->b<z.heap.size/\¬gR r u t b:=λb hb=>by
    have:=q b hb;exact⟨by omega,M this.1 this.2 (Qe _)⟩
   have k3:Ay (gR r u t) B z bs g c ⟨d.wait,(BJ g c ((Ar d.held).take (j+1)) d.held).1⟩:=by rw[l];exact P3
   have k5:Fr (λi=>gR r u t i/\i<o.heap.size) o z:=X.trans (fE t z);exact rA ⟨rfl,F,gR r u t,k1,k2,k3,Y (by omega),k5⟩
 ·obtain rfl:j=(Ar d.held).length:=by(try dsimp only at a7);omega
  rw[Qg]at O P;have h1:Ew g c s=(⟨d.wait,(BJ g c (Ar d.held) d.held).1⟩,(BJ g c (Ar d.held) d.held).2):=by rw[T];rfl
  rw[h1];refine⟨r,O.mono (by omega),q,P,λi hi=>?_,fR⟩;have:=(CT.reg P).1 i hi;have A:=L i hi;rcases A with (h|h)|h
  ·exact .inl h
  ·exact .inr (by omega)
  ·exact .inr (by omega)
end
section
variable {R:Nat->Prop} {B:Nat} {w0 w w':World} {bs:Nat} {g:Al} {c:DP} {s:EV}
def Yp (o:Option (U8)):Value:=.tuple #[Ae (o.getD []),.bool o.isSome]
theorem xS(s:EV)(id:Int):(DK s id).2≠0:=by grind[DK]
theorem oO(f:Fn)(a b:Array Value):∀u∈[Value.func f a b],u.oneCell'=true:=by intro u d;simp at d;subst d;rfl
theorem zIr{f:U8}(S:Ay R B w bs g c s)(T:B<=w.heap.size)(hf:f.length<=4611686018427387904):
  Sp PP 104 #[.pointer (some ⟨bs,0,none⟩),Ae f] w λv w'=>v=Yp (HY g c s f).2/\Ay (gR R w w') B w' bs g c (HY g c s f).1/\Fr R w w':=by
 have G:=S.lo;have r:∃s' o,HY g c s f=(s',o):=⟨_,_,rfl⟩;obtain⟨s',o,hC⟩:=r
 have W:Dn f=none->Lo f=none->s'=s/\o=none:=λb y=>by
  unfold HY at hC;rw[b]at hC;dsimp only at hC;rw[y]at hC;cases hC;exact⟨rfl,rfl⟩
 have X:Dn f=none->∀id,Lo f=some id->s'=s/\o=some (Gr id 220 Dw):=λb id y=>by
  unfold HY at hC;rw[b]at hC;dsimp only at hC;rw[y]at hC;cases hC;exact⟨rfl,rfl⟩
 have Y:∀d,Dn f=some d->d.kind=4->s'=(DK s d.id).1/\o=some (Gr d.id (DK s d.id).2 Dw):=λd b y=>by
  unfold HY at hC;rw[b]at hC;dsimp only at hC;rw[if_pos y]at hC;cases hC;exact⟨rfl,rfl⟩
 have Z:∀d,Dn f=some d->d.kind≠4->((DW g c s d (Bt d.q g.n)).2=0/\s'=(DW g c s d (Bt d.q g.n)).1/\o=none)\/((DW g c s d (Bt d.q g.n)).2≠0/\s'=(DW g c s d (Bt d.q g.n)).1/\o=some (Gr d.id (DW g c s d (Bt d.q g.n)).2 Dw)):=λd b y=>by
  unfold HY at hC;rw[b]at hC;dsimp only at hC;rw[if_neg y]at hC;by_cases H:(DW g c s d (Bt d.q g.n)).2=0
  ·rw[if_pos H]at hC;cases hC;exact .inl ⟨H,rfl,rfl⟩
  ·rw[if_neg H]at hC;cases hC;have hs:=(CT.reg S).2.2.2;have r:=Ng (x:=d) hs (pN b).2.1;rcases r with⟨z,_⟩|⟨_,z⟩
   ·exact absurd z H
   ·exact .inr ⟨H,z.symm,rfl⟩
 rw[hC];dsimp only;refine eN ?_;refine EE (AA (zFf hf) ?_);rintro _ w1 ⟨⟨d,x,hr,rfl,O⟩|⟨I,rfl⟩,e1⟩
 case inr =>
  refine Ao λbx w2 n2 J=>rE J Sx λA t K _=>?_;have s3:AC w1 A:=n2.st K;clear J K;refine iT (by first|omega|decide|(dsimp only<;>omega)) (AA (zLD hf) ?_);rintro _ w4 ⟨⟨id,C,rfl⟩|⟨C,rfl⟩,e4⟩
  ·have r:=X I id C;obtain⟨rfl,rfl⟩:=r;refine AA fL ?_;rintro _ p ⟨rfl,e5⟩;exact⟨rfl,Ay.new (w':=p) S T⟩
  ·have r:=W I C;obtain⟨rfl,rfl⟩:=r;exact⟨rfl,Ay.new (w':=w4) S T⟩
 case inl =>
  have hd:=pN hr;refine Ao λbx w2 n2 J=>?_;have a1:=n2.lo (u:=w);refine rE J x λA t K _=>?_;have t:Bk A bx (enc x) 103:=t;have s3:AC w1 A:=n2.st K;clear J K;refine iF (· rfl) (AJ (cs:=[.func (.func 163) #[.pointer (some ⟨bs,0,none⟩)] #[]]) rfl (Ao λbd w4 n4 D4=>rS D4 [.func (.func 163) #[.pointer (some ⟨bs,0,none⟩)] #[]] (oO _ _ _) λp U f5 _=>?_));have U:Bk p bd [.func (.func 163) #[.pointer (some ⟨bs,0,none⟩)] #[]] 248:=U;have s5:AC A p:=n4.st f5;clear D4 f5;refine rX t rfl ?_;have hk:=O.2.1;refine ite (λz=>?_) (λz=>?_)
  ·refine AJ (cs:=[.func (.func 164) #[.pointer (some ⟨bs,0,none⟩)] #[]]) rfl (rS U [.func (.func 164) #[.pointer (some ⟨bs,0,none⟩)] #[]] (oO _ _ _) λF D6 f6 _=>?_);have D6:Bk F bd [.func (.func 164) #[.pointer (some ⟨bs,0,none⟩)] #[]] 248:=D6;have s6:AC A F:=⟨Fr.st (lE A p) f6 λi hi=>by subst hi;exact n4.lo⟩;refine rX D6 rfl (rG t x (AA (zIv (x:=x) (w0:=w) (w:=F) S T) ?_));rintro _ w7 ⟨rfl,V,E⟩;refine iT (xS s x.id) ?_;have X7:=(t.mv (w:=F)).fr E λh=>by have:=G _ h;omega
   refine rX X7 rfl (AA fL ?_);rintro _ L ⟨rfl,M⟩;obtain⟨rfl,rfl⟩:=Y d hr (by rw[<-hk];exact z);have hz:=E.size;have a0:=lz w F;rw[<-O.1];refine⟨rfl,?_,((fE w F).trans E).trans (fE w7 L)⟩;have l:=(CT.reg S).1
   exact CT.wide (Ay.up (w':=L) V) (λi hi=>hi.imp id λh=>by have:=M.e.size;omega) λi hi=>by
    rcases hi with hi|hi
    ·have:=l i hi;have:=M.e.size;omega
    ·omega
  ·refine rX U rfl (rG t x (AA (zJD (w0:=w) (w:=p) S T (NL.up (w':=p) O) hd) ?_));rintro _ w7 ⟨rfl,V,E⟩;have hz:=E.size;have a0:=lz w p;have Q:=(Fr.fr (D:=R) (lE w p)).trans E;have l:=(CT.reg S).1;have r:=Z d hr (by rw[<-hk];exact z);rcases r with⟨b,rfl,rfl⟩|⟨b,rfl,rfl⟩
   ·refine iF (· b) ?_;exact⟨rfl,V,Q⟩
   ·refine iT b ?_;have X7:=(t.mv (w:=p)).fr E λh=>by have:=G _ h;omega
    refine rX X7 rfl (AA fL ?_);rintro _ L ⟨rfl,M⟩;rw[<-O.1];refine⟨rfl,?_,Q.trans (fE w7 L)⟩
    exact CT.wide (Ay.up (w':=L) V) (λi hi=>hi.imp id λh=>by have:=M.e.size;omega) λi hi=>by
     rcases hi with hi|hi
     ·have:=l i hi;have:=M.e.size;omega
     ·omega
end
def KF (x:Mm):Prop:=(1<=x.workers/\x.workers<=16)/\(1<=x.slots/\x.slots<=64)/\(1<=x.queue/\x.queue<=1000)/\(1<=x.pool/\x.pool<=400)/\(1<=x.budget/\x.budget<=1000)
def MF (x:Mm):DP:=⟨x.workers.toNat,x.slots.toNat,x.queue.toNat,x.pool.toNat,x.budget.toNat⟩
theorem zP5{x:Mm}(h:KF x):Ki (MF x):=by
 unfold KF at h;refine⟨?_,?_,?_,?_,?_⟩<;>simp only[MF]<;>omega
section
variable {B B':Nat} {w w':World} {g:Al}
theorem Ch.low{b d size:Nat}{L:List AN}(h:Ch R B w b d size L)(c:B'<=B):Ch R B' w b d size L:=by
 obtain⟨f,ta,tc,ts,l,o,fr,p,st,q,m,t,h,T,M,C,Z⟩:=h;have u:=h.tab;obtain⟨g0,x,H,r⟩:=u;have y:=h.lo;exact⟨f,ta,tc,ts,l,o,fr,p,st,q,m,t,⟨⟨by omega,by omega,by omega⟩,h.cell,⟨Qw c g0,x,⟨H.cell,H.row.mono c,H.len,H.tab,H.bnd,H.may,H.zero⟩,r⟩,h.free,h.sts.mono c,h.map,λs v e=>⟨(h.rows s v e).1.mono c,(h.rows s v e).2⟩,h.empt,h.apart,h.apart2⟩,T,M,C,Z⟩
theorem EN.add{W c:Nat}{K:Hk}{f:Nat->Nat->Prop}{b q:Nat}{L:List AN}{Ls:Nat->List AN}(T:EN B w W K c f Ls)[Le w w'](S:Ch (λi=>w.heap.size<=i/\i<w'.heap.size) B w' b q c L)(t:Ls W=L):
  EN B w' (W+1) { K with sb:=λk=>if k=W then b else K.sb k,sg:=λk=>if k=W then q else K.sg k } c (GF f W λi=>w.heap.size<=i/\i<w'.heap.size) Ls:=by
 have r:=T.up (w':=w');have z:=lz w w';have e:∀{j},j<W->GF f W (λi=>w.heap.size<=i/\i<w'.heap.size) j=f j:=λ{j} h=>if_neg (by omega);have l:GF f W (λi=>w.heap.size<=i/\i<w'.heap.size) W=λi=>w.heap.size<=i/\i<w'.heap.size:=if_pos rfl;refine⟨λk j s u o i hi=>?_,λk s=>?_,λk s i hi=>?_⟩
 ·by_cases d:k=W
  ·subst d;rw[l]at hi;rw[e (show j<k by omega)];intro p;have:=T.lt j (by omega) i p;omega
  ·rw[e (show k<W by omega)]at hi;by_cases p:j=W
   ·subst p;rw[l];intro v;have:=T.lt k (by omega) i hi;omega
   ·rw[e (show j<W by omega)];exact T.dis k j (by omega) (by omega) o i hi
 ·by_cases d:k=W
  ·subst d;rw[l,t];simp only[if_true];exact S
  ·rw[e (show k<W by omega)];simp only[if_neg d];exact r.sto k (by omega)
 ·by_cases d:k=W
  ·subst d;rw[l]at hi;exact hi.2
  ·rw[e (show k<W by omega)]at hi;exact r.lt k (by omega) i hi
theorem zQZ(g:Al)(W n k:Nat):Er g W (List.replicate n none) k=[]:=by
 unfold Er Fl;rw[JA];intro x b;have c:=VP.1 b;obtain⟨j,_,h⟩:=c;rw[Qk,Vk]at h;split at h<;>cases h
def UK (bj jc:Nat) (xr:CQ) (r:List BO) (ws:SV) (wl:List ByteArray) (ps:List MQ):Hk:=⟨bj,jc,xr,r,ws,wl,ps,⟨none,0,0⟩,λ_=>0,λ_=>0⟩
theorem zJC{x:Mm}{f:U8}(hf:f.length<=4611686018427387904):
  Sp PP 53 #[agg x,Ae f] w λv w'=>((¬KF x/\v=.tuple #[.pointer none,.int .i64 1])\/(KF x/\Ef f=none/\v=.tuple #[.pointer none,.int .i64 30]) \/
   ∃g bs,KF x/\Ef f=some g/\v=.tuple #[.pointer (some ⟨bs,0,none⟩),.int .i64 0]/\Ay (λi=>w.heap.size<=i/\i<w'.heap.size) w.heap.size w' bs g (MF x) (Dr (MF x)))/\AC w w':=by
 obtain⟨xw,xs,xq,xp,xb⟩:=x;refine eN ?_;refine BM λbc w1 n1 H=>rX H rfl (AA (zK9 (n:=xs)) ?_);rintro _ w2 ⟨⟨v2,rfl,O2⟩,e2⟩;by_cases b4:xs<1\/64<xs
 ·have I:PU xs=([],1):=if_pos b4;rw[I]at O2 ⊢;refine iT (by first|omega|decide|(dsimp only<;>omega)) ?_;exact⟨.inl ⟨λh=>by have F:1<=xs/\xs<=64:=h.2.1;omega,rfl⟩,stp⟩
 have I:PU xs=(List.replicate xs.toNat Au,0):=if_neg b4;rw[I]at O2 ⊢;refine iF (· rfl) (rX H rfl (AA cQ ?_));rintro _ w3 ⟨⟨rfl,J⟩|⟨rfl,J⟩,rfl⟩
 case' inr=>exact⟨.inl ⟨λh=>J h.1,rfl⟩,stp⟩
 refine rX H rfl (AA cQ ?_);rintro _ w3 ⟨⟨rfl,M⟩|⟨rfl,M⟩,rfl⟩
 case' inr=>exact⟨.inl ⟨λh=>M h.2.2.1,rfl⟩,stp⟩
 refine rX H rfl (AA cQ ?_);rintro _ w3 ⟨⟨rfl,S⟩|⟨rfl,S⟩,rfl⟩
 case' inr=>exact⟨.inl ⟨λh=>S h.2.2.2.1,rfl⟩,stp⟩
 refine rX H rfl (AA cQ ?_);rintro _ w3 ⟨⟨rfl,V⟩|⟨rfl,V⟩,rfl⟩
 case' inr=>exact⟨.inl ⟨λh=>V h.2.2.2.2,rfl⟩,stp⟩
 have J:1<=xw/\xw<=16:=J;have M:1<=xq/\xq<=1000:=M;have S:1<=xp/\xp<=400:=S;have V:1<=xb/\xb<=1000:=V;have X:KF ⟨xw,xs,xq,xp,xb⟩:=⟨J,by dsimp only;omega,M,S,V⟩;have b5:=zP5 X;have q:=QU (show(0:Int)<=xw by omega);obtain⟨W,rfl⟩:=q;have q:=QU (show(0:Int)<=xs by omega);obtain⟨N,rfl⟩:=q;have q:=QU (show(0:Int)<=xq by omega);obtain⟨Q,rfl⟩:=q;have q:=QU (show(0:Int)<=xp by omega);obtain⟨P,rfl⟩:=q;have q:=QU (show(0:Int)<=xb by omega);obtain⟨U,rfl⟩:=q;have H:Bk w1 bc [.int .i64 (W:Int),.int .i64 (N:Int),.int .i64 (Q:Int),.int .i64 (P:Int),.int .i64 (U:Int)] 93:=H;have b6:MF ⟨W,N,Q,P,U⟩=⟨W,N,Q,P,U⟩:=by simp[MF]
 rw[b6]at b5;rw[QW]at O2;have q:=O2.shape;obtain⟨a2,c2,rfl⟩:=q;have d1:(List.replicate N Au).length=N:=by simp
 refine AA (zIf hf) ?_;rintro _ w4 ⟨⟨g,gx,vs,a0,rfl,V4⟩|⟨a0,rfl⟩,e4⟩
 case' inr =>
  refine Ao λbg w5 n5 G5=>rS G5 (enc MM) (AL.one _) λw6 G6 f6 _=>?_;have s6:AC w4 w6:=n5.st f6;clear G5 f6;refine iT (by first|omega|decide|(dsimp only<;>omega)) ?_;exact⟨.inr (.inl ⟨X,a0,rfl⟩),stp⟩
 have a8:=zOY a0;refine Ao λbg w5 n5 G5=>rS G5 (enc gx) (AL.one _) λw6 G6 f6 _=>?_;have G6:Bk w6 bg (enc gx) 35:=G6;have s6:AC w4 w6:=n5.st f6;clear G5 f6;refine iF (· rfl) (dQ 8 λw7 e7=>tG H (⟨W,N,Q,P,U⟩:Mm) nf (tX H rfl nf (IX PB rfl rfl (by omega) λs w8 OJ s8 f2=>⟨s8.e,?_⟩)));refine Aq (cs:=Im ⟨W,N,Q,P,U⟩ (UK s N ⟨⟨none,0,0⟩,⟨none,0,0⟩,⟨none,0,0⟩,⟨none,0,0⟩⟩ [] ⟨none,0,0⟩ [] []) ⟨none,0,0⟩ ⟨a2,(List.replicate N Au).length,c2⟩) (by rw[d1];rfl) (BM λbs w9 n9 S9=>⟨n9.e,?_⟩);have b1:=n1.b;have l1:=n1.lt;have b9:=n9.b;have l9:=n9.lt;have z8:=lz w w8;have f5:=lz w w7
 have f0:s<bs:=by
  have F:=OJ.lt (by intro h;have:=congrArg List.length h;simp at this;omega);obtain⟨gq,F,_,h3⟩:=F;have h4:s=gq:=QL F;omega
 refine rG G6 gx (AA (pK (V4.up (w':=w9)) a8) ?_);rintro _ b7 ⟨⟨y,r,rfl,RO⟩,d2⟩;refine Ao λbr f7 b8 c0=>rS c0 (enc y) (AL.one _) λa1 a9 c1 _=>?_;have a9:Bk a1 br (enc y) 82:=a9;have f8:AC b7 a1:=b8.st c1;have f9:=b8.lo (u:=w9);clear c0 c1;refine rG G6 gx (AA (zHK (V4.up (w':=a1)) a8) ?_);rintro _ o ⟨⟨pa,pc,ps,wl,rfl,PM,_,d3,OP,c4⟩,d4⟩;refine rG a9 y ?_;have g0:=d2.e.size;have g2:=lz b7 a1;have g4:=d4.e.size;refine rS S9 (enc y) (AL.one _) λg5 c5 d5 _=>rS c5 [.slice pa ps.length pc] (Gp _ _ _) λd a4 d6 _=>?_;have q:∃K:Hk,K=UK s N y r ⟨pa,ps.length,pc⟩ wl ps:=⟨_,rfl⟩;obtain⟨K,hK⟩:=q
 have a4:Bk d bs (Im ⟨W,N,Q,P,U⟩ K ⟨none,0,0⟩ ⟨a2,(List.replicate N Au).length,c2⟩) 158:=by
  rw[hK];exact a4
 clear c5 S9;have z:Fr (λi=>i=bs) o d:=d5.trans d6;have g6:=z.size;have g7:AC w8 d:=⟨Fr.st (lE w8 o) z λi hi=>by omega⟩;refine rX H rfl ?_
 refine cN 82 [4,5,14,15] 82 W (λj u=>∃(wa:OA) (wc:Nat) (sb sg:Nat->Nat) (E:Nat->Nat->Prop),
   AD w.heap.size 161 u (.slice wa j wc) ((List.range j).map λk=>(⟨sb k⟩:KX)) /\
   Bk u bs (Im ⟨W,N,Q,P,U⟩ { K with wk:=⟨wa,j,wc⟩ } ⟨none,0,0⟩ ⟨a2,(List.replicate N Au).length,c2⟩) 158 /\
   EN w.heap.size u j { K with sb:=sb,sg:=sg } P E (λ_=>[])/\(∀k,k<j->∀i,E k i->d.heap.size<=i) /\
   (∀b,Value.blk (.slice wa j wc)=some b->d.heap.size<=b/\b<u.heap.size/\∀k,k<j->¬E k b)/\Fr (λi=>i=bs) d u)
  ⟨none,0,λ_=>0,λ_=>0,λ_ _=>False,AD.nil _ _ _,by rw[hK]at a4 ⊢;exact a4,⟨λk j p=>by omega,λk p=>by omega,λk p=>by omega⟩,(λk p=>by omega),(λb hb=>by cases hb),Fr.refl _ _⟩ ?_
 rintro j G u hj ⟨wa,wc,sb,sg,E,OW,Su,T,a5,Y,f⟩;have zu:=f.size;have su:AC w8 u:=⟨Fr.st (lE w8 d) f λi hi=>by omega⟩;refine ite (λBS=>?_) (λd7=>?_)
 ·have d8:j<W:=Int.ofNat_lt.1 BS;refine rX H rfl (AA (zLf (size:=(P:Int))) ?_);rintro _ u1 ⟨⟨g8,_⟩|⟨N',b,gs,g9,_,_,rfl,SN⟩,e1⟩
  ·omega
  have q:P=N':=by omega
  obtain rfl:=q;have z1:=e1.e.size;refine iF (· rfl) (rX Su rfl (bS (⟨b⟩:KX) λb2 u2 n2 _ S2=>?_));have z2:=n2.e.size;refine Fy ⟨rfl,rfl⟩ (OW.up (w':=u2)) S2 (by simp) (by omega) (by simp;omega) λv3 u3 O3 f3 a6=>?_;have a6:Value.blk v3=Value.blk (.slice wa j wc)\/Value.blk v3=some u2.heap.size:=a6;have f3:Fr (AV w.heap.size (.slice wa j wc)) u2 u3:=f3;have z3:=f3.size;have hv:∀b,AV w.heap.size (.slice wa j wc) b->d.heap.size<=b/\b<u.heap.size/\∀k,k<j->¬E k b:=λb hb=>Y b hb.2.1;have f1:bs<d.heap.size:=by omega
  have c6:=(Su.mv (w:=u2)).fr f3 λh=>by have:=hv _ h;omega
  have d9:((List.range j).map (λk=>(⟨sb k⟩:KX))++[(⟨b⟩:KX)]).length=j+1:=by simp
  have e0:∃a c,v3=.slice a (j+1) c:=by
   have h:=O3.shape;rw[d9]at h;exact h
  obtain⟨a3,c3,c7⟩:=e0;subst c7;refine rS c6 [.slice a3 (j+1) c3] (Gp _ _ _) λu4 S4 f4 _=>?_;have S4:Bk u4 bs (Im ⟨W,N,Q,P,U⟩ { K with wk:=⟨a3,j+1,c3⟩ } ⟨none,0,0⟩ ⟨a2,(List.replicate N Au).length,c2⟩) 158:=S4;have z4:=f4.size
  have b0:∀t,Value.blk (.slice a3 (j+1) c3)=some t->d.heap.size<=t/\t<u3.heap.size/\(∀k,k<j->¬E k t)/\¬(u.heap.size<=t/\t<u1.heap.size):=λt A=>by
   have q:=O3.lt (by simp);obtain⟨gq,g1,_,g3⟩:=q;rw[A]at g1;cases g1;rcases a6 with h|h
   ·rw[A]at h;have:=Y t h.symm;exact⟨this.1,g3,this.2.2,by omega⟩
   ·rw[A]at h;cases h;exact⟨by omega,g3,λk p h2=>by have:=T.lt k p _ h2;omega,by omega⟩
  have k1:AD w.heap.size 161 u4 (.slice a3 (j+1) c3) ((List.range (j+1)).map λk=>(⟨(λk=>if k=j then b else sb k) k⟩:KX)):=by
   have e:((List.range (j+1)).map λk=>(⟨(λk=>if k=j then b else sb k) k⟩:KX))=(List.range j).map (λk=>(⟨sb k⟩:KX))++[(⟨b⟩:KX)]:=by
    rw[Jm,QB];congr 1
    ·apply Ja;intro k p;have:=Q0.1 p;dsimp only;rw[if_neg (by omega)]
    ·simp
   rw[e];exact O3.fr f4 λt _ A h=>by have:=b0 t A;omega
  have T1:=(EN.add (L:=[]) (Ls:=λ_=>[]) T (SN.low (by omega)) rfl)
  have T4:EN w.heap.size u4 (j+1) { K with sb:=λk=>if k=j then b else sb k,sg:=λk=>if k=j then gs else sg k } P (GF E j λi=>u.heap.size<=i/\i<u1.heap.size) (λ_=>[]):=by
   refine((T1.up (w':=u2)).away f3 λk p i hi h=>?_).away f4 λk p i hi h=>?_
   ·have h5:=hv i h;unfold GF at hi;split at hi
    ·omega
    ·exact h5.2.2 k (by omega) hi
   ·unfold GF at hi;split at hi
    ·omega
    ·have:=a5 k (by omega) i hi;omega
  have k4:∀k,k<j+1->∀i,GF E j (λi=>u.heap.size<=i/\i<u1.heap.size) k i->d.heap.size<=i:=λk p i hi=>by
   unfold GF at hi;split at hi
   ·omega
   ·exact a5 k (by omega) i hi
  have k5:∀t,Value.blk (.slice a3 (j+1) c3)=some t->d.heap.size<=t/\t<u4.heap.size/\∀k,k<j+1->¬GF E j (λi=>u.heap.size<=i/\i<u1.heap.size) k t:=λt A=>by
   have h5:=b0 t A;refine⟨h5.1,by omega,λk p hi=>?_⟩;unfold GF at hi;split at hi
   ·exact h5.2.2.2 hi
   ·exact h5.2.2.1 k (by omega) hi
  have k6:Fr (λi=>i=bs) d u4:=(f.join ((Fr.fr (D:=AV w.heap.size (.slice wa j wc)) (lE u u2)).trans f3) (λ_ _ h=>h) λi hi h=>by have:=hv i h;omega).trans f4;clear O3 f3 a6 hv b0 T1 c6 OW;exact rA ⟨rfl,d8,a3,c3,_,_,_,k1,S4,T4,k4,k5,k6⟩
 ·have e3:j=W:=by have h5:=Int.ofNat_le.1 (Int.not_lt.1 d7);exact Nat.le_antisymm hj h5
  subst e3
  have hR:∀{C:Nat},w.heap.size<=C->∀{a7:Nat},a7<=d.heap.size->(∀i,C<=i->i<a7->¬i=bs/\¬i=s)->∀i,C<=i->i<a7->(w.heap.size<=i/\i<u.heap.size)/\¬Cq bs s j E i:=λ{C} hC {a7} hl hn i F h2=>by
   refine⟨by omega,λh=>?_⟩;rcases h with h|h|⟨k,p,h⟩
   ·exact(hn i F h2).1 h
   ·exact(hn i F h2).2 h
   ·have:=a5 k p i h;omega
  have h0:K.bj=s:=by rw[hK];rfl
  have Z:Fr (λi=>i=bs) o u:=z.trans f
  have BT:∀{α:Type} [AL α] {e:TypeId} {C:Nat} {v:Value} {l:List α} {u0:World},AD C e u0 v l->Le w9 u0->u0.heap.size<=o.heap.size->w9.heap.size<=C->AD C e o v l->Fz (Cq bs s j E) (λi=>w.heap.size<=i/\i<u.heap.size) u λu=>AQ u v l:=λ{α _ e C v l u0} O L0 hz hC b3 =>
   O.fzB (b3.fr Z λb hb _ h=>by omega).sl (hR (by omega) (by omega) λi F h2=>by omega)
  have c8:=BT RO.off inferInstance (by omega) (Qe _) (RO.off.up (w':=o));have e5:=BT RO.to inferInstance (by omega) (Qe _) (RO.to.up (w':=o));have c9:=BT RO.rof inferInstance (by omega) (Qe _) (RO.rof.up (w':=o));have d0:=BT RO.rev inferInstance (by omega) (Qe _) (RO.rev.up (w':=o));have e6:=BT OP inferInstance (Qe _) (by omega) OP;have e8:∀i (h:i<ps.length) (h':i<wl.length),Fz (Cq bs s j E) (λi=>w.heap.size<=i/\i<u.heap.size) u λu=>AQ u ps[i].pl.v (Fk g wl[i]):=λi h h'=>BT (c4 i h h') inferInstance (Qe _) (by omega) (c4 i h h')
  have e9:Fz (Cq bs s j E) (λi=>w.heap.size<=i/\i<u.heap.size) u λu=>AQ u (.slice a2 (List.replicate N Au).length c2) (List.replicate N Au):=by
   have z2:=lz w3 w7
   have b3:=((O2.up (w':=o)).fr Z λb _ hb h=>by
    obtain⟨gq,g1,_,g3⟩:=O2.lt (by intro h;have:=congrArg List.length h;simp at this;omega);rw[hb]at g1;cases g1;omega)
   exact O2.fzB b3.sl (hR (by have:=lz w w1;omega) (by omega) λi F h2=>by omega)
  have Ju:AD w.heap.size 258 u (.slice (some ⟨s,0,none⟩) N N) (List.replicate N PB):=((OJ.up (w':=o)).fr Z λb _ hb h=>by
   have:s=b:=QL hb;omega).mono (by omega)
  refine⟨.inr (.inr ⟨g,bs,X,a0,rfl,?_⟩),stp⟩;rw[b6];refine⟨{ K with wk:=⟨wa,j,wc⟩,sb:=sb,sg:=sg },⟨none,0,0⟩,⟨a2,(List.replicate N Au).length,c2⟩,[],List.replicate N Au,List.replicate N PB,E,?_⟩;subst hK;refine⟨λi hi=>hi,by omega,?_,?_,λk p i hi=>?_,Su,Ju,⟨T.dis,λk p=>by rw[show(Dr ⟨j,N,Q,P,U⟩).held=List.replicate N none from rfl,zQZ];exact T.sto k p,T.lt⟩,λu' f'=>?_,a8,b5,d3,UX g _⟩
  ·show w.heap.size<=s/\s<u.heap.size;omega
  ·show bs≠s;omega
  ·have F:=a5 k p i hi;have h2:=T.lt k p i hi;exact⟨by omega,by omega,by show i≠s;omega⟩
  ·refine⟨⟨RO.rev',c8 u' f',e5 u' f',c9 u' f',d0 u' f'⟩,⟨PM.ris,PM.all,PM.len,λi h h'=>⟨(PM.at' i h h').1,e8 i h h' u' f'⟩⟩,e6 u' f',OW.sl.fr f' λb hb hd=>?_,AQ.nil _,e9 u' f',rfl,λi h=>absurd h (Nat.not_lt_zero _),by simp[Dr],by simp[Dr],λk h h'=>?_⟩
   ·have F:=Y b hb;rcases hd with hd|hd
    ·rcases hd with hd|hd|⟨k,p,hd⟩
     ·omega
     ·have hd:b=s:=hd;omega
     ·exact F.2.2 k p hd
    ·exact hd ⟨by omega,F.2.1⟩
   ·have e:(Dr ⟨j,N,Q,P,U⟩).held.getD k none=none:=by
     show(List.replicate N none).getD k none=none;rw[Qk,Vk];split<;>rfl
    rw[e];show((List.replicate N Au)[k]).used=false;simp[Au]
end


section
variable {R R' R2:Nat->Prop} {B B2:Nat} {u u' w w':World} {bs bt:Nat} {g:Al} {c:DP} {s t:EV}
theorem Ay.ok(S:Ay R B w bs g c s):Bb g/\Ki c/\Db g c s:=(CT.reg S).2
theorem zPM(S:Ay R B w bs g c s):((Ew g c s).2).length<=64:=by
 have d:=S.ok;obtain⟨_,b,h⟩:=d;have f:=qJ (g:=g) (c:=c) (Ar (BQ s.wait s.held).2) (BQ s.wait s.held).2;have l:(Ar (BQ s.wait s.held).2).length<=(BQ s.wait s.held).2.length:=cK _ _;have e:=(iV b s.wait s.held h).1.len;have o:=b.slots.2;dsimp only at e;show(BJ g c _ _).2.length<=64;omega
end
theorem zOQ{x:CG}{l:List AG}(h:BE x l):(DF x l).length<=1100:=by grind[BE,DF,uF,Uk,List.length_cons,List.length_nil,List.length_append]
theorem iW{p:Int×Int×Gj}(h:BE (BC p.1 p.2.1 p.2.2) p.2.2.hits):GK p=DF (BC p.1 p.2.1 p.2.2) p.2.2.hits:=if_pos h
theorem zOD{p:Int×Int×Gj}(h:BE (BC p.1 p.2.1 p.2.2) p.2.2.hits):(GK p).length<=1100:=by
 rw[iW h];exact zOQ h
theorem yX{p:Int×Int×Gj}(h:BE (BC p.1 p.2.1 p.2.2) p.2.2.hits):Sp PP 112 #[Ae (GK p)] w λv w'=>(∃x:CG,v=.tuple #[agg x,.int .i64 0]/\x.id=p.1/\x.code=p.2.1/\x.a.found=p.2.2.found/\x.a.num=p.2.2.num/\AD w.heap.size 142 w' (.slice x.a.s.a x.a.s.n x.a.s.c) p.2.2.hits)/\AC w w':=by
 have f:=zOD h;refine(zGf (by omega)).mono λv w' ⟨q,e⟩=>⟨?_,e⟩;rcases q with⟨x,l,b,h5,rfl,O⟩|⟨b,_⟩
 ·rw[iW h]at h5;have d:=zOP (Tl.of b) (Tl.of h) h5;injection d with i1 i2 i3 i4 i5;subst i5;exact⟨x,rfl,i1,i2,i3,i4,O⟩
 ·exact absurd (iW h).symm (b _ _ h)
section
variable {R R':Nat->Prop} {B:Nat} {w w':World}
end
open Go Go.Proofs Go.RowKit
abbrev Na (e:Int):List PanicEntry:=[{ v:=.iface 24 (.int .i64 e),recovered:=false }]
theorem TY{e:Int}:Ep PP 42 #[.int .i64 e] w (λ_ w'=>e=0/\w'=w) (λc w'=>e≠0/\c=Na e/\w'=w):=by
 refine HI Ab rfl ?_;refine ite (λh=>?_) (λh=>?_)
 ·refine Hp ?_;exact FA ⟨h,rfl,rfl⟩
 ·exact⟨by omega,rfl⟩
theorem YH:Sp PP 42 #[.int .i64 0] w λ_ w'=>w'=w:=by
 refine eN ?_;refine iF (· rfl) ?_;exact rfl
theorem oR{v:Value}:Sp PP 54 #[v,.int .i64 0] w λr w'=>r=v/\w'=w:=by
 refine eN ?_;refine AA YH ?_;rintro _ _ rfl;exact⟨rfl,rfl⟩
theorem zNc{v:Value}{e:Int}:Ep PP 54 #[v,.int .i64 e] w (λr w'=>e=0/\r=v/\w'=w) (λc w'=>e≠0/\c=Na e/\w'=w):=by
 refine HI Ab rfl ?_;refine AO TY ?_ ?_
 ·rintro _ _ ⟨h,rfl⟩;exact⟨h,rfl,rfl⟩
 ·rintro _ _ ⟨h,rfl,rfl⟩;exact⟨h,rfl,rfl⟩
theorem uX{v:Value}{e:Int}:Ep PP 52 #[v,.int .i64 e] w (λr w'=>e=0/\r=v/\w'=w) (λc w'=>e≠0/\c=Na e/\w'=w):=by
 refine HI Ab rfl ?_;refine AO TY ?_ ?_
 ·rintro _ _ ⟨h,rfl⟩;exact⟨h,rfl,rfl⟩
 ·rintro _ _ ⟨h,rfl,rfl⟩;exact⟨h,rfl,rfl⟩
theorem zNK{x:Fa}{e:Int}:Ep PP 43 #[agg x,.int .i64 e] w (λr w'=>e=0/\r=agg x/\AC w w') (λc w'=>e≠0/\c=Na e/\AC w w'):=by
 refine HI Ab rfl ?_;refine BM λt w1 n1 d=>Ao λf v n2 l=>?_;have o:=n2.lo (u:=w);refine AO TY ?_ ?_
 ·rintro _ p ⟨h,rfl⟩;refine rG d x (rE l x λq b s _=>?_);have b:Bk q f (enc x) 35:=b;refine AR (B:=b) rfl ?_;exact⟨h,rfl,⟨Fr.st (lE w p) s λi hi=>by omega⟩⟩
 ·rintro _ _ ⟨h,rfl,rfl⟩;exact⟨h,rfl,stp⟩
theorem iA{x:Fa}:Sp PP 43 #[agg x,.int .i64 0] w λr w'=>r=agg x/\AC w w':=by
 refine eN ?_;refine BM λp w1 n1 c=>Ao λd q n2 e=>?_;have f:=n2.lo (u:=w);refine AA YH ?_;rintro _ h rfl;refine rG c x (rE e x λl b o _=>?_);have b:Bk l d (enc x) 35:=b;refine AR (B:=b) rfl ?_;exact⟨rfl,⟨Fr.st (lE w h) o λi hi=>by omega⟩⟩
theorem zNN{x:CQ}:Sp PP 82 #[agg x,.int .i64 0] w λr w'=>r=agg x/\AC w w':=by
 refine eN ?_;refine BM λp w1 n1 c=>Ao λd q n2 e=>?_;have f:=n2.lo (u:=w);refine AA YH ?_;rintro _ h rfl;refine rG c x (rE e x λl b o _=>?_);have b:Bk l d (enc x) 82:=b;refine AR (B:=b) rfl ?_;exact⟨rfl,⟨Fr.st (lE w h) o λi hi=>by omega⟩⟩
theorem zNM{x:CG}:Sp PP 111 #[agg x,.int .i64 0] w λr w'=>r=agg x/\AC w w':=by
 refine eN ?_;refine BM λp w1 n1 c=>Ao λd q n2 e=>?_;have f:=n2.lo (u:=w);refine AA YH ?_;rintro _ h rfl;refine rG c x (rE e x λl b o _=>?_);have b:Bk l d (enc x) 173:=b;refine AR (B:=b) rfl ?_;exact⟨rfl,⟨Fr.st (lE w h) o λi hi=>by omega⟩⟩
theorem xZ(a b:OA)(n m c d:Nat):∀u∈[Value.slice a n c,.slice b m d],u.oneCell'=true:=by intro u e;simp at e;rcases e with rfl|rfl<;>rfl
theorem zNL{b:OA}{c d:Nat}:Sp PP 50 #[.agg #[.slice a n c,.slice b m d],.int .i64 0] w λr w'=>r=.agg #[.slice a n c,.slice b m d]/\AC w w':=by
 refine eN ?_;refine BM λh w1 n1 e=>Ao λl v n2 o=>?_;have e:Bk w1 h [.slice a n c,.slice b m d] 88:=e;have p:=n2.lo (u:=w);refine AA YH ?_;rintro _ q rfl;refine Cn (ds:=[.slice a n c,.slice b m d]) (B:=e) rfl rfl (rS o [.slice a n c,.slice b m d] (xZ _ _ _ _ _ _) λs f t _=>?_);have f:Bk s l [.slice a n c,.slice b m d] 88:=f;refine AR (B:=f) rfl ?_;exact⟨rfl,⟨Fr.st (lE w q) t λi hi=>by omega⟩⟩
class Ra (P:Program) (t:TypeId):Prop where
 h:∃m,P.underlying t=some (.interface m)
section
variable {P:Program} {k:KW} {pn:PW} {w:World}
theorem zHc(d:Nat){t:TypeId}{m:Array (String×TypeId)}(b:P.underlying t=some (.interface m))(w:World):(Op.equalIn (d+1) t .nilIface .nilIface).run P w=.ok true w:=by
 simp[Op.equalIn,run_underlying b]
theorem zGk(d:Nat){t b:TypeId}{v:Value}{m:Array (String×TypeId)}(c:P.underlying t=some (.interface m))(w:World):(Op.equalIn (d+1) t (.iface b v) .nilIface).run P w=.ok false w:=by
 simp[Op.equalIn,run_underlying c]
theorem zPt{t:TypeId}(b:Ra P t){X:Operand}{c:Value}(w:World):(do eqGuard .eql t X (.const c) .nilIface .nilIface;binOp .eql t .nilIface .nilIface:Sem Value).run P w=.ok (.bool true) w:=by
 have d:=b.h;obtain⟨e,f⟩:=d
 have g:(eqGuard .eql t X (.const c) .nilIface .nilIface).run P w=.ok () w:=by
  unfold eqGuard;cases X<;>rfl
 rw[Qo,g,Qh];simp only[binOp];rw[Qo]
 have:(Op.equal t .nilIface .nilIface).run P w=.ok true w:=by
  exact zHc 9999 f w
 rw[this];rfl
theorem wX{t b:TypeId}{v:Value}(c:Ra P t){X Y:Operand}(w:World):(do eqGuard .eql t X Y (.iface b v) .nilIface;binOp .eql t (.iface b v) .nilIface:Sem Value).run P w=.ok (.bool false) w:=by
 have d:=c.h;obtain⟨e,f⟩:=d;have g:(eqGuard .eql t X Y (.iface b v) .nilIface).run P w=.ok () w:=rfl;rw[Qo,g,Qh];simp only[binOp];rw[Qo]
 have:(Op.equal t (.iface b v) .nilIface).run P w=.ok false w:=by
  exact zGk 9999 f w
 rw[this];rfl
theorem Zi{t:TypeId}[b:Ra P t]{X:Operand}{c:Value}(d:k (.bool true) w):AI P (do eqGuard .eql t X (.const c) .nilIface .nilIface;binOp .eql t .nilIface .nilIface) k pn w:=AI.of (zPt b w) d
theorem WO{t b:TypeId}{v:Value}[c:Ra P t]{X Y:Operand}(d:k (.bool false) w):AI P (do eqGuard .eql t X Y (.iface b v) .nilIface;binOp .eql t (.iface b v) .nilIface) k pn w:=AI.of (wX c w) d
theorem Yz{n:Int}(b:∀m:Int,(-9223372036854775807<=n/\n<=9223372036854775807->m = -n)->k (.int .i64 m) w):AI P (Op.unary .neg (.int .i64 n)) k pn w:=by
 refine AI.of (v:=.int .i64 (IntKind.i64.wrap (0 - n))) (w':=w) rfl (b _ λh=>?_);rw[Se (by omega) (by omega)];omega
end
instance:Ra PP 48:=⟨(match PP.underlying 48 with|some (.interface m)=>m|_=>#[]),by kernel_rfl⟩
def Un (f:Tx->Option Int) (s:Tx) (v:Value):Prop:=∃n b,v=.tuple #[.int .i64 n,.bool b]/\(b=true->f s=some n)/\(b=false->f s=none)
theorem zO3{s:Tx}(h:∀n,Lib.atoiAll s≠.ok n):Bv s=none:=by
 unfold Bv;split
 ·rename_i v b;exact absurd b (h v)
 ·rfl
theorem zQl{s:Tx}{n:Int}(h:Lib.atoiAll s=.ok n):Bv s=if 0<=n/\n<=1000000/\s.length<=7/\Lib.itoa n=s then some n else none:=by
 unfold Bv;rw[h]
theorem jQ{s:Tx}(G:HX w)(f:s.length<=1000000):Sp PP 68 #[Ae s] w λv w'=>Un Bv s v/\AC w w':=by
 have q:=AM s;refine eN ?_;refine AA (zHZ G f) ?_;rintro _ w1 ⟨⟨n,b,rfl⟩|⟨b,m,t,p,rfl⟩,r⟩
 ·refine Zi ?_;have hd:=zQl b;have no:¬(0<=n/\n<=1000000/\s.length<=7/\Lib.itoa n=s)->Un Bv s (.tuple #[.int .i64 n,.bool false]):=λh=>⟨n,false,rfl,(λe=>nomatch e),λ_=>by rw[hd,if_neg h]⟩;refine ite (λc=>?_) (λc=>⟨no (by omega),stp⟩);refine ite (λd=>?_) (λd=>⟨no (by omega),stp⟩);refine ite (λl=>?_) (λl=>⟨no (by omega),stp⟩);refine AA (Sz G.up (n:=n) (by omega)) ?_;rintro _ u ⟨rfl,x⟩;refine DJ (λh=>?_) (λh=>?_)
  ·exact⟨⟨n,true,rfl,λ_=>by rw[hd,if_pos ⟨c,d,by omega,SC h⟩],(λe=>nomatch e)⟩,stp⟩
  ·exact⟨no (λo=>h (by rw[o.2.2.2])),stp⟩
 ·refine WO ?_;exact⟨⟨m,false,rfl,(λe=>nomatch e),λ_=>zO3 b⟩,stp⟩
theorem zJ4{s:Tx}(G:HX w)(q:s.length<=1000000):Sp PP 69 #[Ae s] w λv w'=>Un Do s v/\AC w w':=by
 refine eN ?_;refine AA (fX (s:=s) (p:=[45])) ?_;rintro _ _ ⟨⟨f,rfl⟩|⟨f,rfl⟩,rfl⟩
 ·refine AA (jQ (s:=s.drop 1) G (by rw[QR];omega)) ?_;rintro _ w1 ⟨⟨n,b,rfl,c,d⟩,r⟩
  have hd:Do s=(match Bv (s.drop 1) with
   |some n=>if 0<n then some (-n) else none
   |none=>none):=if_pos f
  refine Yz λm l=>?_
  cases b with
  |false =>
   exact⟨⟨m,false,rfl,(λe=>nomatch e),λ_=>by rw[hd,d rfl]⟩,stp⟩
  |true =>
   have o:=c rfl;have u:=U7 o;have l:=l (by omega);refine ite (λt=>?_) (λt=>?_)
   ·exact⟨⟨m,true,rfl,λ_=>by rw[hd,o];dsimp only;rw[if_pos (by omega),l],(λe=>nomatch e)⟩,stp⟩
   ·exact⟨⟨m,false,rfl,(λe=>nomatch e),λ_=>by rw[hd,o];dsimp only;rw[if_neg (by omega)]⟩,stp⟩
 ·refine AA (jQ (s:=s) G q) ?_;rintro _ w1 ⟨⟨n,b,rfl,c,d⟩,r⟩;have hd:Do s=Bv s:=if_neg f;exact⟨⟨n,b,rfl,λh=>by rw[hd];exact c h,λh=>by rw[hd];exact d h⟩,stp⟩
open Go
section
variable {P:Program} {k:KW} {pn:PW} {w:World}
theorem zNs{t e:TypeId}{zero:List Value}{sz:Nat}(l:MK P t N e)(c:(P.info? t).bind (·.zero)=some (.agg zero.toArray))(d:(P.info? e).map (·.size)=some sz){b:List (Nat×Value)}{cs:List Value}
  (o:Hl (λi=>some (i*sz,sz)) zero b=some cs)(w:World):(Instr.build t b.toArray).run P w=.ok (.agg cs.toArray) w:=by
 obtain⟨i,hi,c⟩:=Option.bind_eq_some_iff.1 c;obtain⟨j,p,d⟩:=Vo.1 d;have f:=kF _ b zero cs o;simp only[Instr.build,zeroValue,sizeOf,typeInfo,underlying,Qo,run_program,Qh,hi,p,d,c,Jd,l.h,Value.cells,f]
theorem TH{t e:TypeId}{zero:List Value}{sz:Nat}[c:MK P t N e](d:(P.info? t).bind (·.zero)=some (.agg zero.toArray))(f:(P.info? e).map (·.size)=some sz){b:List (Nat×Value)}{cs:List Value}
  (h:Hl (λi=>some (i*sz,sz)) zero b=some cs)(l:k (.agg cs.toArray) w):AI P (Instr.build t b.toArray) k pn w:=AI.of (zNs c d f h w) l
end
section
variable {α:Type} [AL α] {P:Program} {k:KW} {pn:PW} {w:World}
theorem x6{t ty e:TypeId}{z:Value}{sz q:Nat}(I:DU P t e)(W:AX P e z sz q)(J:AL.sz α=sz){v x:Value}{l m:List α}
  (G:AD B e w v l)(X:AQ w x m)(r:m≠[])(hb:(l.length+m.length)*q<=140737488355328)(S:l.length+m.length<=maxLen){p:Value}(h:(Builtin.append_ #[t,t] ty #[v,x]).run P w=.ok p w'):
  Value.blk p=Value.blk v\/(Value.blk p=some w.heap.size/\Bn w w'):=by
 obtain⟨i,hi,T,s,y⟩:=info_parts W.h;subst J;obtain⟨xa,A,rfl,Y,K⟩:=X;rcases K with K|⟨b,o,rfl,L⟩
 ·exact absurd K r
 have c:∀j u,(Ad m)[j]? = some u->w.cell? ((⟨b,o,none⟩:Addr).add j)=some u:=λj u M=>by rw[OY];exact L j u M
 have H:(Ad m).length=m.length*AL.sz α:=Kc m;have U:0<m.length:=JI.2 r;have Z:m.length<=maxLen:=by omega
 have V:Bn w w.drew:=⟨rfl,rfl,rfl,Qe _,λ_ _ _=>rfl,λ_ _ h _=>h⟩
 have nil:(Builtin.append_ #[t,t] ty #[.slice none 0 0,.slice (some ⟨b,o,none⟩) m.length A]).run P w=.ok p w'->l.length=0->Value.blk p=some w.heap.size/\Bn w w':=λh h0=>by
  have C:=run_append_nil (P:=P) w t ty e i z I.h hi T ⟨b,o,none⟩ m.length A (Ad m) (by rw[H,s]) c (by omega) (by simp only[maxLen]at S;omega) (by rw[y];have hb:=hb;rw[h0,JO]at hb;omega);rw[C]at h;cases h;exact⟨rfl,V.t (Bn.alloc w.drew _)⟩
 have f:∀(a:Addr) (n cap:Nat) (xs:List Value),xs.length=n*i.size->(∀j u,xs[j]? = some u->w.cell? (a.add j)=some u)->cap<n+m.length->n=l.length ->
   (Builtin.append_ #[t,t] ty #[.slice (some a) n cap,.slice (some ⟨b,o,none⟩) m.length A]).run P w=.ok p w'->Value.blk p=some w.heap.size/\Bn w w':=λa n cap xs h1 h2 h3 h4 h=>by
  subst h4
  have C:=run_append_grow (P:=P) w t ty e i z I.h hi T a l.length cap xs h1 h2 ⟨b,o,none⟩ m.length A (Ad m) (by rw[H,s]) c (by omega) (by simp only[maxLen]at S;omega)
   (by rw[y];exact growslice_fits (by omega) hb)
  rw[C]at h;cases h;exact⟨rfl,V.t (Bn.alloc w.drew _)⟩
 rcases G with⟨rfl,a,rfl⟩|G
 ·cases a with
  |none=>exact .inr (nil h rfl)
  |some a=>exact .inr (f a 0 0 [] (by simp) (by simp) (by omega) rfl h)
 ·rcases G.2 with⟨rfl,hn⟩|⟨g,cap,E,rfl,a0,hg,a1,a4,O,Q⟩
  ·exact .inr (nil h hn)
  ·by_cases d:l.length+m.length<=cap
   ·left;have F:l.length*i.size+(Ad m).length<=E.size:=by rw[H,O,s,<-Jo];exact Ji _ d
    have C:=run_append_room (P:=P) w t ty e i I.h hi g l.length cap E hg ⟨b,o,none⟩ m.length A (Ad m) (by rw[H,s]) c (WI m) d F;rw[C]at h;cases h;rfl
   ·exact .inr (f ⟨g,0,none⟩ l.length cap (Ad l) (by rw[Kc,s]) (λj u M=>(G.cells (g:=g) rfl) j u M) (by omega) rfl h)
theorem Po{t ty e:TypeId}{z:Value}{sz c:Nat}[h:DU P t e][o:AX P e z sz c]{v x:Value}{l m:List α}(b:AL.sz α=sz/\z.cells.size=sz)
  (p:AD B e w v l)(q:AQ w x m)(f:m≠[])(s:B<=w.heap.size)(hb:(l.length+m.length)*c<=140737488355328/\l.length+m.length<=9223372036854775807)
  (u:∀d w',AD B e w' d (l++m)->Fr (AV B v) w w'->(Value.blk d=Value.blk v\/(Value.blk d=some w.heap.size/\Bn w w'))->k d w'):AI P (Builtin.append_ #[t,t] ty #[v,x]) k pn w:=by
 obtain⟨d,w',r,y,A⟩:=YM (ty:=ty) h o b.1 b.2 p q hb.1 (by unfold maxLen;omega) s;exact AI.of r (u _ _ y A (x6 h o b.1 p q f hb.1 (by unfold maxLen;omega) r))
end
abbrev gO (w:World) (x:CG) (r:Kr):Prop:=x.id=r.id/\x.code=r.code/\x.a.found=r.found/\x.a.num=r.num/\Bh 142 w (.slice x.a.s.a x.a.s.n x.a.s.c) r.hits
def RX (w:World) (s:ByteArray) (q:CG) (odd:Bool):Prop:=(odd=false/\∃r,Zd s.data.toList=some r/\gO w q r)\/(odd=true/\Zd s.data.toList=none)
theorem Bh.fro{α d:Type}[AL α][AL d]{e o:TypeId}{v p:Value}{l:List α}{l':List d}(h:Bh e w v l)(k:AD B o w p l')(f:Fr (AV B p) w w')(c:e≠o:=by decide):Bh e w' v l:=
 h.fr f (λb cs z hb q s=>by
  obtain⟨A,t,r⟩:=s;rcases k with⟨_,a,rfl⟩|k
  ·exact r a rfl
  ·have u:=k.2;rcases u with⟨rfl,_⟩|⟨g,cap,x,rfl,_,y,_⟩
   ·exact r none rfl
   ·have:g=b:=by simpa[Value.blk]using t
    subst this;rw[y]at q;cases q;exact c rfl)
abbrev Ek (l:List Tx):List ByteArray:=l.map λt=>(⟨t.toArray⟩:ByteArray)
theorem Ue(a b:List Tx):Ek (a++b)=Ek a++Ek b:=QB
theorem W0{sep:Tx}:∀{l:List Tx},(∀t∈l,t.length<=m)->(Lib.join l sep).length<=l.length*(m+sep.length)
 |[],_=>by simp[Lib.join_nil]
 |[x],h=>by
  have:=h x (by simp);rw[Lib.join_one,VC];omega
 |x::y::r,h=>by
  have c:=h x (by simp);have d:=W0 (sep:=sep) (l:=y::r) λt b=>h t (QF _ b)
  have e:Lib.join (x::y::r) sep=x++sep++Lib.join (y::r) sep:=by
   rw[Lib.join_cons,Lib.join_cons];simp[Lib.joinTail]
  rw[e,Qb,Qb,QA,Jo];omega
theorem kZ{c:Nat}{l:List Tx}{sep:Tx}(S:AQ w (.slice a n c) (Ek l))(e:(Lib.join l sep).length<=140737488355328)(f:l.length<=140737488355328):Sp PP 59 #[.slice a n c,Ae sep] w λv w'=>v=Ae (EQ l sep)/\AC w w':=by
 have b:n=l.length:=by rw[S.len];simp
 refine eN ?_;refine ite (λh=>?_) (λh=>?_)
 ·have:l=[]:=Qn (by omega);subst this;exact⟨rfl,stp⟩
 ·have d:l≠[]:=λo=>h (by rw[b,o];rfl);refine AA (rB S d e f) ?_;rintro _ w1 ⟨rfl,p⟩;have:EQ l sep=Lib.join l sep:=if_neg d;rw[this];exact⟨rfl,stp⟩
theorem qF{c:Nat}{l:List Int}(G:HX w)(S:AQ w (.slice a n c) l)(h:∀x∈l,-9223372036854775808<=x/\x<=9223372036854775807)(F:l.length<=1000000):
  Sp PP 48 #[.slice a n c] w λv w'=>v=Ae (D8 l)/\AC w w':=by
 have d:=S.len;obtain rfl:=d;refine eN ?_;refine cO 9 [5] 3 8 l.length (λk v u=>AD w.heap.size 9 u v (Ek ((l.take k).map Lib.itoa))/\AC w u) ?_ ?_
 ·exact⟨AD.nil _ _ _,stp⟩
 rintro k v H u I ⟨O,J⟩;refine ite (λBS=>?_) (λp=>?_)
 ·have b:k<l.length:=by omega
  refine Bp (S.up (w':=u)) (i:=k) (x:=l[k]) (by simp) λK L q=>AF (q.cell0 rfl) (AA (Sz (G.up (w':=u)) (h _ (Qa b))) ?_);rintro _ o ⟨rfl,r⟩;refine bS (⟨(Lib.itoa l[k]).toArray⟩:ByteArray) λM s Q _ y=>Aw (u:=w) ⟨rfl,rfl⟩ ((O.up (w':=o)).up (w':=s)) y (by rw[Qr,Qr,Qm];omega) λT U z V W=>rA ⟨rfl,b,?_,stp⟩;have e:Ek ((l.take (k+1)).map Lib.itoa)=Ek ((l.take k).map Lib.itoa)++[(⟨(Lib.itoa l[k]).toArray⟩:ByteArray)]:=by rw[Ci b,QB,Ue];rfl
  rw[e];exact z
 ·have f:k=l.length:=by omega
  rw[f,Qg]at O;have d:=O.shape;obtain⟨X,Y,rfl⟩:=d
  have A:=W0 (sep:=[32]) (m:=21) (l:=l.map Lib.itoa) λt C=>by
   have d:=Qq.1 C;obtain⟨x,E,rfl⟩:=d;have:=h x E;exact Lib.itoa_length_le x this.1 this.2
  rw[Qr,VC]at A;refine AA (kZ O.sl (sep:=[32]) (by omega) (by rw[Qr];omega)) ?_;rintro _ o ⟨rfl,r⟩;exact⟨rfl,stp⟩
theorem UA{t:TypeId}{x y:Operand}{k:Value->Prop}{a b:ByteArray}(h:a.size+b.size<=9223372036854775807)(c:k (.string (a++b))):Ap P (do eqGuard .add t x y (.string a) (.string b);binOp .add t (.string a) (.string b)) D k w:=by
 rw[Is];exact⟨_,λw' _=>tP a b h w',c⟩
theorem Mf{n:Int}(h:-9223372036854775808<=n/\n<=9223372036854775807):(Lib.itoa n).length<=21:=Lib.itoa_length_le n h.1 h.2
theorem Wn(b:ByteArray):∀u∈[Value.string b],u.oneCell'=true:=by intro u c;simp at c;subst c;rfl
theorem rM{p:Int×Int×Gj}(h:BE (BC p.1 p.2.1 p.2.2) p.2.2.hits)(G:HX w):Sp PP 58 #[Ae (GK p)] w λv w'=>v=Ae (Dk p)/\AC w w':=by
 have hh:=h;obtain⟨⟨U,V⟩,⟨W,X⟩,⟨Y,Z⟩,h4,_,_,_,h8⟩:=h;have U:0<=p.1:=U;have V:p.1<=2147483647:=V;have W:0<=p.2.1:=W;have X:p.2.1<=1000:=X;have Y:0<=p.2.2.num:=Y;have Z:p.2.2.num<=400:=Z;refine eN ?_;refine AA (yX hh) ?_;rintro _ w1 ⟨⟨x,rfl,x1,x2,x3,x4,O⟩,e1⟩;refine AA zNM ?_;rintro _ w2 ⟨rfl,e2⟩;refine Ao λbx w3 n3 X3=>?_;have c2:=n3.lo (u:=w);refine rE X3 x λM C f4 _=>?_;have C:Bk M bx (enc x) 173:=C;have s4:AC w M:=⟨Fr.st (lE w w3) f4 λi hi=>by omega⟩;have t4:AC w2 M:=⟨Fr.st (lE w2 w3) f4 λi hi=>by have:=n3.lo (u:=w2);omega⟩;refine Cx (B:=C) (v:=.int .i64 p.1) (by rw[<-x1];rfl) (AA (Sz (G.up (w':=M)) (n:=p.1) (by omega)) ?_);rintro _ w5 ⟨rfl,e5⟩;refine Cx (B:=C) (v:=.int .i64 p.2.1) (by rw[<-x2];rfl) ?_;have li:=Mf (n:=p.1) (by omega);refine ite (λhc=>?_) (λhc=>?_)
 ·have lc:=Mf (n:=p.2.1) (by omega);have I:Dk p=Lib.itoa p.1++[32,101,114,114,111,114,32]++Lib.itoa p.2.1:=if_pos hc;refine IW (b:=⟨[32,101,114,114,111,114,32].toArray⟩) (by simp only[AM,QA,QZ];omega) ?_;refine Cx (B:=C) (v:=.int .i64 p.2.1) (by rw[<-x2];rfl) (AA (Sz (G.up (w':=w5)) (n:=p.2.1) (by omega)) ?_);rintro _ w6 ⟨rfl,e6⟩;rw[SJ];refine IW (by simp only[AM,Qb,QA,QZ];omega) ?_;rw[SJ,I];exact⟨rfl,stp⟩
 ·have I:Dk p=Lib.join ([Lib.itoa p.1,if p.2.2.found then[121,101,115] else[110,111],Lib.itoa p.2.2.num]++p.2.2.hits.map HL) [32]:=if_neg hc;refine Cx (B:=C) (v:=.int .i64 p.2.2.num) (by rw[<-x4];rfl) (AA (Sz (G.up (w':=w5)) (n:=p.2.2.num) (by omega)) ?_);rintro _ w6 ⟨rfl,e6⟩;have ln:=Mf (n:=p.2.2.num) (by omega);refine Ky (Ek [Lib.itoa p.1,[110,111],Lib.itoa p.2.2.num]) rfl (vs:=[Ae (Lib.itoa p.1),Ae [110,111],Ae (Lib.itoa p.2.2.num)]) rfl rfl (by decide) λJ A n7 S7=>?_;have O7:AD w.heap.size 9 A (.slice (some ⟨J,0,none⟩) 3 3) (Ek [Lib.itoa p.1,[110,111],Lib.itoa p.2.2.num]):=n7.own rfl rfl (by decide) (lz w w6);have s7:AC w6 A:=⟨n7.ext⟩;have c3:=n7.lo;have c4:=lz M w6;have lx:=C.lt
  have a5:∀{w':World},Fr (AV w.heap.size (.slice (some ⟨J,0,none⟩) 3 3)) A w'->Bk w' bx (enc x) 173:=λf=>(C.mv (w:=A)).fr f λh=>by
   have:=QL h.2.1;simp only at this;omega
  have hO:∀{w':World},Fr (AV w.heap.size (.slice (some ⟨J,0,none⟩) 3 3)) A w'->Bh 142 w' (.slice x.a.s.a x.a.s.n x.a.s.c) p.2.2.hits:=λ{w'} f=>by
   have O':=((O.up (w':=w2)).up (w':=M)).up (w':=A);exact(O'.fro O7 f).y
  refine Cx (B:=C) (v:=.bool p.2.2.found) (by rw[<-x3];rfl) ?_;have z7:=lz w A;have a6:∀{w':World},Fr (AV w.heap.size (.slice (some ⟨J,0,none⟩) 3 3)) A w'->AC w w':=λf=>⟨Fr.st (lE w A) f λi hi=>hi.1⟩;have c5:Value.blk (.slice (some ⟨J,0,none⟩) 3 3)=some J:=rfl;have c6:∀o:Tx,(Ek [Lib.itoa p.1,o,Lib.itoa p.2.2.num]).length=3:=λ_=>rfl;generalize p.2.2.found=fd at I ⊢
  have a7:∀o:Tx,o.length<=21->(Lib.join ([Lib.itoa p.1,o,Lib.itoa p.2.2.num]++p.2.2.hits.map HL) [32]).length<=100000:=λo r=>by
   have:=W0 (sep:=[32]) (m:=43) (l:=[Lib.itoa p.1,o,Lib.itoa p.2.2.num]++p.2.2.hits.map HL) λt Q=>by
    have q:=Qf.1 Q;rcases q with Q|Q
    ·simp only[Ql,Xf,or_false]at Q;rcases Q with rfl|rfl|rfl<;>omega
    ·have q:=Qq.1 Q;obtain⟨y,hy,rfl⟩:=q;have q:=h8 y hy;obtain⟨y1,y2,y3,y4⟩:=q;have i1:=Mf (n:=y.v) (by omega);have i2:=Mf (n:=y.d) (by omega);unfold HL;simp only[Qb,QA,QZ];omega
   simp only[Qb,QA,QZ,Qr]at this;omega
  have c0:x.a.s.n=p.2.2.hits.length:=O.sl.len;cases fd
  case' true =>
   refine Fo rfl O7 (i:=1) (x:=(⟨[110,111].toArray⟩:ByteArray)) rfl λg5 a8 _ A5=>CW rfl (⟨[121,101,115].toArray⟩:ByteArray) O7 a8 (by simp) rfl λE S f8 z8=>?_;have S:AD w.heap.size 9 E (.slice (some ⟨J,0,none⟩) 3 3) (Ek [Lib.itoa p.1,[121,101,115],Lib.itoa p.2.2.num]):=S;have q:∃o:Tx,o=[121,101,115]:=⟨_,rfl⟩;obtain⟨o,r⟩:=q;rw[<-r]at S;have I:Dk p=Lib.join ([Lib.itoa p.1,o,Lib.itoa p.2.2.num]++p.2.2.hits.map HL) [32]:=by rw[I,r];rfl
  case' false =>
   have q:∃E,E=A:=⟨_,rfl⟩;obtain⟨E,rfl⟩:=q;have S:=O7;have f8:Fr (AV w.heap.size (.slice (some ⟨J,0,none⟩) 3 3)) E E:=Fr.refl _ _;have z8:E.heap.size=E.heap.size:=rfl;have q:∃o:Tx,o=[110,111]:=⟨_,rfl⟩;obtain⟨o,r⟩:=q;rw[<-r]at S;have I:Dk p=Lib.join ([Lib.itoa p.1,o,Lib.itoa p.2.2.num]++p.2.2.hits.map HL) [32]:=by rw[I,r];rfl
  all_goals
   have a0:o.length<=21:=by rw[r];decide
   have s8:AC w E:=a6 f8;have X8:=a5 f8;have H8:=hO f8;refine rX X8 rfl (cO 41 [7] 5 40 p.2.2.hits.length (λk v u=>AD w.heap.size 9 u v (Ek ([Lib.itoa p.1,o,Lib.itoa p.2.2.num]++(p.2.2.hits.take k).map HL))/\Bh 142 u (.slice x.a.s.a x.a.s.n x.a.s.c) p.2.2.hits/\AC w u) ?_ ?_)
   ·exact⟨by rw[Xa,JP,QE];exact S,H8,s8⟩
   rintro k v G2 u hk ⟨T,Hu,su⟩;have zu:=su.e.size;refine ite (λBS=>?_) (λc7=>?_)
   ·have a1:k<p.2.2.hits.length:=by omega
    have q:∃y,y=p.2.2.hits[k]:=⟨_,rfl⟩;obtain⟨y,hy⟩:=q;have a9:y∈p.2.2.hits:=by rw[hy];exact Qa _
    have q:=h8 y a9;obtain⟨y1,y2,y3,y4⟩:=q;have i1:=Mf (n:=y.v) (by omega);have i2:=Mf (n:=y.d) (by omega);refine Bp Hu.1 (i:=k) (x:=y) (by rw[hy];simp) λb9 o9 A9=>Ah A9 rfl (Ao λbh w9 n9 Y9=>?_);have c8:=n9.lo (u:=u);refine rE Y9 y λa4 F b0 _=>?_;have F:Bk a4 bh (enc y) 142:=F;have b1:AC u a4:=⟨Fr.st (lE u w9) b0 λi hi=>by omega⟩;have c9:=b1.e.size;refine dD (AV w.heap.size v) [0,1,2,5,6,3,4,7,8,9,10,11] λH d0=>?_;have hD:¬AV w.heap.size v bh:=λh=>by have:=T.wr h;omega
    refine NE (B:=F) (v:=.int .i64 y.v) rfl hD (NE (B:=F) (v:=.int .i64 y.d) rfl hD ?_);refine AA (Sz (G.up (w':=H)) (n:=y.v) (by omega)) ?_;rintro _ b2 ⟨rfl,b3⟩;refine⟨Fr.fr b3.e,?_⟩;refine UA (b:=⟨[58].toArray⟩) (by simp only[AM,QA,QZ];omega) ?_;rw[SJ];refine AA (Sz (G.up (w':=b2)) (n:=y.d) (by omega)) ?_;rintro _ K ⟨rfl,b4⟩;refine⟨Fr.fr b4.e,?_⟩;refine UA (by simp only[AM,Qb,QA,QZ];omega) ?_;rw[SJ];refine bS (⟨(HL y).toArray⟩:ByteArray) λd1 z b5 _ b6=>⟨Fr.fr b5.e,?_⟩;have d2:=lz u z;refine Po ⟨rfl,rfl⟩ (((T.up (w':=H)).up (w':=K)).up (w':=z)) b6 (by simp) (by omega) (by rw[Qr,Qb,Qr,Qm];simp only[QA,QZ];omega) λd3 d4 b7 L c1=>⟨L,?_⟩;refine rA ⟨rfl,a1,?_,Bh.fro (Bh.up (w':=z) (Bh.up (w':=K) (Bh.up (w':=H) Hu))) (((T.up (w':=H)).up (w':=K)).up (w':=z)) L (by decide),⟨Fr.st (lE w z) L λi hi=>hi.1⟩⟩
    have e:Ek ([Lib.itoa p.1,o,Lib.itoa p.2.2.num]++(p.2.2.hits.take (k+1)).map HL)=Ek ([Lib.itoa p.1,o,Lib.itoa p.2.2.num]++(p.2.2.hits.take k).map HL)++[(⟨(HL y).toArray⟩:ByteArray)]:=by
     rw[Ci a1,QB,<-Qp,Ue,<-hy];rfl
    rw[e];exact b7
   ·have b8:k=p.2.2.hits.length:=by omega
    rw[b8,Qg]at T;have q:=T.shape;obtain⟨aa,ac,rfl⟩:=q;have hj:=a7 o a0;refine AA (rB (sep:=[32]) T.sl (by simp) (by omega) (by simp only[Qb,QA,QZ,Qr];omega)) ?_;rintro _ u1 ⟨rfl,e1⟩;rw[I];exact⟨rfl,stp⟩
def LJ (s:Tx) (y:UInt8):Tx×Bool:=if s.getLast? = some y then(s.dropLast,true) else(s,false)
theorem vE{s:Tx}{y:UInt8}:[y] <:+ s↔s.getLast? = some y:=by
 constructor
 ·rintro⟨t,rfl⟩;simp
 ·intro h;have b:=List.getLast?_eq_some_iff.1 h;obtain⟨t,rfl⟩:=b;exact⟨t,rfl⟩
theorem nI(s:Tx)(y:UInt8):(LJ s y).1.length<=s.length:=by
 unfold LJ;split
 ·rw[List.length_dropLast];exact Nat.sub_le _ _
 ·exact Qe _
theorem vZ{s t:Tx}{y:UInt8}{b:Bool}(f:s.length<=1000000)(d:LJ s y=(t,b)):Sp PP 67 #[Ae s,Ae [y]] w λv w'=>v=.tuple #[Ae t,.bool b]/\w'=w:=
 (zEM f).mono λv w' ⟨h,e⟩=>⟨by
  rcases h with⟨h,rfl⟩|⟨h,rfl⟩
  ·have:LJ s y=(s.dropLast,true):=if_pos (vE.1 h);rw[this]at d;injection d with h1 c;subst h1 c;rw[XO];rfl
  ·have:LJ s y=(s,false):=if_neg λc=>h (vE.2 c);rw[this]at d;injection d with h1 c;subst h1 c;rfl,e⟩
theorem YG(least:Tx)(b:Bool)(i:Nat)(s:Tx)(r:List Tx):BI least b i (s::r) =
  if(i<least.length/\least[i]? = some 116)\/(least.length<=i/\b=true) then(BI least b (i+1) r).map λp=>(p.1,s::p.2)
  else match (if least.length<=i then Do s else Bv s) with
   |none=>none
   |some x=>(BI least b (i+1) r).map λp=>(x::p.1,p.2):=rfl
def KP (ns:List Int) (ts:List Tx) (o:Option (List Int×List Tx)):Option (List Int×List Tx):=o.map λp=>(ns++p.1,ts++p.2)
theorem zPd(ns:List Int)(ts:List Tx)(s:Tx)(o:Option (List Int×List Tx)):KP ns ts (o.map λp=>(p.1,s::p.2))=KP ns (ts++[s]) o:=by cases o<;>simp[KP]
theorem wW(ns:List Int)(ts:List Tx)(x:Int)(o:Option (List Int×List Tx)):KP ns ts (o.map λp=>(x::p.1,p.2))=KP (ns++[x]) ts o:=by cases o<;>simp[KP]
theorem xT(o:Option (List Int×List Tx)):KP [] [] o=o:=by cases o<;>simp[KP]
def Sq (B:Nat) (o:Option (List Int×List Tx)) (v:Value) (w':World):Prop:=match o with
 |none=>v=.tuple #[.slice none 0 0,.slice none 0 0,.bool false]
 |some p=>∃va vb,v=.tuple #[va,vb,.bool true]/\AD B 3 w' va p.1/\AD B 9 w' vb (Ek p.2)
theorem zJr{form f1 least:Tx}{texts picks:Bool}{c:Nat}{l:List Tx}(G:HX w)(hf:form.length<=100)(h1:LJ form 43=(f1,texts))(h2:LJ f1 42=(least,picks))(S:AQ w (.slice a n c) (Ek l))(hl:∀s∈l,s.length<=1000000)(hn:l.length<=1000000):
  Sp PP 38 #[Ae form,.slice a n c] w λv w'=>Sq w.heap.size (Be least texts picks l) v w'/\AC w w':=by
 have hlen:n=l.length:=by rw[S.len];simp
 have hl1:f1.length<=100:=by
  have:=nI form 43
  rw[h1]at this
  dsimp only at this;omega
 have hll:least.length<=100:=by
  have:=nI f1 42
  rw[h2]at this
  dsimp only at this;omega
 have hsz:=AM least
 refine en Ab rfl ?_
 refine AA (vZ (by omega) h1) ?_
 rintro _ _ ⟨rfl,rfl⟩
 refine AA (vZ (by omega) h2) ?_
 rintro _ w' ⟨rfl,rfl⟩
 have no:l.length<least.length\/(least.length<l.length/\texts=false/\picks=false)->Sq w'.heap.size (Be least texts picks l) (.tuple #[.slice none 0 0,.slice none 0 0,.bool false]) w':=λh=>by
  have:Be least texts picks l=none:=if_pos h
  rw[this];rfl
 have q_:∃tx,tx=texts:=⟨_,rfl⟩
 obtain⟨tx,htx⟩:=q_
 have loop:¬(l.length<least.length\/(least.length<l.length/\texts=false/\picks=false))->Be least texts picks l=BI least tx 0 l:=λh=>by rw[htx];exact if_neg h
 cases texts
 all_goals
  refine ite (λBS=>⟨no (.inl (by omega)),stp⟩) (λhge=>?_)
  refine ite (λMU=>?_) (λhle=>?_)
 case' false.refine_1 =>
  cases picks
  case' false=>exact⟨no (.inr ⟨by omega,rfl,rfl⟩),stp⟩
 all_goals
  have hL:=loop (by
   rintro(h|⟨h,h3,h4⟩)
   ·omega
   ·first|omega|exact absurd h3 (by decide)|exact absurd h4 (by decide))
  refine iL Ab 48 [6,10,11,12,13,14] 4 5 47 l.length (λk v1 v2 u=>∃ns ts,AD w'.heap.size 3 u v1 ns/\AD w'.heap.size 9 u v2 (Ek ts)/\ns.length+ts.length<=k/\BI least tx 0 l=KP ns ts (BI least tx k (l.drop k))/\AC w' u) rfl rfl ?_ ?_
  ·exact⟨[],[],AD.nil _ _ _,AD.nil _ _ _,Nat.zero_le _,(xT _).symm,stp⟩
  rintro k v1 v2 G2 u hk ⟨ns,ts,On,Ot,hnt,hw,su⟩
  refine ite (λhkl=>?_) (λhkg=>?_)
  case' refine_2 =>
   have hke:k=l.length:=by omega
   have hfin:BI least tx 0 l=some (ns,ts):=by
    rw[hw,hke,List.drop_length]
    show some (ns++[],ts++[])=_
    rw[List.append_nil,List.append_nil]
   have hW:∀o,o=BI least tx 0 l->Sq w'.heap.size o (.tuple #[v1,v2,.bool true]) u:=λo ho=>by
    rw[ho,hfin];exact⟨_,_,rfl,On,Ot⟩
   exact⟨hW _ hL,su⟩
  have hk1:k<l.length:=by omega
  have q_:∃s,s=l[k]:=⟨_,rfl⟩
  obtain⟨s,hs⟩:=q_
  have hsl:=hl s (by rw[hs];exact List.getElem_mem _)
  have hd:l.drop k=s::l.drop (k+1):=by rw[hs];exact List.drop_eq_getElem_cons hk1
  rw[hd,YG]at hw
  have hT:((k<least.length/\least[k]? = some 116)\/(least.length<=k/\tx=true))->BI least tx 0 l=KP ns (ts++[s]) (BI least tx (k+1) (l.drop (k+1))):=λh=>by rw[hw,if_pos h,zPd]
  have hN:¬((k<least.length/\least[k]? = some 116)\/(least.length<=k/\tx=true))->∀x,(if least.length<=k then Do s else Bv s)=some x->BI least tx 0 l=KP (ns++[x]) ts (BI least tx (k+1) (l.drop (k+1))):=λh x hx=>by rw[hw,if_neg h,hx];exact wW ..
  have hZ:¬((k<least.length/\least[k]? = some 116)\/(least.length<=k/\tx=true))->(if least.length<=k then Do s else Bv s)=none->∀o,o=BI least tx 0 l->∀u5,Sq w'.heap.size o (.tuple #[.slice none 0 0,.slice none 0 0,.bool false]) u5:=λh hx o ho u5=>by
   rw[ho,hw,if_neg h,hx];rfl
  clear hw
  refine Bp (S.up (w':=u)) (i:=k) (x:=(⟨s.toArray⟩:ByteArray)) (by rw[List.getElem?_map,List.getElem?_eq_getElem hk1,hs];rfl) λb4 o4 A4=>AF (A4.cell0 rfl) ?_
  refine ite (λhi=>?_) (λhi=>?_)
  ·have hi1:k<least.length:=by omega
   refine FO (i:=k) (c:=least[k]) (by simp) ?_
   refine ite (λhc=>?_) (λhc=>?_)
   ·have hc1:least[k]? = some 116:=by
     rw[List.getElem?_eq_getElem hi1]
     congr 1
     exact UInt8.toNat_inj.1 (by have h:((least[k].toNat:Nat):Int)=116:=hc;have h2:(116:UInt8).toNat=116:=rfl;omega)
    refine HS (⟨s.toArray⟩:ByteArray) rfl rfl (by decide) λb5 u5 e5 _ S5=>?_
    refine Aw (u:=w') ⟨rfl,rfl⟩ (Ot.up (w':=u5)) S5 (by rw[List.length_map];omega) λv6 u6 O6 f6 s6=>?_
    have O6':AD w'.heap.size 9 u6 v6 (Ek (ts++[s])):=by rw[Ue];exact O6
    have hl6:ns.length+(ts++[s]).length<=k+1:=by rw[List.length_append,List.length_singleton];omega
    have On6:=(On.up (w':=u5)).fro (Ot.up (w':=u5)) f6 (by decide)
    have s6:AC w' u6:=stp
    exact rA ⟨rfl,hk1,ns,ts++[s],On6,O6',hl6,hT (.inl ⟨hi1,hc1⟩),s6⟩
   ·have hno:¬((k<least.length/\least[k]? = some 116)\/(least.length<=k/\tx=true)):=by
     rintro(⟨_,h⟩|⟨h,_⟩)
     ·rw[List.getElem?_eq_getElem hi1]at h
      have:=Option.some.inj h
      exact hc (by rw[this];rfl)
     ·omega
    refine iF (by omega) ?_
    refine iF (by omega) ?_
    refine AA (jQ (G.up (w':=u)) hsl) ?_
    rintro _ u5 ⟨⟨x,b,rfl,hb1,hb2⟩,e5⟩
    cases b with
    |false=>exact⟨hZ hno (by rw[if_neg (by omega)];exact hb2 rfl) _ hL _,stp⟩
    |true =>
     refine HS (x:Int) rfl rfl (by decide) λb6 u6 e6 _ S6=>?_
     refine Aw (u:=w') ⟨rfl,rfl⟩ ((On.up (w':=u5)).up (w':=u6)) S6 (by omega) λv7 u7 O7 f7 s7=>?_
     have hl7:(ns++[x]).length+ts.length<=k+1:=by rw[List.length_append,List.length_singleton];omega
     have Ot7:=((Ot.up (w':=u5)).up (w':=u6)).fro ((On.up (w':=u5)).up (w':=u6)) f7 (by decide)
     have s7:AC w' u7:=stp
     exact rA ⟨rfl,hk1,ns++[x],ts,O7,Ot7,hl7,hN hno x (by rw[if_neg (by omega)];exact hb1 rfl),s7⟩
  ·refine iT (by omega) ?_
   have hge1:least.length<=k:=by omega
   first
   | -- a text
    have htx1:tx=true:=htx
    refine HS (⟨s.toArray⟩:ByteArray) rfl rfl (by decide) λb5 u5 e5 _ S5=>?_
    refine Aw (u:=w') ⟨rfl,rfl⟩ (Ot.up (w':=u5)) S5 (by rw[List.length_map];omega) λv6 u6 O6 f6 s6=>?_
    have O6':AD w'.heap.size 9 u6 v6 (Ek (ts++[s])):=by rw[Ue];exact O6
    have hl6:ns.length+(ts++[s]).length<=k+1:=by rw[List.length_append,List.length_singleton];omega
    have On6:=(On.up (w':=u5)).fro (Ot.up (w':=u5)) f6 (by decide)
    have s6:AC w' u6:=stp
    exact rA ⟨rfl,hk1,ns,ts++[s],On6,O6',hl6,hT (.inr ⟨hge1,htx1⟩),s6⟩
   | -- a number that may be below
    have htx1:tx=false:=htx
    have hno:¬((k<least.length/\least[k]? = some 116)\/(least.length<=k/\tx=true)):=by
     rintro(⟨h,_⟩|⟨_,h⟩)
     ·omega
     ·rw[htx1]at h;exact absurd h (by decide)
    refine iT (by omega) ?_
    refine AA (zJ4 (G.up (w':=u)) hsl) ?_
    rintro _ u5 ⟨⟨x,b,rfl,hb1,hb2⟩,e5⟩
    cases b with
    |false=>exact⟨hZ hno (by rw[if_pos hge1];exact hb2 rfl) _ hL _,stp⟩
    |true =>
     refine HS (x:Int) rfl rfl (by decide) λb6 u6 e6 _ S6=>?_
     refine Aw (u:=w') ⟨rfl,rfl⟩ ((On.up (w':=u5)).up (w':=u6)) S6 (by omega) λv7 u7 O7 f7 s7=>?_
     have hl7:(ns++[x]).length+ts.length<=k+1:=by rw[List.length_append,List.length_singleton];omega
     have Ot7:=((Ot.up (w':=u5)).up (w':=u6)).fro ((On.up (w':=u5)).up (w':=u6)) f7 (by decide)
     have s7:AC w' u7:=stp
     exact rA ⟨rfl,hk1,ns++[x],ts,O7,Ot7,hl7,hN hno x (by rw[if_pos hge1];exact hb1 rfl),s7⟩
theorem zJu{x:CQ}{r:List BO}{l v:Nat}{w0:World}[Le w0 w](o:Bb g)(e:Bk w0 l (enc x) 82)(R:Hy w0 x g r)(H:v<g.n):
  Sp PP 137 #[.int .i64 (v:Int),.pointer (some ⟨l,0,none⟩)] w λu w'=>(∃a c,u=.slice a (Ag g 0 v).length c/\AQ w' (.slice a (Ag g 0 v).length c) (AH (Ag g 0 v))/\∀b,Ag g 0 v≠[]->Value.blk (.slice a (Ag g 0 v).length c)=some b->b<w0.heap.size)/\AC w w':=by
 have I:=R.off.len;have J:=R.to.len;have K:=Md g.n g.es;have L:=PL g.es;have M:=o.rowI.n2;refine eN ?_;refine dQ 15 λf O=>?_;have p:=Rz g.es v;have y:=Eg g.es (v+1);refine tX e rfl nf (tX e rfl nf ?_);refine CN (R.off.up (w':=f)) (Kb (v:=v) (by omega)) λQ S z _=>AP (z.cell0 rfl) nf (tX e rfl nf (rF (v+1) (CN (R.off.up (w':=f)) (Kb (v:=v+1) (by omega)) λT U A _=>AP (A.cell0 rfl) nf ?_)));have q:=R.to.up (w':=f);refine Nf (BZ g.es v) (BZ g.es (v+1)) q p (by omega) ?_;have d:=q.part (BZ g.es v) (BZ g.es (v+1)) p (by omega);rw[Uc o.rowI.ris v]at d;have C:Dh (FH g.es v)=AH (Ag g 0 v):=by rw[eV];unfold Dh AH Ha;rw[VM];rfl
 rw[C]at d
 have s:BZ g.es (v+1) - BZ g.es v=(Ag g 0 v).length:=by
  have:=d.len;rw[this];simp[AH]
 rw[s]at d;refine⟨⟨_,_,congrArg (λn=>Value.slice _ n _) s,d,λb h hb=>?_⟩,stp⟩;have t:=(YD x.to.a x.to.n _ x.to.c _ _ _).symm.trans hb;have V:0<(Ag g 0 v).length:=JI.2 h
 have E:Dh g.es≠[]:=by
  intro h0;have W:(Dh g.es).length=0:=by rw[h0];rfl
  omega
 have F:=R.to.lt E;obtain⟨X,G,h5⟩:=F;rw[G]at t;have:=QL t;omega
theorem zJv{x:CQ}{r:List BO}{l v:Nat}{w0:World}[Le w0 w](o:Bb g)(e:Bk w0 l (enc x) 82)(R:Hy w0 x g r)(I:v<g.n):
  Sp PP 138 #[.int .i64 (v:Int),.pointer (some ⟨l,0,none⟩)] w λy w'=>(∃a c,y=.slice a (Ag g 1 v).length c/\AQ w' (.slice a (Ag g 1 v).length c) (AH (Ag g 1 v))/\∀b,Ag g 1 v≠[]->Value.blk (.slice a (Ag g 1 v).length c)=some b->b<w0.heap.size)/\AC w w':=by
 have J:=R.rof.len;have K:=R.rev.len;have L:=Md g.n r;have M:=PL r;have p:=o.rowR R.rev';have O:=p.n2;refine eN ?_;refine dQ 15 λf Q=>?_;have q:=Rz r v;have z:=Eg r (v+1);refine tX e rfl nf (tX e rfl nf ?_);refine CN (R.rof.up (w':=f)) (Kb (v:=v) (by omega)) λS T A _=>AP (A.cell0 rfl) nf (tX e rfl nf (rF (v+1) (CN (R.rof.up (w':=f)) (Kb (v:=v+1) (by omega)) λU V C _=>AP (C.cell0 rfl) nf ?_)));have s:=R.rev.up (w':=f);refine Nf (BZ r v) (BZ r (v+1)) s q (by omega) ?_;have d:=s.part (BZ r v) (BZ r (v+1)) q (by omega);rw[Uc p.ris v]at d;have E:Dh (FH r v)=AH (Ag g 1 v):=by rw[iU o.er R.rev'];unfold Dh AH Ha;rw[VM];rfl
 rw[E]at d
 have t:BZ r (v+1) - BZ r v=(Ag g 1 v).length:=by
  have:=d.len;rw[this];simp[AH]
 rw[t]at d;refine⟨⟨_,_,congrArg (λn=>Value.slice _ n _) t,d,λb h hb=>?_⟩,stp⟩;have u:=(YD x.rev.a x.rev.n _ x.rev.c _ _ _).symm.trans hb;have W:0<(Ag g 1 v).length:=JI.2 h
 have F:Dh r≠[]:=by
  intro h0;have X:(Dh r).length=0:=by rw[h0];rfl
  omega
 have G:=R.rev.lt F;obtain⟨Y,H,h5⟩:=G;rw[H]at u;have:=QL u;omega
def TG (B:Nat) (w:World) (bs:Nat) (fn:FuncId) (br:Nat) (la:OA) (lc:Nat) (lev:List Int) (fa:OA) (fc:Nat) (fr:List Nat):Prop:=
 Bk w bs [.func (.func fn) #[] #[.pointer (some ⟨br,0,none⟩)],.slice la lev.length lc,.slice fa fr.length fc] 132/\AD B 3 w (.slice la lev.length lc) lev/\AQ w (.slice fa fr.length fc) (AH fr) /\
  (∀b,Value.blk (.slice fa fr.length fc)=some b->Value.blk (.slice la lev.length lc)≠some b/\B<=b)/\Value.blk (.slice la lev.length lc)≠some bs/\B<=bs
def Ft (B:Nat) (w:World) (bs:Nat) (fn:FuncId) (br:Nat) (la:OA) (lc:Nat) (lev:List Int) (fr:List Nat):Prop:=
 ∃fa fc,TG B w bs fn br la lc lev fa fc fr
theorem Ft.up[L:Le w w']{bs:Nat}{fn:FuncId}{c:Nat}{la:OA}{d:Nat}{b:List Int}{fr:List Nat}(h:Ft B w bs fn c la d b fr):Ft B w' bs fn c la d b fr:=by
 obtain⟨e,f,l,o,p,q⟩:=h;exact⟨e,f,l.mv (w:=w'),o.up,p.up,q⟩
theorem pC{p:Nat}{fn:FuncId}{r:Nat}(hn:n<=200)(hp:p<n):
  Sp PP 139 #[.int .i64 (n:Int),.int .i64 (p:Int),.func (.func fn) #[] #[.pointer (some ⟨r,0,none⟩)]] w λv w'=>(∃bs la lc,v=.pointer (some ⟨bs,0,none⟩)/\Ft w.heap.size w' bs fn r la lc ((List.replicate n (-1:Int)).set p 0) [p])/\AC w w':=by
 refine eN ?_;refine IX (0:Int) rfl rfl (by omega) λc w1 W s1 a0=>?_
 have a1:c<w1.heap.size:=by
  have C:=W.lt (by intro h;have:=congrArg List.length h;rw[List.length_replicate]at this;simp at this;omega);obtain⟨b',s,_,t⟩:=C;cases s;exact t
 refine Ky (vs:=[.int .i64 (p:Int)]) [(p:Int)] rfl rfl rfl (by decide) λl X n2 S2=>?_;have s2:AC w1 X:=⟨n2.ext⟩;have a4:=n2.lo;have z2:=s2.e.size;refine AJ (cs:=[.func (.func fn) #[] #[.pointer (some ⟨r,0,none⟩)],.slice (some ⟨c,0,none⟩) n n,.slice (some ⟨l,0,none⟩) 1 1]) rfl (BM λbs E n3 z=>?_);have z:Bk E bs [.func (.func fn) #[] #[.pointer (some ⟨r,0,none⟩)],.slice (some ⟨c,0,none⟩) n n,.slice (some ⟨l,0,none⟩) 1 1] 132:=z;have a5:=n3.lo (u:=X);have F:=n3.lo (u:=w);refine rX z rfl ?_
 refine cN 21 [8] 21 n (λk u=>∃L:List Int,L.length=n/\(∀v,v<k->L[v]? = some (-1))/\AD w.heap.size 3 u (.slice (some ⟨c,0,none⟩) n n) L/\Bk u bs [.func (.func fn) #[] #[.pointer (some ⟨r,0,none⟩)],.slice (some ⟨c,0,none⟩) n n,.slice (some ⟨l,0,none⟩) 1 1] 132/\AQ u (.slice (some ⟨l,0,none⟩) 1 1) [(p:Int)]/\AC w u)
  ⟨List.replicate n 0,by simp,λv Y=>absurd Y (by omega),W.up (w':=E),z,S2.up (w':=E),stp⟩ ?_
 rintro k G u hk ⟨L,hL,Z,O,K,S,su⟩;refine ite (λBS=>?_) (λa6=>?_)
 ·have H:k<n:=by omega
  refine rX K rfl (Fo rfl O (x:=L[k]'(by omega)) (by simp) λI d hB A=>?_);have o:c=I:=QL d;subst o;refine Ke rfl (-1:Int) O d (by omega) rfl λJ M q s4 z4=>?_;have f:∀b,AV w.heap.size (.slice (some ⟨c,0,none⟩) n n) b->b=c:=λb h=>(QL h.2.1).symm;have Q:=K.fr q λh=>by have:=f _ h;omega
  have T:=S.fr q λb hb h=>by
   have s:=f _ h;have t:l=b:=QL hb;omega
  have U:AC w J:=⟨Fr.st su.e q λi hi=>hi.1⟩
  exact rA ⟨rfl,H,L.set k (-1),by simp[hL],λv Y=>by
   rw[Vw];by_cases e:k=v
   ·subst e;simp;omega
   ·rw[if_neg e];exact Z v (by omega),M,Q,T,U⟩
 ·have a7:k=n:=by omega
  have V:L=List.replicate n (-1:Int):=by
   apply Vl;intro v;have C:=QH v n;rcases C with h|h
   ·rw[Z v (by omega),Vk,if_pos h]
   ·rw[Jg (by omega),Jg (by simp;omega)]
  refine rX K rfl (Fo rfl O (x:=L[p]'(by omega)) (by simp) λI d hB A=>?_);have o:c=I:=QL d;subst o;refine Ke rfl (0:Int) O d (by omega) rfl λJ M q s4 z4=>?_;have f:∀b,AV w.heap.size (.slice (some ⟨c,0,none⟩) n n) b->b=c:=λb h=>(QL h.2.1).symm;have Q:=K.fr q λh=>by have:=f _ h;omega
  have T:=S.fr q λb hb h=>by
   have s:=f _ h;have t:l=b:=QL hb;omega
  have U:AC w J:=⟨Fr.st su.e q λi hi=>hi.1⟩;have y:((List.replicate n (-1:Int)).set p 0).length=n:=by simp
  refine⟨⟨bs,some ⟨c,0,none⟩,n,rfl,some ⟨l,0,none⟩,1,?_,?_,T,λb hb=>⟨λh=>?_,?_⟩,λh=>?_,F⟩,U⟩
  ·rw[y];exact Q
  ·rw[y,<-V];exact M
  ·have s:l=b:=QL hb;have t:c=b:=QL h;omega
  ·have s:l=b:=QL hb;have:=lz w w1;omega
  ·have t:c=bs:=QL h;omega
theorem Rl{kt:TypeId}{κ:Type}[DecidableEq κ][M:Eo P kt κ]{k:KW}{f:PW}{t e:TypeId}{z:Value}{sz c:Nat}[q:EK P t kt e][r:AX P e z sz c]{b:Nat}{m:List (κ×Value)}{d:Value}(h:BN P kt w b m)(x:κ)(l:d=M.val x){y:Value}(o:(An m x).getD z=y)(p:k y w):AI P (Instr.lookup t (.map (some b)) d false) k f w:=
 Hn h x l (by rw[o];exact p)
theorem Zy(a b:List Nat):AH (a++b)=AH a++AH b:=QB
theorem PO(a:List Nat):(AH a).length=a.length:=Qr ..
theorem WQ{l:List Nat}(h:k<l.length):(AH l)[k]? = some ((l[k]:Nat):Int):=by simp[AH,h]
theorem AQ.frM{kt:TypeId}{κ:Type}[DecidableEq κ][M:Eo P kt κ]{α:Type}[AL α]{v:Value}{l:List α}{s:Nat}{m:List (κ×Value)}(h:AQ w v l)(u:BN P kt w s m)(f:Fr (λi=>i=s) w w'):AQ w' v l:=by
 by_cases h0:l=[]
 ·subst h0;have y:=h.shape;obtain⟨a,c,rfl⟩:=y;exact AQ.nil' w' a c
 ·refine h.fr f λb hb e=>?_;subst e;obtain⟨a,c,rfl,_,d⟩:=h;rcases d with d|⟨z,o,rfl,p⟩
  ·exact h0 d
  ·have q:z=b:=QL hb;subst q;obtain⟨⟨es,E,A,_⟩,_⟩:=u
   cases l with
   |nil=>exact h0 rfl
   |cons x r =>
    have:=AL.len x;have F:=AL.pos (α:=α)
    have C:(Ad (x::r))[0]? = some ((enc x)[0]'(by omega)):=by
     rw[DA,VL (by omega)];simp
    have t:=p 0 _ C;unfold World.cell? at t;simp[A]at t
theorem OC.len{b:List Int}{P l:List Nat}{m:List (Int×Value)}(A:OC b P l m):l.length<=b.length:=SD A.nd λx c=>by
 have d:=((A.mem x).1 c).2;obtain⟨y,e,_⟩:=d;exact(Qy.1 e).1
theorem zJt{bs:Nat}{fn:FuncId}{br:Nat}{la:OA}{lc:Nat}{d:List Int}{fr:List Nat}{nb:Nat->List Nat}(Q:Ft B w bs fn br la lc d fr)(a9:d.length<=200)(b0:fr.length<=1000)(L:∀v∈fr,(nb v).length<=1000000/\∀x∈nb v,x<d.length)
  (hN:∀v∈fr,∀u,AC w u->Sp PP fn #[.int .i64 (v:Int),.pointer (some ⟨br,0,none⟩)] u λrv w'=>(∃a c,rv=.slice a (nb v).length c/\AQ w' (.slice a (nb v).length c) (AH (nb v))/\∀b,nb v≠[]->Value.blk (.slice a (nb v).length c)=some b->b<w.heap.size)/\AC u w'):
  Sp PP 80 #[.pointer (some ⟨bs,0,none⟩)] w λv w'=>(∃l m,OC d (fr.flatMap nb) l m/\AD w.heap.size 3 w' v (AH l))/\AC w w':=by
 obtain⟨fa,fc,K,OL,SF,b1,b3,hB⟩:=Q;refine eN ?_;refine Kx (kt:=3) (κ:=Int) rfl λbm w1 n1 M1=>?_;have F:=n1.lo (u:=w);refine rX K rfl (cO 15 [5,6,7,8] 3 15 fr.length (λk v u=>∃l m,OC d ((fr.take k).flatMap nb) l m/\AD w.heap.size 3 u v (AH l)/\Cv PP 3 u bm m/\AC w u) ⟨[],[],OC.nil,AD.nil _ _ _,M1,stp⟩ ?_);rintro k v G u hk ⟨l,m,A,O,M,su⟩;refine ite (λBS=>?_) (λb4=>?_)
 ·have p:k<fr.length:=by omega
  have H:fr[k]∈fr:=Qa p;refine Bp (SF.up (w':=u)) (WQ p) λb2 o2 A2=>AF (A2.cell0 rfl) (rX K rfl (AA (hN fr[k] H u su) ?_));rintro _ w3 ⟨⟨na,nc,rfl,SN,S⟩,e3⟩;have I:=L fr[k] H;have hP:(fr.take (k+1)).flatMap nb=(fr.take k).flatMap nb++nb fr[k]:=by rw[Ci p,Jl];simp
  refine cO 26 [7,8] 3 26 (nb fr[k]).length (λj v u=>∃l m,OC d ((fr.take k).flatMap nb++(nb fr[k]).take j) l m/\AD w.heap.size 3 u v (AH l)/\Cv PP 3 u bm m/\AC w u/\AQ u (.slice na (nb fr[k]).length nc) (AH (nb fr[k]))) ⟨l,m,by simpa using A,O.up (w':=w3),M.up (w':=w3),stp,SN⟩ ?_;clear A O M;rintro j v4 G4 u4 hj ⟨l,m,A,O,M,q,r⟩;refine ite (λa6=>?_) (λa7=>?_)
  ·have f:j<(nb fr[k]).length:=by omega
   have T:∃z,z=(nb fr[k])[j]:=⟨_,rfl⟩;obtain⟨z,U⟩:=T;have V:(AH (nb fr[k]))[j]? = some (z:Int):=by rw[U];exact WQ f
   have W:z<d.length:=by rw[U];exact I.2 _ (Qa f)
   have C:(fr.take k).flatMap nb++(nb fr[k]).take (j+1)=((fr.take k).flatMap nb++(nb fr[k]).take j)++[z]:=by rw[Ci f,<-Qp,U]
   have a8:=A.len;have b7:(AH l).length=l.length:=PO l;refine Bp r V λb5 o5 A5=>AF (A5.cell0 rfl) (rX K rfl (Bp (OL.sl.up (w':=u4)) (x:=d[z]) (by simp) λb6 o6 A6=>AF (A6.cell0 rfl) (ite (λs=>?_) (λs=>?_))))
   ·have hx:∃x,d[z]? = some x/\x<0:=⟨d[z],by simp,s⟩;have T:=Xw (z∈l);rcases T with o|o
    ·refine Rl M.l (z:Int) rfl (y:=.bool true) (by rw[A.map,if_pos o];rfl) ?_;have t:=A.skip (w:=z) (.inl o);rw[<-C]at t;exact rA ⟨rfl,f,l,m,t,O,M,q,r⟩
    ·refine Rl M.l (z:Int) rfl (y:=.bool false) (by rw[A.map,if_neg o];rfl) ?_;have t:=A.add o hx;rw[<-C]at t;refine Ct M (z:Int) rfl λw7 M7 X z7=>?_;have t7:AC w w7:=⟨Fr.st q.e X λi hi=>by subst hi;exact F⟩;have Y:=r.frM M.l X;have O7:=O.kept (M.l.wrote (es:=[Fp]) X F (by simp)) (by decide);refine bS (z:Int) λb8 E e8 _ S8=>Aw (u:=w) ⟨rfl,rfl⟩ (O7.up (w':=E)) S8 (by omega) λv9 Z O9 J s9=>?_;have J:Fr (AV w.heap.size v4) E Z:=J;have M9:=(M7.up (w':=E)).fr J ((M7.up (w':=E)).notOwn (O7.up (w':=E)))
     have a0:=(Y.up (w':=E)).fr J λb hb h=>by
      have:=S b (λh0=>by rw[h0]at f;cases f) hb;have:=h.1;omega
     have a1:AD w.heap.size 3 Z v9 (AH (l++[z])):=by rw[Zy];exact O9
     have t9:AC w Z:=stp;exact rA ⟨rfl,f,l++[z],_,t,a1,M9,t9,a0⟩
   ·have t:=A.skip (w:=z) (.inr λ⟨x,h1,h2⟩=>by
     rw[Qd W]at h1;have:=QL h1;omega)
    rw[<-C]at t;exact rA ⟨rfl,f,l,m,t,O,M,q,r⟩
  ·have a4:j=(nb fr[k]).length:=by omega
   rw[a4,Qg,<-hP]at A;exact rA ⟨rfl,p,l,m,A,O,M,q⟩
 ·have a5:k=fr.length:=by omega
  rw[a5,Qg]at A;exact⟨⟨l,m,A,O⟩,su⟩
theorem zKc{bs:Nat}{fn:FuncId}{br:Nat}{la:OA}{p:Nat}{c:List Int}{fr l:List Nat}{q:Nat}{E:List Nat}{x:Int}{c2:Nat}(Q:Ft B w bs fn br la p c fr)(a1:c.length<=200)(F:fr=q::E)(hx:c[q]? = some x)(a4:-1<=x/\x<=1000)
  (hl:∀v∈l,v<c.length)(h0:q∉l)(a5:l.length<=1000)(S:AQ w (.slice a2 n2 c2) (AH l))(t:∀b,Value.blk (.slice a2 n2 c2)=some b->Value.blk (.slice la c.length p)≠some b/\b≠bs/\B<=b):
  Sp PP 81 #[.pointer (some ⟨bs,0,none⟩),.slice a2 n2 c2] w λ_ w'=>TG B w' bs fn br la p (Cb (x+1) l c) a2 c2 l/\Fr (λi=>i=bs\/Value.blk (.slice la c.length p)=some i) w w':=by
 have H:n2=l.length:=by rw[S.len,PO]
 subst H;obtain⟨fa,fc,K,OL,SF,r,f,hB⟩:=Q;have I:q<c.length:=(Qy.1 hx).1;refine eN ?_;refine cN 8 [4,5] 8 l.length (λk u=>AD B 3 u (.slice la c.length p) (Cb (x+1) (l.take k) c)/\Fr (λi=>Value.blk (.slice la c.length p)=some i) w u) ⟨OL,Fr.refl _ _⟩ ?_;rintro k G u hk ⟨O,s⟩;have A:=K.fr s f;have J:=SF.fr s λb hb=>(r b hb).1;have Su:=S.fr s λb hb=>(t b hb).1;refine ite (λBS=>?_) (λa6=>?_)
 ·have o:k<l.length:=by omega
  have L:∃z,z=l[k]:=⟨_,rfl⟩;obtain⟨z,M⟩:=L;have T:(AH l)[k]? = some (z:Int):=by rw[M];exact WQ o
  have a7:z<c.length:=by rw[M];exact hl _ (Qa o)
  have d:=XW (x+1) (l.take k) c
  have U:(Cb (x+1) (l.take k) c)[q]? = some x:=by
   rw[kX _ _ _ _ I,if_neg (λh=>h0 (Vu h))];exact hx
  have V:(AH fr)[0]? = some (q:Int):=by rw[F];rfl
  refine Bp Su T λb5 o5 A5=>AF (A5.cell0 rfl) (dT (λi=>Value.blk (.slice la c.length p)=some i) (oL [0,1,2,3,4,5,6,7,8,9,10,11,12,13,14,15] (.lone 16 (oL [17,18,19] .nil))) λC e1=>tX A rfl f (tX A rfl f (tX A rfl f ?_)));refine CN (J.up (w':=C)) V λb6 o6 A6 W=>AP (A6.cell0 rfl) (λh=>(r b6 W).1 h) (CN (O.sl.up (w':=C)) U λb7 o7 A7 _=>AF (A7.cell0 rfl) ⟨Fr.refl _ _,?_⟩);refine rA ?_;have L:∃y,(Cb (x+1) (l.take k) c)[z]? = some y:=⟨_,Qd (by omega)⟩;obtain⟨y,hy⟩:=L;refine ET rfl (O.up (w':=C)) hy λg8 X a8 A8=>CW rfl (x+1) (O.up (w':=C)) X (by omega) rfl λw9 O9 f9 z9=>⟨f9.mono λi _ hi=>hi.2.1,?_⟩;have Y:AD B 3 w9 (.slice la c.length p) (Cb (x+1) (l.take (k+1)) c):=by rw[Ci o,zLR,<-M];exact O9
  exact rA ⟨rfl,o,Y,(s.trans (Fr.fr e1.e)).trans (f9.mono λi _ hi=>hi.2.1)⟩
 ·refine rS A [.slice a2 l.length c2] (by intro u hu;simp at hu;subst hu;rfl) λw4 K4 Z _=>?_;have a0:k=l.length:=by omega
  rw[a0,Qg]at O;have d:=XW (x+1) l c;refine⟨⟨?_,?_,?_,λb hb=>?_,?_,hB⟩,(s.mono λi _ hi=>.inr hi).trans (Z.mono λi _ hi=>.inl hi)⟩
  ·rw[d];exact K4
  ·rw[d];exact O.fr Z λb _ hb h=>f (h ▸ hb)
  ·exact Su.fr Z λb hb h=>(t b hb).2.1 h
  ·rw[d];exact⟨(t b hb).1,(t b hb).2.2⟩
  ·rw[d];exact f
def ES (n p:Nat):List Int:=(List.replicate n (-1:Int)).set p 0
theorem UJ(n p:Nat):(ES n p).length=n:=by simp[ES]
theorem Ft.blk{bs:Nat}{fn:FuncId}{e:Nat}{la:OA}{d:Nat}{c:List Int}{fr:List Nat}(h:Ft B w bs fn e la d c fr)(f:c≠[]):(B<=bs/\bs<w.heap.size)/\∃b,Value.blk (.slice la c.length d)=some b/\B<=b/\b<w.heap.size:=by
 obtain⟨o,p,K,O,S,q,r,l⟩:=h;exact⟨⟨l,K.lt⟩,O.lt f⟩
theorem Ft.lax{B':Nat}{bs:Nat}{fn:FuncId}{d:Nat}{la:OA}{e:Nat}{c:List Int}{fr:List Nat}(h:Ft B w bs fn d la e c fr)(l:B'<=B):Ft B' w bs fn d la e c fr:=by
 obtain⟨o,p,K,O,S,f,q,r⟩:=h;exact⟨o,p,K,O.mono l,S,λb hb=>⟨(f b hb).1,by have:=(f b hb).2;omega⟩,q,by omega⟩
def Zb (x:CQ) (n f t:Nat) (w:World) (v:Value) (w':World):Prop:=
 ∃ba bb br laa lca lab lcb fa fc B1 B2,v=.tuple #[.agg #[.pointer (some ⟨ba,0,none⟩),.pointer (some ⟨bb,0,none⟩)],.int .i64 0]/\TG B1 w' ba 137 br laa lca (ES n f) fa fc [f]/\Ft B2 w' bb 138 br lab lcb (ES n t) [t]/\Bk w' br (enc x) 82 /\
  w.heap.size<=br/\br<B1/\B1<=B2/\ba<B2/\(∀b,Value.blk (.slice laa (ES n f).length lca)=some b->b<B2)/\∀b,Value.blk (.slice fa 1 fc)=some b->b<B2
theorem zKb{x:CQ}{r:List BO}{f t:Nat}(hg:Bb g)(R:Hy w x g r)(hf:f<g.n)(ht:t<g.n):
  Sp PP 79 #[agg x,.int .i64 (f:Int),.int .i64 (t:Int)] w λv w'=>Zb x g.n f t w v w'/\AC w w':=by
 have l1:=R.off.len;have q1:=Md g.n g.es;have z:=hg.ok.n2;refine eN ?_;refine BM λs w1 n1 A=>?_;have A:Bk w1 s (enc x) 82:=A;have U:=n1.lo (u:=w);have a9:=A.lt;refine Ao λbp V n2 P2=>rX A rfl (rI (g.n:Int) (rG A x (AA (Tr hg (R.up (w':=V))) ?_)));rintro _ L ⟨rfl,e3⟩;refine iF (by omega) (iF (by omega) (iF (by omega) (iF (by omega) (AA (pC (n:=g.n) (p:=f) z hf) ?_))));rintro _ C ⟨⟨E,d,l,rfl,M⟩,e4⟩;refine AA (pC (n:=g.n) (p:=t) z ht) ?_;rintro _ y ⟨⟨bb,lab,lcb,rfl,Q⟩,e5⟩;refine AJ (cs:=[.pointer (some ⟨E,0,none⟩),.pointer (some ⟨bb,0,none⟩)]) rfl ?_;have b0:=n2.lo (u:=w);have b1:=P2.lt;have z2:=lz w1 V;have z3:=lz V L;have z4:=e4.e.size;have z5:=e5.e.size;have W:ES g.n f≠[]:=λh=>by have:=congrArg List.length h;rw[UJ]at this;simp at this;omega
 have X:ES g.n t≠[]:=λh=>by have:=congrArg List.length h;rw[UJ]at this;simp at this;omega
 have M:Ft L.heap.size C E 137 s d l (ES g.n f) [f]:=M;have Q:Ft C.heap.size y bb 138 s lab lcb (ES g.n t) [t]:=Q;have F:=M.blk W;obtain⟨b2,pa,c,a6⟩:=F;have F:=Q.blk X;obtain⟨b3,pb,o,a7⟩:=F;refine rS (P2.mv (w:=y)) [.pointer (some ⟨E,0,none⟩),.pointer (some ⟨bb,0,none⟩)] (by intro u hu;simp at hu;rcases hu with rfl|rfl<;>rfl) λT P6 q _=>?_;have t6:AC w T:=⟨Fr.st (lE w y) q λi hi=>by omega⟩;refine AR (B:=P6) rfl ?_;obtain⟨G,H,K,O,S,I,z,Y⟩:=M;have F:=S.lt (by intro h;cases h);obtain⟨bf,J,a8⟩:=F
 have Z:∀b,Value.blk (.slice G 1 H)=some b->b<C.heap.size:=λb hb=>by
  have h:some bf=some b:=J.symm.trans hb;have:=QL h;omega
 have a0:TG L.heap.size T E 137 s d l (ES g.n f) G H [f]:=by
  refine⟨(K.mv (w:=y)).fr q (by omega),(O.up (w':=y)).fr q λb _ hb e=>?_,(S.up (w':=y)).fr q λb hb e=>?_,I,z,Y⟩
  ·rw[hb]at c;have:=QL c;omega
  ·have:=(I b hb).2;omega
 have a1:Ft C.heap.size T bb 138 s lab lcb (ES g.n t) [t]:=by
  obtain⟨G,H,K,O,S,I,z,Y⟩:=Q;refine⟨G,H,K.fr q (by omega),O.fr q λb _ hb e=>?_,S.fr q λb hb e=>?_,I,z,Y⟩
  ·rw[hb]at o;have:=QL o;omega
  ·have:=(I b hb).2;omega
 have a4:Bk T s (enc x) 82:=(A.mv (w:=y)).fr q (by have:=n2.b;omega);have a5:∀b,Value.blk (.slice d (ES g.n f).length l)=some b->b=pa:=λb h=>by rw[h]at c;exact QL c
 exact⟨⟨E,bb,s,d,l,lab,lcb,G,H,L.heap.size,C.heap.size,rfl,a0,a1,a4,U,by omega,by omega,by omega,λb h=>by have:=a5 b h;omega,Z⟩,t6⟩
theorem NO(b:Bb g)(dir:Int)(v:Nat):(Ag g dir v).length<=1000000:=by
 have:=b.rowI.len;unfold Ag;split
 ·rw[Qr];have:=Qv (λe=>e.t==v) g.es;omega
 ·rw[Qr];have:=Qv (λe=>e.f==v) g.es;omega
theorem AQ.blt{α:Type}[AL α]{v:Value}{l:List α}(h:AQ w v l)(c:l≠[]){g:Nat}(d:Value.blk v=some g):g<w.heap.size:=by
 have e:=h.lt c;obtain⟨o,b,f⟩:=e;rw[d]at b;cases b;exact f
theorem zPA{seen:List Bool}{z:Nat}(c:z<seen.length):∃b,seen[z]? = some b:=⟨_,Qd c⟩
structure KK (g:Al) (t:Nat) (d:Nat) (lev:List Int) (fr l S:List Nat):Prop where
 len:lev.length=g.n
 nd:S.Nodup
 sn:∀v,v<g.n->(v∈S↔∃x,lev[v]? = some x/\0<=x)
 lt:∀v∈S,v<g.n
 rng:∀(v:Nat) x,lev[v]? = some x->-1<=x/\x<=(d:Int)
 fl:∀v∈fr,v∈S/\lev[v]? = some (d:Int)
 frn:fr.Nodup
 ne:fr≠[]
 cnt:d+1<=S.length
 le:l=IL lev (fr.flatMap (Ag g 1))
 lnd:l.Nodup
 neg:∀w∈l,w<g.n/\∃x,lev[w]? = some x/\x<0
 eq:∃k,KU (Ag g 1) (k+1) d lev fr=Lz g t/\g.n<=k+d
section
variable {g:Al} {t d:Nat} {lev:List Int} {fr l S:List Nat}
theorem KK.dn(I:KK g t d lev fr l S):d<g.n:=by
 have:=SD I.nd I.lt;have:=I.cnt;omega
theorem KK.done(I:KK g t d lev fr [] S):lev=Lz g t:=by
 have b:=I.eq;obtain⟨k,h,_⟩:=b;rw[<-h];unfold KU;rw[if_pos I.le.symm]
theorem KK.next{s:List Nat}(I:KK g t d lev fr l S)(u:l≠[])(H:s=IL (Cb ((d:Int)+1) l lev) (l.flatMap (Ag g 1)))(A:s.Nodup)(J:∀w∈s,w<g.n/\∃x,(Cb ((d:Int)+1) l lev)[w]? = some x/\x<0):
  KK g t (d+1) (Cb ((d:Int)+1) l lev) l s (S++l):=by
 have C:=I.len;have f:∀v,v<g.n->(Cb ((d:Int)+1) l lev)[v]? = if v∈l then some ((d:Int)+1) else lev[v]?:=λv c=>kX _ _ _ _ (by omega)
 have p:∀v∈l,v∉S:=λv c K=>by
  have o:=I.neg v c;obtain⟨E,x,z,L⟩:=o;have o:=(I.sn v E).1 K;obtain⟨y,G,h5⟩:=o;rw[z]at G;cases G;omega
 refine⟨by rw[XW,C],?_,λv c=>?_,λv c=>?_,λv x q=>?_,λv c=>?_,I.lnd,u,?_,H,A,J,?_⟩
 ·rw[JU];exact⟨I.nd,I.lnd,λa F b hb e=>p b hb (e ▸ F)⟩
 ·rw[f v c,Qf];by_cases h:v∈l
  ·rw[if_pos h];exact⟨λ_=>⟨_,rfl,by omega⟩,λ_=>.inr h⟩
  ·rw[if_neg h,<-I.sn v c];exact⟨λz=>z.resolve_right h,.inl⟩
 ·have o:=Qf.1 c;rcases o with c|c
  ·exact I.lt v c
  ·exact(I.neg v c).1
 ·have c:v<g.n:=by have:=(Qy.1 q).1;rw[XW]at this;omega
  rw[f v c]at q;split at q
  ·cases q;omega
  ·have:=I.rng v x q;omega
 ·refine⟨JJ _ c,?_⟩;rw[f v (I.neg v c).1,if_pos c];rfl
 ·have:=JI.2 u;have:=I.cnt;rw[Qb];omega
 ·have o:=I.eq;obtain⟨k,E,z⟩:=o;have L:=I.dn;have M:=SD (l:=S++l) (n:=g.n) (by rw[JU];exact⟨I.nd,I.lnd,λa F b hb e=>p b hb (e ▸ F)⟩) (λx q=>(Qf.1 q).elim (I.lt x) λh=>(I.neg x h).1);rw[Qb]at M;have:=JI.2 u;have:=I.cnt;have o:∃r,k=r+1:=⟨k - 1,by omega⟩;obtain⟨r,rfl⟩:=o;refine⟨r,?_,by omega⟩
  have e:KU (Ag g 1) (r+1+1) d lev fr=KU (Ag g 1) (r+1) (d+1) (Cb ((d:Int)+1) l lev) l:=by
   rw[KU,if_neg (by rw[<-I.le];exact u),<-I.le]
  rw[<-E];exact e.symm
theorem KK.first(p:t<g.n)(q:l=IL (ES g.n t) ([t].flatMap (Ag g 1)))(f:l.Nodup)(r:∀w∈l,w<g.n/\∃x,(ES g.n t)[w]? = some x/\x<0):KK g t 0 (ES g.n t) [t] l [t]:=by
 have o:∀v,v<g.n->(ES g.n t)[v]? = if t=v then some 0 else some (-1):=λv b=>by
  unfold ES;rw[Vw,Vk];by_cases e:t=v
  ·subst e;simp[b]
  ·rw[if_neg e,if_neg e,if_pos b]
 refine⟨UJ _ _,by simp,λv b=>?_,λv b=>?_,λv x c=>?_,λv b=>?_,by simp,by simp,by simp,q,f,r,g.n,rfl,by omega⟩
 ·rw[o v b,Qc];by_cases e:t=v
  ·rw[if_pos e];exact⟨λ_=>⟨0,rfl,Vr _⟩,λ_=>e.symm⟩
  ·rw[if_neg e];refine⟨λh=>absurd h.symm e,λ⟨x,s,u⟩=>?_⟩;cases s;omega
 ·rw[Qc.1 b];exact p
 ·have b:v<g.n:=by have:=(Qy.1 c).1;rw[UJ]at this;exact this
  rw[o v b]at c;split at c<;>cases c<;>omega
 ·rw[Qc.1 b,o t p,if_pos rfl];exact⟨by simp,rfl⟩
end
theorem pX{x:CQ}{r:List BO}{bb h:Nat}{lab:OA}{lcb:Nat}{b:List Int}{fr:List Nat}(d:Bb g)(R:Hy w x g r)(q:Bk w h (enc x) 82)(c:b.length=g.n)(f:∀v∈fr,v<g.n)(s:fr.length<=200)
  (Q:Ft B w bb 138 h lab lcb b fr):Sp PP 80 #[.pointer (some ⟨bb,0,none⟩)] w λv w'=>(∃l,l=IL b (fr.flatMap (Ag g 1))/\l.Nodup/\(∀w∈l,w<g.n/\∃x,b[w]? = some x/\x<0)/\AD w.heap.size 3 w' v (AH l))/\AC w w':=
 (zJt (nb:=Ag g 1) Q (by rw[c];exact d.ok.n2) (by omega) (λv o=>⟨NO d 1 v,λy t=>by rw[c];exact IV d.ok t⟩) (λv o u e=>by
  have:=zJv (w0:=w) (w:=u) d q R (f v o)
  exact this)).mono λv w' ⟨⟨l,m,A,O⟩,e⟩=>⟨⟨l,A.eq,A.nd,λw p=>⟨by
   have z:=((A.mem w).1 p).2;obtain⟨x,C,_⟩:=z;have:=(Qy.1 C).1;omega,((A.mem w).1 p).2⟩,O⟩,e⟩
theorem zJ{α:Type}{p:α->Bool}{l:List α}(b:j<l.length)(c:p l[j]=true)(d:∀i (hi:i<l.length),i<j->p l[i]=false):l.find? p=some l[j]:=by
 rw[List.find?_eq_some_iff_getElem];exact⟨c,j,b,rfl,λi hi=>by rw[d i (by omega) hi];rfl⟩
structure iE (g:Al) (t B bb br:Nat) (lab:OA) (lcb:Nat) (i:Nat) (v:Value) (u:World) (d:Nat) (lev:List Int) (fr l S:List Nat):Prop where
 i:i=g.n - d
 I:KK g t d lev fr l S
 m:Ft B u bb 138 br lab lcb lev fr
 v:∃a c,v=.slice a l.length c/\AQ u (.slice a l.length c) (AH l)/\(l≠[]->∀b,Value.blk (.slice a l.length c)=some b->b≠bb/\Value.blk (.slice lab g.n lcb)≠some b/\B<=b)
theorem uO{v:Value}{l:List Nat}{bb:Nat}{lab:OA}{lcb:Nat}(O:AD w.heap.size 3 w' v (AH l))(s:bb<w.heap.size)(q:∀b,Value.blk (.slice lab n lcb)=some b->b<w.heap.size)(t:B<=w.heap.size):
  ∃a c,v=.slice a l.length c/\AQ w' (.slice a l.length c) (AH l)/\(l≠[]->∀b,Value.blk (.slice a l.length c)=some b->b≠bb/\Value.blk (.slice lab n lcb)≠some b/\B<=b):=by
 have d:=PO l;have f:=O.shape;obtain⟨a,c,rfl⟩:=f;have e:=O.sl;rw[d]at e;refine⟨a,c,by rw[d],e,λr b hb=>?_⟩;have o:AH l≠[]:=λh=>r (List.map_eq_nil_iff.1 h);have f:=O.lt o;obtain⟨u,p,x,h5⟩:=f;rw[d]at p;rw[p]at hb;have:=QL hb;subst this;exact⟨by omega,λh=>by have:=q _ h;omega,by omega⟩
theorem zJs{x:CQ}{r:List BO}{f t:Nat}(hg:Bb g)(R:Hy w x g r)(hf:f<g.n)(ht:t<g.n):
  Sp PP 46 #[agg x,.int .i64 (f:Int),.int .i64 (t:Int)] w λv w'=>(∃a c b,v=.tuple #[.slice a (DE g f t).length c,.bool b,.int .i64 0]/\AQ w' (.slice a (DE g f t).length c) (AH (DE g f t))/\(DE g f t).length<=1000)/\AC w w':=by
 have h2:=hg.ok.n2;refine eN ?_;refine BM λbo w1 n1 B1=>?_;have B1:Bk w1 bo (enc x) 82:=B1;refine Cn (B:=B1) rfl rfl ?_;refine AA (zKb hg (R.up (w':=w1)) hf ht) ?_;rintro _ w2 ⟨⟨ba,bb,br,b5,b8,lab,lcb,fa,fc,d2,B2,rfl,Sa,Sb,Br,h7,g3,d3,h8,a5,_⟩,e2⟩;have d4:ES g.n f≠[]:=λh=>by have:=congrArg List.length h;rw[UJ]at this;simp at this;omega
 have d5:ES g.n t≠[]:=λh=>by have:=congrArg List.length h;rw[UJ]at this;simp at this;omega
 have Sa:Ft d2 w2 ba 137 br b5 b8 (ES g.n f) [f]:=⟨_,_,Sa⟩;have C:=Sb.blk d5;obtain⟨h9,pb,E,g4⟩:=C;have C:=Sa.blk d4;obtain⟨i0,pa,g5,g6⟩:=C
 have J:∀b,Value.blk (.slice lab (ES g.n t).length lcb)=some b->ba<b/\Value.blk (.slice b5 (ES g.n f).length b8)≠some b:=λb h=>by
  rw[h]at E;have:=QL E;exact⟨by omega,λh2=>by have:=a5 b h2;omega⟩
 have M:∀b,Value.blk (.slice lab (ES g.n t).length lcb)=some b->br<b:=λb h=>by have:=(J b h).1;omega
 have i1:ba<bb:=by omega
 have g7:br<ba:=by omega
 have Sb:=Sb.lax (B':=w1.heap.size) (by omega);rw[UJ]at J M E;have T:∀b,Value.blk (.slice lab g.n lcb)=some b->b=pb:=λb h=>by rw[h]at E;exact QL E
 have z1:=lz w w1;refine Ao λbp w3 n3 P3=>?_;have i2:=n3.lo (u:=w2);refine rS P3 [.pointer (some ⟨ba,0,none⟩),.pointer (some ⟨bb,0,none⟩)] (by intro u hu;simp at hu;rcases hu with rfl|rfl<;>rfl) λw4 P4 f4 _=>?_;have P4:Bk w4 bp [.pointer (some ⟨ba,0,none⟩),.pointer (some ⟨bb,0,none⟩)] 126:=P4;have s4:AC w2 w4:=⟨Fr.st (lE w2 w3) f4 λi hi=>by omega⟩;have z4:=s4.e.size;refine iF (· rfl) (rX P4 rfl (AA (pX hg (R.up (w':=w4)) (Br.mv (w:=w4)) (UJ _ _) (by simp[ht]) (by simp) (Sb.up (w':=w4))) ?_));rintro v5 w5 ⟨⟨l0,d6,b9,a6,O5⟩,e5⟩;have I0:=KK.first ht d6 b9 a6;have z5:=e5.e.size
 have Ka:∃vs,Bk w5 ba (Value.func (.func 137) #[] #[.pointer (some ⟨br,0,none⟩)]::vs) 132:=by
  obtain⟨fa,fc,K,_⟩:=Sa;exact⟨_,K.mv (w:=w5)⟩
 obtain⟨i3,Ka⟩:=Ka;have g8:w1.heap.size<=w5.heap.size:=by omega
 have d7:=uO (B:=w1.heap.size) (bb:=bb) (n:=g.n) (lab:=lab) (lcb:=lcb) O5 (by omega) (λb h=>by have:=T b h;omega) (by omega)
 refine IN Ab 12 [] 11 (λi v u=>∃d o fr l S,iE g t w1.heap.size bb br lab lcb i v u d o fr l S/\Fr (λi=>i=bb\/Value.blk (.slice lab g.n lcb)=some i) w5 u) rfl
  ⟨g.n - 0,0,ES g.n t,[t],l0,[t],⟨rfl,I0,(Sb.up (w':=w5)),d7⟩,Fr.refl _ _⟩ ?_
 rintro i v G u ⟨d,o,fr,l,S,⟨hi,I,Q,hv⟩,fu⟩;obtain⟨va,vc,rfl,SL,a7⟩:=hv;have U:=I.len;have zu:=fu.size;have hdn:=I.dn
 have g9:fr.length<=200:=by
  have:=SD I.frn (λv hv=>I.lt v (I.fl v hv).1);omega
 have a1:∀i,(i=bb\/Value.blk (.slice lab g.n lcb)=some i)->w1.heap.size<=i:=λi h=>by
  rcases h with h|h
  ·omega
  ·have:=T i h;omega
 have su:Gi w1 w5 u:=⟨fu.mono λi _ hi=>a1 i hi⟩
 have Pu:=(P4.mv (w:=w5)).fr fu λh=>by
  rcases h with h|h
  ·omega
  ·have:=T _ h;omega
 have c0:=(Br.mv (w:=w5)).fr fu λh=>by
  rcases h with h|h
  ·omega
  ·have:=M _ h;omega
 have d8:=Ka.fr fu λh=>by
  rcases h with h|h
  ·omega
  ·have:=J _ h;omega
 refine ite (λV=>?_) (λV=>?_)
 ·have a4:l≠[]:=λh=>by rw[h]at V;simp at V
  have a7:=a7 a4;have h0:l.length<=g.n:=SD I.lnd λv hv=>(I.neg v hv).1
  obtain⟨f0,i4,c1⟩:∃a b,fr=a::b:=by
   cases fr with
   |nil=>exact absurd rfl I.ne
   |cons a b=>exact⟨a,b,rfl⟩
  have hx:o[f0]? = some (d:Int):=(I.fl f0 (by rw[c1];exact Qs)).2;refine rX Pu rfl ?_
  have D7:=zKc (l:=l) (a2:=va) (c2:=vc) Q (by omega) c1 hx (by omega) (λy hy=>by rw[U];exact(I.neg y hy).1) (λh=>by
   have C:=I.neg f0 h;obtain⟨_,y,h1,h2⟩:=C
   rw[hx]at h1;cases h1;omega) (by omega) SL (λb hb=>by
   have h3:=a7 b hb;rw[U];exact⟨h3.2.1,h3.1,h3.2.2⟩)
  rw[U]at D7;refine AA D7 ?_;rintro _ w7 ⟨Q7,f7⟩;have Q7:Ft w1.heap.size w7 bb 138 br lab lcb (Cb ((d:Int)+1) l o) l:=⟨_,_,Q7⟩;have z7:=f7.size
  have P7:=Pu.fr f7 λh=>by
   rcases h with h|h
   ·omega
   ·have:=T _ h;omega
  have d9:=c0.fr f7 λh=>by
   rcases h with h|h
   ·omega
   ·have:=M _ h;omega
  have s7:Gi w1 u w7:=⟨f7.mono λi _ hi=>a1 i hi⟩;refine rX P7 rfl (AA (pX hg (R.up (w':=w7)) d9 (by rw[XW,U]) (λv hv=>(I.neg v hv).1) (by omega) Q7) ?_);rintro v8 w8 ⟨⟨l8,e0,c3,a9,O8⟩,e8⟩;have c4:=uO (B:=w1.heap.size) (bb:=bb) (n:=g.n) (lab:=lab) (lcb:=lcb) O8 (by omega) (λb h=>by have:=T b h;omega) (by omega);exact⟨g.n - (d+1),by omega,d+1,_,l,l8,S++l,⟨rfl,I.next a4 e0 c3 a9,Q7.up (w':=w8),c4⟩,(fu.trans f7).trans (Fr.fr e8.e)⟩
 ·have e1:l=[]:=Qn (by omega);subst e1;have e3:=I.done;have e4:∃y,o[f]? = some y:=⟨_,Qd (by omega)⟩;obtain⟨y,hy⟩:=e4;have i5:=I.rng f y hy
  have W:DE g f t=if y<0 then[] else f::Hj (Ag g 0) o y.toNat f:=by
   unfold DE;rw[<-e3,Qk,hy];rfl
  obtain⟨fa,fc,K,O,SF,i6,h5,hB⟩:=Q;rw[U]at K O;refine rX Pu rfl (rX K rfl (Bp O.sl hy λb6 o6 A6=>AF (A6.cell0 rfl) (ite (λX=>?_) (λX=>?_))))
  ·rw[if_pos X]at W;rw[W];exact⟨⟨none,0,false,rfl,AQ.nil _,by simp⟩,stp⟩
  rw[if_neg X]at W;have C:=QU (show(0:Int)<=y by omega);obtain⟨L,rfl⟩:=C;rw[QW]at W;refine Ky (vs:=[.int .i64 (f:Int)]) [(f:Int)] rfl rfl rfl (by decide) λb7 w7 n7 S7=>?_;have s7:AC u w7:=⟨n7.ext⟩;have O7:AD u.heap.size 3 w7 (.slice (some ⟨b7,0,none⟩) 1 1) (AH [f]):=n7.own rfl rfl (by decide) (Qe _)
  refine UD Ab 15 [] 12 13 14 (λv1 v2 v3 y=>∃k s:Nat,v1=.int .i64 (k:Int)/\v3=.int .i64 (s:Int)/\s<g.n/\∃Z:List Nat,Z++Hj (Ag g 0) o k s=DE g f t/\Z.length+k<=L+1/\AD u.heap.size 3 y v2 (AH Z)/\AC u y) (λv1 _ _ _=>(Go.RowKit.intOf v1).toNat) rfl
   ⟨L,f,rfl,rfl,hf,[f],W.symm,by simp;omega,O7,s7⟩ ?_
  rintro _ v2 _ G8 w8 ⟨k,s,rfl,rfl,c5,Z,F,h6,O8,s8⟩;refine ite (λhk=>?_) (λhk=>?_)
  ·have C:∃A,k=A+1:=⟨k - 1,by omega⟩;obtain⟨A,rfl⟩:=C;refine rX Pu rfl (rX d8 rfl (AA (zJu (w0:=w8) (w:=w8) hg (c0.mv (w:=w8)) (R.up (w':=w8)) c5) ?_));rintro _ w9 ⟨⟨na,nc,rfl,SN,_⟩,e9⟩;have i7:=NO hg 0 s;refine cP 65 [15,16] 13 14 65 (Ag g 0 s).length (λj p q y=>p=v2/\q=.int .i64 (s:Int)/\(∀i (hi:i<(Ag g 0 s).length),i<j->o.getD (Ag g 0 s)[i] 0≠(A:Int))/\AC w9 y) ⟨rfl,rfl,λi hi h=>absurd h (by omega),stp⟩ ?_;rintro j _ _ i8 b0 hj ⟨rfl,rfl,Y,i9⟩;refine ite (λBS=>?_) (λj0=>?_)
   ·have a0:j<(Ag g 0 s).length:=by omega
    have C:∃z,z=(Ag g 0 s)[j]:=⟨_,rfl⟩;obtain⟨z,hz⟩:=C;have e6:(AH (Ag g 0 s))[j]? = some (z:Int):=by rw[hz];exact WQ a0
    have e7:z<g.n:=by rw[hz];exact IV hg.ok (Qa a0)
    have f1:∃y,o[z]? = some y:=⟨_,Qd (by omega)⟩;obtain⟨y,hy⟩:=f1;have c6:o.getD z 0=y:=by rw[Qk,hy];rfl
    refine Bp (SN.up (w':=b0)) e6 λj1 j2 f2=>AF (f2.cell0 rfl) (rX Pu rfl (rX K rfl (Bp (O.sl.up (w':=b0)) hy λj3 j4 f3=>AF (f3.cell0 rfl) (rI (A:Int) (ite (λb1=>?_) (λb1=>?_))))))
    ·have b2:(Ag g 0 s).find? (λw=>decide (o.getD w 0=(A:Int)))=some z:=by
      rw[hz];exact zJ a0 (by rw[<-hz,c6,b1];simp) λi hi h=>by simpa using Y i hi h
     have H:Hj (Ag g 0) o (A+1) s=z::Hj (Ag g 0) o A z:=by
      rw[Hj,b2]
     refine bS (z:Int) λj5 f5 j6 _ f6=>Aw (u:=u) ⟨rfl,rfl⟩ (O8.up (w':=f5)) f6 (by rw[PO];omega) λf8 c7 f9 j7 j8=>?_;have c9:AD u.heap.size 3 c7 f8 (AH (Z++[z])):=by rw[Zy];exact f9
     have g0:AC u c7:=stp;refine rI (A:Int) ?_;refine⟨⟨A,z,rfl,rfl,e7,Z++[z],?_,by rw[Qb];simp only[QA,QZ];omega,c9,g0⟩,?_⟩
     ·rw[Qp];rw[H]at F;exact F
     show((A:Int)).toNat<(((A+1:Nat):Int)).toNat;omega
    ·refine rA ⟨rfl,a0,rfl,rfl,λi hi h=>?_,stp⟩;have C:=QH i j;rcases C with h3|h3
     ·exact Y i hi h3
     ·have h4:i=j:=by omega
      subst h4;rw[<-hz,c6];exact b1
   ·have b3:(Ag g 0 s).find? (λw=>decide (o.getD w 0=(A:Int)))=none:=by
     rw[List.find?_eq_none];intro z hz;have C:=QI.1 hz;obtain⟨i,hi,rfl⟩:=C;simpa using Y i hi (by omega)
    have H:Hj (Ag g 0) o (A+1) s=Hj (Ag g 0) o A s:=by
     rw[Hj,b3]
    refine rI (A:Int) ?_;refine⟨⟨A,s,rfl,rfl,c5,Z,by rw[<-F,H],by omega,O8.up (w':=b0),stp⟩,?_⟩;show((A:Int)).toNat<(((A+1:Nat):Int)).toNat;omega
  ·have g1:k=0:=by omega
   subst g1;have F:Z=DE g f t:=by rw[<-F];simp[Hj]
   have d0:=PO Z;have C:=O8.shape;obtain⟨a8,c8,rfl⟩:=C;have b4:=O8.sl;rw[d0]at b4;have g2:Value.tuple #[.slice a8 (AH Z).length c8,.bool true,.int .i64 0]=.tuple #[.slice a8 (DE g f t).length c8,.bool true,.int .i64 0]:=by rw[d0,F]
   have d1:(DE g f t).length<=1000:=by rw[<-F];omega
   rw[F]at b4;exact⟨⟨a8,c8,true,g2,b4,d1⟩,stp⟩
def WD (g:Al) (dir:Int) (k h v:Nat):Prop:=if dir=1 then HP g k v h else HP g k h v
section
variable {g:Al} {dir:Int} {h:Nat}
theorem WD.zero{v:Nat}:WD g dir 0 h v↔h=v:=by
 unfold WD;split
 ·exact⟨λe:v=h=>e.symm,λe=>e.symm⟩
 ·exact Iff.rfl
theorem WD.step{v w:Nat}(hd:dir=0\/dir=1)(e:WD g dir k h v)(b:w∈Ag g dir v):WD g dir (k+1) h w:=by
 unfold WD at *;rcases hd with rfl|rfl
 ·rw[if_neg (by decide)]at *;exact e.app (HP.one.2 (wO.1 b))
 ·rw[if_pos rfl]at *;rw[Xv];exact(HP.one.2 (mU.1 b)).app e
def Gd (g:Al) (dir:Int) (h:Nat) (P:Nat->Nat->Prop):Nat->Nat->Prop
 |v,0=>h=v/\¬P v 0
 |v,k+1=>WD g dir (k+1) h v/\(∀j,j<k+1->¬WD g dir j h v)/\¬P v (k+1)/\∃u,v∈Ag g dir u/\Gd g dir h P u k
theorem Gd.wd{P:Nat->Nat->Prop}{v:Nat}(G:Gd g dir h P v k):WD g dir k h v/\(∀j,j<k->¬WD g dir j h v)/\¬P v k:=by
 cases k with
 |zero=>exact⟨WD.zero.2 G.1,λj b=>by omega,G.2⟩
 |succ k=>exact⟨G.1,G.2.1,G.2.2.1⟩
structure PJ (g:Al) (dir:Int) (h:Nat) (P:Nat->Nat->Prop) (d:Nat) (seen:List Bool) (fr:List Nat) (A:Nat->Option Nat) (Sl:List Nat):Prop where
 len:seen.length=g.n
 sl:∀v,v<g.n->(seen[v]? = some true↔v∈Sl)
 nd:Sl.Nodup
 lt:∀v∈Sl,v<g.n
 fnd:fr.Nodup
 fs:∀v∈fr,v∈Sl/\WD g dir d h v/\A v=none
 wd:∀v∈Sl,∃j,j<=d/\WD g dir j h v
 add:∀v j,A v=some j->j<d/\j<g.n/\v∈Sl/\WD g dir j h v
 cnt:d+fr.length<=Sl.length
 cmp:∀v k,Gd g dir h P v k->(k<d->A v=some k)/\(k=d->v∈fr)
structure SrM (g:Al) (dir:Int) (h:Nat) (P:Nat->Nat->Prop) (d:Nat) (seen:List Bool) (fr:List Nat) (A0:Nat->Option Nat) (Sl Q l:List Nat) (A:Nat->Option Nat):Prop where
 len:seen.length=g.n
 sl:∀v,v<g.n->(seen[v]? = some true↔v∈Sl\/v∈l)
 lnd:l.Nodup
 lo:∀w∈l,w∉Sl/\w<g.n/\WD g dir (d+1) h w
 at':∀v,(v∈Q->¬P v d->A v=some d)/\(v∈Q->P v d->A v=A0 v)/\(v∉Q->A v=A0 v)
 nb:∀v∈Q,¬P v d->∀w∈Ag g dir v,w∈Sl\/w∈l
variable {P:Nat->Nat->Prop} {d:Nat} {seen:List Bool} {fr Sl Q l:List Nat} {A A0:Nat->Option Nat}
theorem PJ.first(f:h<g.n):PJ g dir h P 0 ((List.replicate g.n false).set h true) [h] (λ_=>none) [h]:=by
 refine⟨by simp,λv b=>?_,by simp,λv b=>?_,by simp,λv b=>?_,λv b=>?_,(λv j e=>nomatch e),by simp,λv k G=>⟨λc=>by omega,λc=>?_⟩⟩
 ·rw[Vw,Qc];by_cases e:h=v
  ·subst e;simp[b]
  ·rw[if_neg e,Vk,if_pos b];exact⟨(λh=>nomatch h),λo=>absurd o.symm e⟩
 ·rw[Qc.1 b];exact f
 ·rw[Qc.1 b];exact⟨by simp,WD.zero.2 rfl,rfl⟩
 ·rw[Qc.1 b];exact⟨0,Qe _,WD.zero.2 rfl⟩
 ·subst c;rw[Qc];exact G.1.symm
theorem PJ.begin(I:PJ g dir h P d seen fr A Sl):SrM g dir h P d seen fr A Sl [] [] A:=
 ⟨I.len,λv b=>by rw[I.sl v b];simp,List.nodup_nil,(λw c=>nomatch c),λv=>⟨(λb=>nomatch b),(λb=>nomatch b),λ_=>rfl⟩,(λv b=>nomatch b)⟩
theorem PJ.small(I:PJ g dir h P d seen fr A Sl)(b:fr≠[]):d<g.n:=by
 have c:=SD I.nd I.lt;have e:=I.cnt;have f:=JI.2 b;omega
theorem SrM.skip(M:SrM g dir h P d seen fr A0 Sl Q l A){v:Nat}(p:v∉Q)(o:P v d):SrM g dir h P d seen fr A0 Sl (Q++[v]) l A:=by
 refine⟨M.len,M.sl,M.lnd,M.lo,λu=>?_,λu b c w q=>?_⟩
 ·have e:=M.at' u;obtain⟨r,s,f⟩:=e;refine⟨λb c=>?_,λb c=>?_,λb=>f λh=>b (QN _ h)⟩
  ·have e:=Qf.1 b;rcases e with b|b
   ·exact r b c
   ·rw[Qc.1 b]at c;exact absurd o c
  ·have e:=Qf.1 b;rcases e with b|b
   ·exact s b c
   ·rw[Qc.1 b]at f ⊢;exact f p
 ·have e:=Qf.1 b;rcases e with b|b
  ·exact M.nb u b c w q
  ·rw[Qc.1 b]at c;exact absurd o c
structure SK (g:Al) (dir:Int) (h:Nat) (P:Nat->Nat->Prop) (d:Nat) (seen:List Bool) (fr:List Nat) (A0:Nat->Option Nat) (Sl Q R l:List Nat) (A:Nat->Option Nat):Prop extends SrM g dir h P d seen fr A0 Sl Q l A where
 r:∀w∈R,w∈Sl\/w∈l
theorem SrM.on(M:SrM g dir h P d seen fr A0 Sl Q l A):SK g dir h P d seen fr A0 Sl Q [] l A:=⟨M,λw b=>nomatch b⟩
theorem SK.old{R:List Nat}(N:SK g dir h P d seen fr A0 Sl Q R l A){w:Nat}(c:w<g.n)(e:seen[w]? = some true):SK g dir h P d seen fr A0 Sl Q (R++[w]) l A:=
 ⟨N.toSrM,λu b=>by
  have f:=Qf.1 b;rcases f with b|b
  ·exact N.r u b
  ·rw[Qc.1 b];exact(N.sl w c).1 e⟩
theorem SK.new{R:List Nat}(N:SK g dir h P d seen fr A0 Sl Q R l A){w:Nat}(o:w<g.n)(q:seen[w]?≠some true)(hd:WD g dir (d+1) h w):SK g dir h P d (seen.set w true) fr A0 Sl Q (R++[w]) (l++[w]) A:=by
 have h0:=λs=>q ((N.sl w o).2 s);refine⟨⟨by rw[Jc];exact N.len,λv c=>?_,?_,λv c=>?_,N.at',λv c t u f=>?_⟩,λu f=>?_⟩
 ·rw[Vw,Qf];by_cases e:w=v
  ·subst e;rw[if_pos rfl,if_pos (by rw[N.len];exact o)];simp
  ·rw[if_neg e,N.sl v c];have:¬v=w:=λh=>e h.symm;simp[this]
 ·rw[JU];refine⟨N.lnd,by simp,λa x b hb e=>?_⟩;rw[Qc.1 hb]at e;exact h0 (.inr (e ▸ x))
 ·have p:=Qf.1 c;rcases p with c|c
  ·exact N.lo v c
  ·rw[Qc.1 c];exact⟨λh=>h0 (.inl h),o,hd⟩
 ·exact(N.nb v c t u f).imp id (QN _)
 ·have p:=Qf.1 f;rcases p with f|f
  ·exact(N.r u f).imp id (QN _)
  ·rw[Qc.1 f];exact .inr (by simp)
theorem SK.done{v:Nat}{B:Nat->Option Nat}(N:SK g dir h P d seen fr A0 Sl Q (Ag g dir v) l A)(z:v∉Q)(p:¬P v d)(q:∀u,B u=if u=v then some d else A u):SrM g dir h P d seen fr A0 Sl (Q++[v]) l B:=by
 refine⟨N.len,N.sl,N.lnd,N.lo,λu=>?_,λu b c w f=>?_⟩
 ·have o:=N.at' u;obtain⟨s,t,x⟩:=o;rw[q];by_cases e:u=v
  ·subst e;rw[if_pos rfl];exact⟨λ_ _=>rfl,λ_ c=>absurd c p,λb=>absurd (JJ _ (by simp)) b⟩
  ·rw[if_neg e];have y:u∈Q++[v]↔u∈Q:=by rw[Qf,Qc];exact⟨λh=>h.elim id λh=>absurd h e,.inl⟩
   rw[y];exact⟨s,t,x⟩
 ·have o:=Qf.1 b;rcases o with b|b
  ·exact N.nb u b c w f
  ·rw[Qc.1 b]at f;exact N.r w f
theorem SrM.next{r:List Bool}(I:PJ g dir h P d r fr A0 Sl)(M:SrM g dir h P d seen fr A0 Sl fr l A)(z:fr≠[]):PJ g dir h P (d+1) seen l A (Sl++l):=by
 have hdn:=I.small z;refine⟨M.len,λv f=>by rw[M.sl v f,Qf],?_,λv f=>?_,M.lnd,λv f=>?_,λv f=>?_,λv j e=>?_,?_,λv k G=>⟨λC=>?_,λC=>?_⟩⟩
 ·rw[JU];exact⟨I.nd,M.lnd,λa H b hb e=>(M.lo b hb).1 (e ▸ H)⟩
 ·have o:=Qf.1 f;rcases o with f|f
  ·exact I.lt v f
  ·exact(M.lo v f).2.1
 ·have o:=M.lo v f;obtain⟨q,p,s⟩:=o;refine⟨JJ _ f,s,?_⟩;have c:v∉fr:=λh=>q (I.fs v h).1;rw[(M.at' v).2.2 c]
  cases e:A0 v with
  |none=>rfl
  |some j=>exact absurd (I.add v j e).2.2.1 q
 ·have o:=Qf.1 f;rcases o with f|f
  ·have o:=I.wd v f;obtain⟨j,q,p⟩:=o;exact⟨j,by omega,p⟩
  ·exact⟨d+1,Qe _,(M.lo v f).2.2⟩
 ·by_cases c:v∈fr
  ·have o:=I.fs v c;obtain⟨q,p,s⟩:=o;by_cases E:P v d
   ·rw[(M.at' v).2.1 c E,s]at e;cases e
   ·rw[(M.at' v).1 c E]at e;cases e;exact⟨by omega,hdn,QN _ q,p⟩
  ·rw[(M.at' v).2.2 c]at e;have o:=I.add v j e;obtain⟨q,p,s,x⟩:=o;exact⟨by omega,p,QN _ s,x⟩
 ·have q:=I.cnt;have p:=JI.2 z;rw[Qb];omega
 ·have F:=I.cmp v k G;have o:=QH k d;rcases o with q|q
  ·have p:=F.1 q;have c:v∉fr:=λh=>by rw[(I.fs v h).2.2]at p;cases p
   rw[(M.at' v).2.2 c];exact p
  ·have y:k=d:=by omega
   subst y;exact(M.at' v).1 (F.2 rfl) G.wd.2.2
 ·subst C;obtain⟨q,p,s,u,x,h5⟩:=G;have J:=(I.cmp u d h5).2 rfl;have t:=M.nb u J h5.wd.2.2 v x;rcases t with t|t
  ·have o:=I.wd v t;obtain⟨j,L,K⟩:=o;exact absurd K (p j (by omega))
  ·exact t
structure aU (g:Al) (dir:Int) (h:Nat) (P:Nat->Nat->Prop) (A:Nat->Option Nat):Prop where
 add:∀v j,A v=some j->v<g.n/\j<g.n/\WD g dir j h v
 cmp:∀v k,Gd g dir h P v k->A v=some k
theorem Gd.down{v : Nat} : ∀ {k : Nat}, Gd g dir h P v k -> ∀ j, j <= k -> ∃ u, Gd g dir h P u j
  | 0, G, j, b => ⟨v, by obtain rfl : j = 0 := (by omega); exact G⟩
  | k + 1, G, j, b => by
    have c := QH j (k + 1);rcases c with e|e
    · obtain⟨_, _, _, u, _, h5⟩ := G
      exact Gd.down h5 j (by omega)
    · have : j = k + 1 := by omega
      subst this; exact⟨v, G⟩
theorem PJ.done(I:PJ g dir h P d seen [] A Sl):aU g dir h P A:=by
 refine⟨λv j e=>?_,λv k G=>?_⟩
 ·have b:=I.add v j e;obtain⟨_,f,o,p⟩:=b;exact⟨I.lt v o,f,p⟩
 ·have b:=QH k d;rcases b with c|c
  ·exact(I.cmp v k G).1 c
  ·have b:=G.down d c;obtain⟨u,q⟩:=b;exact absurd ((I.cmp u d q).2 rfl) (by simp)
end
structure TO (a b:List AG) (n:Int) (ok:Bool):Prop where
 no:ok=false->n=0/\∀x∈a,∀y∈b,x.v≠y.v
 yes:ok=true->(∃x∈a,∃y∈b,x.v=y.v/\n=x.d+y.d)/\∀x∈a,∀y∈b,x.v=y.v->n<=x.d+y.d
def Mh (a b:List AG) (d:Nat):Prop:=∃x∈a,∃y∈b,x.v=y.v/\x.d+y.d<=(d:Int)
theorem TO.iff{a b:List AG}{n:Int}{ok:Bool}(h:TO a b n ok)(d:Nat):(ok=true/\n<=(d:Int))↔Mh a b d:=by
 constructor
 ·rintro⟨l,q⟩;have o:=h.yes l;obtain⟨⟨x,c,y,f,e,p⟩,_⟩:=o;exact⟨x,c,y,f,e,by omega⟩
 ·rintro⟨x,c,y,f,e,p⟩
  cases ok with
  |false=>exact absurd e ((h.no rfl).2 x c y f)
  |true=>exact⟨rfl,by have:=(h.yes rfl).2 x c y f e;omega⟩
def Wp (g:Al) (u x v:Nat):Prop:=∃a b,HP g a u x/\HP g b x v/\K9 g u v (a+b)
structure H9 (g:Al) (hs:List Nat) (Out In:Nat->List AG):Prop where
 so:∀u,∀e∈Out u,∃m d:Nat,e=⟨(m:Int),(d:Int)⟩/\m∈hs/\m<g.n/\d<g.n/\HP g d u m
 si:∀v,∀e∈In v,∃m d:Nat,e=⟨(m:Int),(d:Int)⟩/\m∈hs/\m<g.n/\d<g.n/\HP g d m v
 no:∀u,((Out u).map (·.v)).Nodup
 ni:∀v,((In v).map (·.v)).Nodup
 co:∀pre m post,hs=pre++m::post->∀u D,K9 g u m D->(∀x∈pre,¬Wp g u x m)->(⟨(m:Int),(D:Int)⟩:AG)∈Out u
 ci:∀pre m post,hs=pre++m::post->∀v D,K9 g m v D->(∀x∈pre,¬Wp g m x v)->(⟨(m:Int),(D:Int)⟩:AG)∈In v
def I7 (h:Nat) (A:Nat->Option Nat) (F:Nat->List AG) (v:Nat):List AG:=match A v with
 |some d=>F v++[⟨(h:Int),(d:Int)⟩]
 |none=>F v
section
variable {g:Al} {hs:List Nat} {Out In:Nat->List AG} {h:Nat}
theorem Wu{A:Nat->Option Nat}{F:Nat->List AG}{v:Nat}{e:AG}:e∈I7 h A F v↔e∈F v\/∃d:Nat,A v=some d/\e=⟨(h:Int),(d:Int)⟩:=by
 unfold I7
 cases A v with
 |none=>simp
 |some d=>simp
theorem tR{u v a b D:Nat}(c:HP g a u m)(d:HP g b m v)(f:K9 g u v D)(p:a+b<=D):K9 g u m a/\K9 g m v b/\a+b=D:=by
 have e:a+b=D:=by
  have q:=QH (a+b) D;rcases q with o|o
  ·exact absurd (c.app d) (f.2 _ o)
  ·omega
 refine⟨⟨c,λj r l=>f.2 (j+b) (by omega) (l.app d)⟩,⟨d,λj r l=>f.2 (a+j) (by omega) (c.app l)⟩,e⟩
theorem oP(I:H9 g hs Out In){u v d:Nat}(h:Mh (Out u) (In v) d):∃m a b,m∈hs/\HP g a u m/\HP g b m v/\a+b<=d:=by
 obtain⟨x,f,y,l,e,o⟩:=h;have c:=I.so u x f;obtain⟨m,a,rfl,p,_,_,h5⟩:=c;have c:=I.si v y l;obtain⟨q,b,rfl,_,_,_,r⟩:=c;have:m=q:=by dsimp only at e;omega
 subst this;exact⟨m,a,b,p,h5,r,by dsimp only at o;omega⟩
theorem Yo(I:H9 g hs Out In):∀{D v:Nat},K9 g h v D->(∀x∈hs,¬Wp g h x v)->Gd g 0 h (λv d=>Mh (Out h) (In v) d) v D:=by
 have r:∀{v j:Nat},K9 g h v j->(∀x∈hs,¬Wp g h x v)->¬Mh (Out h) (In v) j:=λc e t=>by
  have f:=oP I t;obtain⟨m,a,b,o,l,p,q⟩:=f;have f:=tR l p c q;obtain⟨_,_,y⟩:=f;exact e m o ⟨a,b,l,p,by rw[y];exact c⟩
 intro D
 induction D with
 |zero=>intro v c e;exact⟨c.1,r c e⟩
 |succ k z =>
  intro v c e;have s:∀j,WD g 0 j h v↔HP g j h v:=λj=>by unfold WD;rw[if_neg (by decide)]
  refine⟨(s _).2 c.1,λj A C=>c.2 j A ((s j).1 C),r c e,?_⟩;have f:=K9.mid (a:=k) (b:=1) c;obtain⟨u,o,l⟩:=f;refine⟨u,wO.2 (HP.one.1 l.1),z o λx E=>?_⟩;rintro⟨a,b,p,q,h5⟩;have F:=h5.uniq o;exact e x E ⟨a,b+1,p,q.app l.1,by rw[show a+(b+1)=k+1 by omega];exact c⟩
theorem WW(I:H9 g hs Out In):∀{D u:Nat},K9 g u h D->(∀x∈hs,¬Wp g u x h)->Gd g 1 h (λu d=>Mh (Out u) (In h) d) u D:=by
 have r:∀{v j:Nat},K9 g v h j->(∀x∈hs,¬Wp g v x h)->¬Mh (Out v) (In h) j:=λc e t=>by
  have p:=oP I t;obtain⟨m,a,b,l,f,o,q⟩:=p;have p:=tR f o c q;obtain⟨_,_,y⟩:=p;exact e m l ⟨a,b,f,o,by rw[y];exact c⟩
 intro D
 induction D with
 |zero=>intro v c e;exact⟨c.1.symm,r c e⟩
 |succ k z =>
  intro v c e;have s:∀j,WD g 1 j h v↔HP g j v h:=λj=>by unfold WD;rw[if_pos rfl]
  refine⟨(s _).2 c.1,λj A C=>c.2 j A ((s j).1 C),r c e,?_⟩;obtain⟨u,l,f⟩:=K9.mid (a:=1) (b:=k) (by rw[Xv];exact c);refine⟨u,mU.2 (HP.one.1 l.1),z f λx E=>?_⟩;rintro⟨a,b,o,q,h5⟩;have F:=h5.uniq f;exact e x E ⟨1+a,b,l.1.app o,q,by rw[show 1+a+b=k+1 by omega];exact c⟩
theorem H9.nil:H9 g [] (λ_=>[]) (λ_=>[]):=⟨(λu e c=>nomatch c),(λu e c=>nomatch c),λu=>List.nodup_nil,λu=>List.nodup_nil,(λpre m b e=>by simp at e),(λpre m b e=>by simp at e)⟩
theorem nS{pre b:List Nat}(e:hs++[h]=pre++m::b):(pre=hs/\m=h)\/∃c,hs=pre++m::c:=by
 have d:=List.eq_nil_or_concat b;rcases d with rfl|⟨p,z,rfl⟩
 ·have:=List.append_inj' e rfl;exact .inl ⟨this.1.symm,by have:=this.2;injection this with h1;exact h1.symm⟩
 ·right;refine⟨p,?_⟩;have f:hs++[h]=(pre++m::p)++[z]:=by rw[e];simp
  exact(List.append_inj' f rfl).1
theorem H9.add(I:H9 g hs Out In)(G:h∉hs)(r:h<g.n){A B:Nat->Option Nat}(H:aU g 0 h (λv d=>Mh (Out h) (In v) d) A)(J:aU g 1 h (λu d=>Mh (Out u) (In h) d) B):H9 g (hs++[h]) (I7 h B Out) (I7 h A In):=by
 have mem:∀{m:Nat},m∈hs->m∈hs++[h]:=λh=>QN _ h
 have s:∀(F:Nat->List AG) (A:Nat->Option Nat),(∀v,((F v).map (·.v)).Nodup)->(∀v,∀e∈F v,e.v≠(h:Int))->∀v,((I7 h A F v).map (·.v)).Nodup:=λF A q l v=>by
  unfold I7
  cases A v with
  |none=>exact q v
  |some d =>
   dsimp only;rw[QB,JU];refine⟨q v,by simp,λa K b hb e=>?_⟩;have c:=Qq.1 K;obtain⟨x,L,rfl⟩:=c;simp only[QS,JP,Qc]at hb;exact l v x L (e.trans hb)
 refine⟨λu e o=>?_,λv e o=>?_,s _ _ I.no λv e o=>?_,s _ _ I.ni λv e o=>?_,λpre m t e u D y z=>?_,λpre m t e v D y z=>?_⟩
 ·have c:=Wu.1 o;rcases c with o|⟨d,hd,rfl⟩
  ·have c:=I.so u e o;obtain⟨m,d,q,l,p⟩:=c;exact⟨m,d,q,mem l,p⟩
  ·have c:=J.add u d hd;obtain⟨q,l,p⟩:=c;unfold WD at p;rw[if_pos rfl]at p;exact⟨h,d,rfl,by simp,r,l,p⟩
 ·have c:=Wu.1 o;rcases c with o|⟨d,hd,rfl⟩
  ·have c:=I.si v e o;obtain⟨m,d,q,l,p⟩:=c;exact⟨m,d,q,mem l,p⟩
  ·have c:=H.add v d hd;obtain⟨q,l,p⟩:=c;unfold WD at p;rw[if_neg (by decide)]at p;exact⟨h,d,rfl,by simp,r,l,p⟩
 ·have c:=I.so v e o;obtain⟨m,d,rfl,l,_⟩:=c;intro C;have:m=h:=by dsimp only at C;omega
  exact G (this ▸ l)
 ·have c:=I.si v e o;obtain⟨m,d,rfl,l,_⟩:=c;intro C;have:m=h:=by dsimp only at C;omega
  exact G (this ▸ l)
 ·have c:=nS e;rcases c with⟨rfl,rfl⟩|⟨f,E⟩
  ·exact Wu.2 (.inr ⟨D,J.cmp u D (WW I y z),rfl⟩)
  ·exact Wu.2 (.inl (I.co pre m f E u D y z))
 ·have c:=nS e;rcases c with⟨rfl,rfl⟩|⟨f,E⟩
  ·exact Wu.2 (.inr ⟨D,H.cmp v D (Yo I y z),rfl⟩)
  ·exact Wu.2 (.inl (I.ci pre m f E v D y z))
end
structure Ec (B bl n:Nat) (gb:Bool->Nat) (X:Bool->List SV) (L:Bool->Nat->List AG) (w:World):Prop where
 lo:B<=bl
 cell:Bk w bl [.slice (some ⟨gb true,0,none⟩) n n,.slice (some ⟨gb false,0,none⟩) n n] 88
 row:∀s,AD B 137 w (.slice (some ⟨gb s,0,none⟩) n n) (X s)
 len:∀s,(X s).length=n
 gne:gb true≠gb false
 own:∀s (v:Nat) (z:SV),(X s)[v]? = some z->AD B 142 w z.v (L s v)
 lt:∀s (v:Nat) (z:SV) b,(X s)[v]? = some z->Value.blk z.v=some b->b<w.heap.size
 apart:∀s (v:Nat) (z:SV) s' (v':Nat) (z':SV),(X s)[v]? = some z->(X s')[v']? = some z'->(s,v)≠(s',v')->∀b,Value.blk z.v=some b->Value.blk z'.v≠some b
abbrev gX (gb:Bool->Nat):Nat->Prop:=λi=>i=gb true\/i=gb false
abbrev hE:List TypeId:=[142]
section
variable {B bl n:Nat} {gb:Bool->Nat} {X:Bool->List SV} {L:Bool->Nat->List AG} {w w':World}
theorem Ec.kept{C:Nat}{es:List TypeId}(M:Ec B bl n gb X L w)(f:BP C es w w')(c:88∉es)(d:137∉es)(e:142∉es):Ec B bl n gb X L w':=
 ⟨M.lo,M.cell.kept f c,λs=>(M.row s).kept f d,M.len,M.gne,λs v z h=>(M.own s v z h).kept f e,λs v z b h hb=>QJ (M.lt s v z b h hb) f.size,M.apart⟩
theorem Ec.up[Le w w'](M:Ec B bl n gb X L w):Ec B bl n gb X L w':=M.kept (C:=0) (es:=[]) (BP.ext Le.e) (by simp) (by simp) (by simp)
theorem Ec.gx(M:Ec B bl n gb X L w)(s:Bool)(f:0<n):gb s<w.heap.size/\B<=gb s:=by
 obtain⟨b,c,d,e⟩:=(M.row s).lt (by intro h;have:=M.len s;rw[h]at this;simp at this;omega);have:=QL c;simp only at this;subst this;exact⟨e,d⟩
structure Ix (X:Bool->List SV) (s:Bool) (h:Nat) (c:SV) (l:List AG) (w:World):Prop where
 sl:Bh 142 w c.v l
 ap:l≠[]->∀b,Value.blk c.v=some b->∀s' (v':Nat) (z':SV),(X s')[v']? = some z'->(s',v')≠(s,h)->Value.blk z'.v≠some b
theorem Ix.kept{C:Nat}{es:List TypeId}{s:Bool}{h:Nat}{c:SV}{l:List AG}(M:Ix X s h c l w)(f:BP C es w w')(b:142∉es):Ix X s h c l w':=⟨M.sl.kept f b,M.ap⟩
theorem Ec.cap(M:Ec B bl n gb X L w){s:Bool}{v:Nat}{z:SV}(h:(X s)[v]? = some z):Ix X s v z (L s v) w:=
 ⟨(M.own s v z h).y,λ_ b hb s' d f l c=>M.apart s v z s' d f h l (λe=>c e.symm) b hb⟩
def If (X:Bool->List SV) (s:Bool) (v:Nat) (z:SV):Bool->List SV:=λs'=>if s'=s then(X s).set v z else X s'
def PI (L:Bool->Nat->List AG) (s:Bool) (v:Nat) (l:List AG):Bool->Nat->List AG:=λs' v'=>if(s',v')=(s,v) then l else L s' v'
theorem Xu{s:Bool}{v:Nat}{z:SV}(b:v<(X s).length):(If X s v z s)[v]? = some z:=by unfold If;rw[if_pos rfl];simp[b]
theorem Tq{s s':Bool}{v b:Nat}{z:SV}(h:(s',b)≠(s,v)):(If X s v z s')[b]? = (X s')[b]?:=by grind[If]
theorem zNf(M:Ec B bl n gb X L w)(hB:B<=w.heap.size){s:Bool}{v:Nat}(hv:v<n)(hn:n<=200)(x:AG)(hl:(L s v).length<=1000){fn:FuncId}(b0:s=false/\fn=87\/s=true/\fn=89):
  Sp PP fn #[.int .i64 (v:Int),agg x,.pointer (some ⟨bl,0,none⟩)] w λ_ w'=>(∃z,Ec B bl n gb (If X s v z) (PI L s v (L s v++[x])) w' /\
   ∀U h0 (c:SV) V,Ix X U h0 c V w->((U,h0)=(s,v)->(X s)[v]? = some c/\V=L s v)->Ix (If X s v z) U h0 c V w')/\Cl (gX gb) B hE w w':=by
 have A:v<(X s).length:=by rw[M.len];exact hv
 have f:(X s)[v]? = some (X s)[v]:=by simp
 have F:∃z,z=(X s)[v]:=⟨_,rfl⟩;obtain⟨z,hz⟩:=F;rw[<-hz]at f;have O:=M.own s v z f;have c3:=M.gx s (by omega)
 have fin:∀(u r G I:World) (J:Value),AC w u->AC u r->AD B 142 G J (L s v++[x])->Fr (AV B z.v) r G->(Value.blk J=Value.blk z.v\/(Value.blk J=some r.heap.size/\Bn r G)) ->
   AD B 137 I (.slice (some ⟨gb s,0,none⟩) n n) ((X s).set v (Fi J))->Fr (AV B (.slice (some ⟨gb s,0,none⟩) n n)) G I->I.heap.size=G.heap.size ->
   (∃z,Ec B bl n gb (If X s v z) (PI L s v (L s v++[x])) I /\
    ∀U h0 (c:SV) V,Ix X U h0 c V w->((U,h0)=(s,v)->(X s)[v]? = some c/\V=L s v)->Ix (If X s v z) U h0 c V I)/\Cl (gX gb) B hE w I:=by
  intro u r G I J e e6 Y K H O8 W z8;have M6:=(M.up (w':=u)).up (w':=r);have z6:=lz w r;have z7:=K.size;have O6:=M6.own s v z f;have Q:(Fi J).v=J:=NZ Y.sl;have a4:∀i,AV B (.slice (some ⟨gb s,0,none⟩) n n) i->i=gb s:=λi h=>(QL h.2.1).symm
  have kp:∀(C:Nat) (y:Value) (l:List AG),AD C 142 r y l->(∀b,Value.blk y=some b->Value.blk z.v≠some b)->AD C 142 I y l:=λC y l o t=>by
   have d:=o.fr K λb _ hb h=>t b hb h.2.1;have b1:AD B 137 G (.slice (some ⟨gb s,0,none⟩) n n) (X s):=(M6.row s).fro O6 K;exact d.fro b1 W
  have R7:∀s',AD B 137 G (.slice (some ⟨gb s',0,none⟩) n n) (X s'):=λs'=>(M6.row s').fro O6 K;refine⟨⟨Fi J,⟨M.lo,(M6.cell.fro O6 K).fro (R7 s) W,λs'=>?_,λs'=>?_,M.gne,λs' S y T=>?_,λs' S y b T hb=>?_,λs1 v1 y1 s2 v2 y2 o t E b hb=>?_⟩,λU h0 c V C hc=>⟨?_,?_⟩⟩,?_⟩
  ·by_cases es:s'=s
   ·subst es;unfold If;rw[if_pos rfl];exact O8
   ·unfold If;rw[if_neg es];refine(R7 s').fr W λb _ hb h=>?_;have o:=a4 b h;have t:gb s'=b:=QL hb;have d:gb s'=gb s:=by omega
    cases s<;>cases s'<;>first|exact es rfl|exact M.gne d|exact M.gne d.symm
  ·unfold If;by_cases es:s'=s
   ·subst es;rw[if_pos rfl,Jc];exact M.len _
   ·rw[if_neg es];exact M.len _
  ·by_cases q:(s',S)=(s,v)
   ·injection q with e3 e4;subst e3 e4;rw[Xu A]at T;have:=QL T;subst this;unfold PI;rw[if_pos rfl,Q];exact Y.fro (R7 _) W
   ·rw[Tq q]at T;unfold PI;rw[if_neg q];exact kp _ _ _ (M6.own s' S y T) λb hb=>M.apart s' S y s v z T f q b hb
  ·by_cases q:(s',S)=(s,v)
   ·injection q with e3 e4;subst e3 e4;rw[Xu A]at T;have:=QL T;subst this;rw[Q]at hb;have F:=Y.lt (by simp);obtain⟨b',o,_,d⟩:=F;rw[hb]at o;have:=QL o;omega
   ·rw[Tq q]at T;have:=M.lt s' S y b T hb;omega
  ·by_cases e1:(s1,v1)=(s,v)
   ·injection e1 with e3 e4;subst e3 e4;have q:(s2,v2)≠(s1,v1):=λe=>E e.symm;rw[Xu A]at o;have:=QL o;subst this;rw[Tq q]at t;rw[Q]at hb;intro p;rcases H with d|⟨d,_⟩
    ·rw[d]at hb;exact M.apart s2 v2 y2 s1 v1 z t f q b p hb
    ·rw[hb]at d;have h4:=QL d;have h5:=M.lt s2 v2 y2 b t p;omega
   ·rw[Tq e1]at o;by_cases q:(s2,v2)=(s,v)
    ·injection q with e3 e4;subst e3 e4;rw[Xu A]at t;have:=QL t;subst this;rw[Q];intro p;rcases H with d|⟨d,_⟩
     ·rw[d]at p;exact M.apart s1 v1 y1 s2 v2 z o f e1 b hb p
     ·rw[p]at d;have h4:=QL d;have h5:=M.lt s1 v1 y1 b o hb;omega
    ·rw[Tq q]at t;exact M.apart s1 v1 y1 s2 v2 y2 o t E b hb
  ·have C6:=(C.sl.up (w':=u)).up (w':=r)
   have S7:Bh 142 G c.v V:=by
    by_cases q:(U,h0)=(s,v)
    ·have F:=hc q;obtain⟨o,t⟩:=F;rw[f]at o;have b2:=QL o;subst b2;rw[t]at C6 ⊢;rcases H with d|⟨_,d⟩
     ·by_cases h0:L s v=[]
      ·rw[h0]at C6 ⊢;exact⟨by obtain⟨a,c,e⟩:=C6.1.shape;rw[e];exact AQ.nil' _ _ _,.inl rfl⟩
      ·have F:=O6.shape;obtain⟨a,c,e⟩:=F;have a5:=O6;rw[e]at a5;have F:=a5.blk h0;obtain⟨g,b3,h4,_,_,h5,h6,_⟩:=F;have a0:=Y;have F:=Y.shape;obtain⟨a7,c7,e7⟩:=F;rw[e7]at a0;have F:=a0.blk (by simp);obtain⟨g7,c2,h8,_,_,h9,c4,_,_,c5⟩:=F;rw[e,e7,h4,h8]at d;have b5:g7=g:=QL d;subst b5;rw[e,h4];refine⟨⟨_,c,rfl,h6,.inr ⟨g7,0,rfl,?_⟩⟩,.inr ⟨g7,_,_,rfl,h9⟩⟩;intro j u hj;have a6:=a0.sl;rw[h8]at a6;obtain⟨a',c',b7,_,a1⟩:=a6;injection b7 with i1 i2 i3;rcases a1 with a1|⟨b',o',a8,b8⟩
       ·simp at a1
       ·rw[<-i1]at a8;have b9:=QL a8;injection b9 with i4 i5;subst i4 i5;exact b8 j u (by rw[Ez,VL (Qy.1 hj).1];exact hj)
     ·exact C6.fr d λ_ _ _ _ _ h=>h
    ·refine C6.frN K λb E hb h=>?_;exact C.ap E b hb s v z f (λe=>q e.symm) h.2.1
   exact S7.fro (R7 s) W
  ·intro E b hb s' S z' h' Z;by_cases q:(s',S)=(s,v)
   ·injection q with e3 e4;subst e3 e4;rw[Xu A]at h';have:=QL h';subst this;rw[Q];intro p;rcases H with d|⟨d,_⟩
    ·rw[d]at p;exact C.ap E b hb s' S z f Z p
    ·rw[p]at d;have h4:=QL d;have h5:=C.sl.1.blt E hb;omega
   ·rw[Tq q]at h';exact C.ap E b hb s' S z' h' Z
  ·have g1:Cl (gX gb) B hE w r:=(Cl.ext e.e).trans (Cl.ext e6.e);have g2:Cl (gX gb) B hE r G:=(O6.wrote K (Qe _) (show 142∈hE by decide)).x (Qe _) λ_ h=>h;have g3:Cl (gX gb) B hE G I:=W.mono λi _ hi=>.inl (by have:=a4 i hi;subst this;cases s;exact .inr rfl;exact .inl rfl);exact(g1.trans g2).trans g3
 have a9:¬(bl=gb s\/AV B z.v bl):=by
  rintro(h|h)
  ·have o:=M.cell.h;obtain⟨g,b3,t,_,_,d,_⟩:=(M.row s).blk (by intro h0;rw[h0]at A;cases A);injection t with t;injection t with t;subst t;rw[h,d]at o;injection o with o;injection o with _ o;exact absurd o (by decide)
  ·exact M.cell.notOwn O (by decide) h
 have row:∀u,AC w u->AD B 137 u (.slice (some ⟨gb s,0,none⟩) n n) (X s):=λu e=>(M.row s).up;have c0:z.v=.slice z.a z.n z.c:=rfl;have c6:z.n=(L s v).length:=by rw[c0]at O;exact O.sl.len
 rcases b0 with⟨hs,rfl⟩|⟨hs,rfl⟩
 all_goals
  refine eN ?_;refine BM λbx w1 n1 B1=>?_;have c8:=n1.lo (u:=w);have B1:Bk w1 bx (enc x) 142:=B1;refine dT (λi=>i=gb s\/AV B z.v i) (oL [0,1,2,3,4,5,6,8] (.duo 7 (oL [9,10,11,12] .nil) 9 (.lone 7 (oL [10,11,12] .nil)))) λu e=>?_;have su:AC w u:=stp;refine NE (B:=M.cell) (v:=.slice (some ⟨gb s,0,none⟩) n n) (by rw[hs];rfl) a9 (NE (B:=M.cell) (v:=.slice (some ⟨gb s,0,none⟩) n n) (by rw[hs];rfl) a9 (CN (i:=v) ((row u su).sl) f λb4 o4 A4 _=>?_))
  refine tG B1 x (by
   rintro(h|h)
   ·omega
   ·have:=O.wr h;omega) ?_
  have Ou:=O.up (w':=u);refine⟨AF (A4.cell0 rfl) ⟨Fr.refl _ _,bS x λb6 r e6 _ S6=>⟨Fr.fr e6.e,?_⟩⟩,bS x λb6 r e6 _ S6=>⟨Fr.fr e6.e,AF ((A4.up (w':=r)).cell0 rfl) ⟨Fr.refl _ _,?_⟩⟩⟩
  all_goals
   have z6:=e6.e.size;have zu:=su.e.size;refine Po ⟨rfl,rfl⟩ (Ou.up (w':=r)) S6 (by simp) (by omega) (by simp only[QA,QZ];omega) λJ G Y K H=>⟨K.mono λi _ hi=>.inr hi,?_⟩;have R7:=((row u su).up (w':=r)).fro (Ou.up (w':=r)) K;refine ET rfl R7 (i:=v) f λg5 c1 _ A5=>CW rfl (Fi J) R7 c1 A (by obtain⟨a7,c7,rfl⟩:=Y.shape;rfl) λI O8 W z8=>⟨W.mono λi _ h=>.inl (QL h.2.1).symm,?_⟩;exact fin u r G I J su e6 Y K H O8 W z8
end
structure Ih (ps:List (AG×AG)) (n:Int) (ok:Bool):Prop where
 no:ok=false->n=0/\∀p∈ps,p.1.v≠p.2.v
 yes:ok=true->(∃p∈ps,p.1.v=p.2.v/\n=p.1.d+p.2.d)/\∀p∈ps,p.1.v=p.2.v->n<=p.1.d+p.2.d
theorem Ih.skip{ps:List (AG×AG)}{n:Int}{ok:Bool}(h:Ih ps n ok){p:AG×AG}(c:p.1.v≠p.2.v\/ok=true/\n<=p.1.d+p.2.d):Ih (ps++[p]) n ok:=by
 refine⟨λh0=>⟨(h.no h0).1,λq b=>?_⟩,λl=>⟨?_,λq b e=>?_⟩⟩
 ·have f:=Qf.1 b;rcases f with b|b
  ·exact(h.no h0).2 q b
  ·rw[Qc.1 b];rcases c with c|⟨c,_⟩
   ·exact c
   ·rw[h0]at c;cases c
 ·have f:=(h.yes l).1;obtain⟨q,b,o⟩:=f;exact⟨q,QN _ b,o⟩
 ·have f:=Qf.1 b;rcases f with b|b
  ·exact(h.yes l).2 q b e
  ·rw[Qc.1 b]at e ⊢;rcases c with c|⟨_,c⟩
   ·exact absurd e c
   ·exact c
theorem Ih.take{ps:List (AG×AG)}{n:Int}{ok:Bool}(h:Ih ps n ok){p:AG×AG}(f:p.1.v=p.2.v)(c:ok=false\/p.1.d+p.2.d<n):Ih (ps++[p]) (p.1.d+p.2.d) true:=by
 refine⟨(λh0=>nomatch h0),λ_=>⟨⟨p,by simp,f,rfl⟩,λq b e=>?_⟩⟩;have l:=Qf.1 b;rcases l with b|b
 ·rcases c with c|c
  ·exact absurd e ((h.no c).2 q b)
  ·cases ok with
   |false=>exact absurd e ((h.no rfl).2 q b)
   |true=>have:=(h.yes rfl).2 q b e;omega
 ·rw[Qc.1 b];exact Vr _
theorem Ih.all{a b:List AG}{n:Int}{ok:Bool}(h:Ih (a.flatMap λx=>b.map λy=>(x,y)) n ok):TO a b n ok:=by
 have m:∀{x y:AG},(x,y)∈(a.flatMap λx=>b.map λy=>(x,y))↔x∈a/\y∈b:=λ{x y}=>by
  rw[VP];constructor
  ·rintro⟨r,c,d⟩;have f:=Qq.1 d;obtain⟨s,l,o⟩:=f;injection o with h5 h6;subst h5 h6;exact⟨c,l⟩
  ·rintro⟨c,d⟩;exact⟨x,c,Qq.2 ⟨y,d,rfl⟩⟩
 refine⟨λh0=>⟨(h.no h0).1,λx p y q=>(h.no h0).2 (x,y) (m.2 ⟨p,q⟩)⟩,λc=>⟨?_,λx p y q e=>(h.yes c).2 (x,y) (m.2 ⟨p,q⟩) e⟩⟩;have f:=(h.yes c).1;obtain⟨⟨x,y⟩,d,l,o⟩:=f;have:=m.1 d;exact⟨x,this.1,y,this.2,l,o⟩
def KV (l:List AG):Prop:=l.length<=1000/\∀x∈l,0<=x.d/\x.d<=1000
theorem wG{c c2:Nat}{la lb:List AG}(S:AQ w (.slice a n c) la)(T:AQ w (.slice a2 n2 c2) lb)(U:KV la)(hb:KV lb):
  Sp PP 92 #[.slice a n c,.slice a2 n2 c2] w λv w'=>(∃m ok,v=.tuple #[.int .i64 m,.bool ok]/\TO la lb m ok)/\AC w w':=by
 have f:=S.len;obtain rfl:=f;have f:=T.len;obtain rfl:=f;have a0:=U.1;have a1:=hb.1;refine eN ?_;refine cP 15 [8,9,10,11] 6 7 14 la.length (λk A C u=>∃m ok,A=.int .i64 m/\C=.bool ok/\Ih ((la.take k).flatMap λx=>lb.map λy=>(x,y)) m ok/\AC w u) ⟨0,false,rfl,rfl,⟨λ_=>⟨rfl,by simp⟩,(λh=>nomatch h)⟩,stp⟩ ?_;rintro k A C G u hk ⟨m,ok,rfl,rfl,P,su⟩;refine ite (λBS=>?_) (λa4=>?_)
 ·have l:k<la.length:=by omega
  have E:=U.2 la[k] (Qa l);have f:∃x,x=la[k]:=⟨_,rfl⟩;obtain⟨x,F⟩:=f;rw[<-F]at E;refine Bp (S.up (w':=u)) (i:=k) (x:=x) (by rw[F];simp) λb1 o1 A1=>Ah A1 rfl (Ao λbx w1 n1 X1=>?_);have a5:=n1.lo (u:=w);refine rE X1 x λV H f2 _=>?_;have H:Bk V bx (enc x) 142:=H;have t2:AC w V:=⟨Fr.st (lE w w1) f2 λi hi=>by omega⟩;have hP:((la.take (k+1)).flatMap λx=>lb.map λy=>(x,y))=((la.take k).flatMap λx=>lb.map λy=>(x,y))++lb.map λy=>(x,y):=by rw[Ci l,Jl,F];simp
  refine cP 21 [10,11] 6 7 20 lb.length (λj A C o=>∃m ok,A=.int .i64 m/\C=.bool ok/\Ih (((la.take k).flatMap λx=>lb.map λy=>(x,y))++(lb.take j).map λy=>(x,y)) m ok/\Bk o bx (enc x) 142/\AC w o) ⟨m,ok,rfl,rfl,by simpa using P,H,t2⟩ ?_;clear P;rintro j v3 v4 G2 o hj ⟨m,ok,rfl,rfl,P,X3,I⟩;refine ite (λW=>?_) (λX=>?_)
  ·have b:j<lb.length:=by omega
   have J:=hb.2 lb[j] (Qa b);have f:∃y,y=lb[j]:=⟨_,rfl⟩;obtain⟨y,K⟩:=f;rw[<-K]at J;have t:(((la.take k).flatMap λx=>lb.map λy=>(x,y))++(lb.take (j+1)).map λy=>(x,y))=(((la.take k).flatMap λx=>lb.map λy=>(x,y))++(lb.take j).map λy=>(x,y))++[(x,y)]:=by rw[Ci b,QB,<-Qp,K];rfl
   refine Bp (T.up (w':=o)) (i:=j) (x:=y) (by rw[K];simp) λb4 o4 A4=>Ah A4 rfl (Ao λL w4 n4 X4=>?_);have a6:=n4.lo (u:=o);refine rE X4 y λq r f5 _=>?_;have r:Bk q L (enc y) 142:=r;have t5:AC o q:=⟨Fr.st (lE o w4) f5 λi hi=>by omega⟩;have s:=X3.mv (w:=q);refine rX s rfl (rX r rfl ?_)
   have skip:(x.v≠y.v\/ok=true/\m<=x.d+y.d)->∃z e,Value.int .i64 m=.int .i64 z/\Value.bool ok=.bool e/\Ih (((la.take k).flatMap λx=>lb.map λy=>(x,y))++(lb.take (j+1)).map λy=>(x,y)) z e/\Bk q bx (enc x) 142/\AC w q:=λh =>
    ⟨m,ok,rfl,rfl,by rw[t];exact P.skip h,s,stp⟩
   have take:x.v=y.v->(ok=false\/x.d+y.d<m)->∃z e,Value.int .i64 (x.d+y.d)=.int .i64 z/\Value.bool true=.bool e/\Ih (((la.take k).flatMap λx=>lb.map λy=>(x,y))++(lb.take (j+1)).map λy=>(x,y)) z e/\Bk q bx (enc x) 142/\AC w q:=λh h' =>
    ⟨x.d+y.d,true,rfl,rfl,by rw[t];exact P.take (p:=(x,y)) h h',s,stp⟩
   refine ite (λY=>?_) (λM=>?_)
   ·cases ok with
    |false =>
     refine rX s rfl (rX r rfl ?_);refine rA ?_;exact rA ⟨rfl,b,take Y (.inl rfl)⟩
    |true =>
     refine rX s rfl (rX r rfl ?_);refine rA (ite (λZ=>?_) (λZ=>?_))
     ·refine rX s rfl (rX r rfl ?_);refine rA ?_;exact rA ⟨rfl,b,take Y (.inr Z)⟩
     ·exact rA ⟨rfl,b,skip (.inr ⟨rfl,by omega⟩)⟩
   ·exact rA ⟨rfl,b,skip (.inl M)⟩
  ·have O:j=lb.length:=by omega
   rw[O,Qg,<-hP]at P;exact rA ⟨rfl,l,m,ok,rfl,rfl,P,I⟩
 ·have Q:k=la.length:=by omega
  rw[Q,Qg]at P;exact⟨⟨m,ok,rfl,P.all⟩,su⟩
section
variable {B bl n:Nat} {gb:Bool->Nat} {X:Bool->List SV} {L:Bool->Nat->List AG} {w w':World}
theorem pF(M:Ec B bl n gb X L w)(Q:n<=200){s:Bool}{v d bo:Nat}(A:v<n)(hd:d<=200){h:Nat}{cs:SV}{o:List AG}(C:Ix X (!s) h cs o w)(l:Bk w bo [cs.v] 137)(x:KV (L s v))(y:KV o){fn:FuncId}{cap:List Value}
  (p:s=false/\fn=91/\cap=[.pointer (some ⟨bo,0,none⟩),.pointer (some ⟨bl,0,none⟩)]\/s=true/\fn=93/\cap=[.pointer (some ⟨bl,0,none⟩),.pointer (some ⟨bo,0,none⟩)]):
  Sp PP fn ([Value.int .i64 (v:Int),Value.int .i64 (d:Int)]++cap).toArray w λr w'=>(∃b:Bool,r=.bool b/\(b=true↔if s then Mh (L s v) o d else Mh o (L s v) d))/\AC w w':=by
 have E:v<(X s).length:=by rw[M.len];exact A
 have c:(X s)[v]? = some (X s)[v]:=by simp
 have F:∃z,z=(X s)[v]:=⟨_,rfl⟩;obtain⟨z,G⟩:=F;rw[<-G]at c;have O:=M.own s v z c;rcases p with⟨rfl,rfl,rfl⟩|⟨rfl,rfl,rfl⟩
 ·refine eN ?_;refine dQ 12 λu e=>tX l rfl nf (tX M.cell rfl nf (CN (i:=v) (((M.row false).up (w':=u)).sl) c λH J q _=>AP (q.cell0 rfl) nf (AA (wG (C.sl.1.up (w':=u)) (O.sl.up (w':=u)) y x) ?_)));rintro _ K ⟨⟨m,ok,rfl,R⟩,t⟩;refine⟨t.e,?_⟩;have I:=R.iff d
  cases ok with
  |false=>exact⟨⟨false,rfl,⟨(λh=>nomatch h),λh=>by have:=I.2 h;cases this.1⟩⟩,stp⟩
  |true =>
   refine ite (λf=>?_) (λf=>?_)
   ·exact⟨⟨true,rfl,⟨λ_=>I.1 ⟨rfl,f⟩,λ_=>rfl⟩⟩,stp⟩
   ·exact⟨⟨false,rfl,⟨(λh=>nomatch h),λh=>absurd (I.2 h).2 f⟩⟩,stp⟩
 ·refine eN ?_;refine dQ 12 λu e=>tX M.cell rfl nf (CN (i:=v) (((M.row true).up (w':=u)).sl) c λH J q _=>AP (q.cell0 rfl) nf (tX l rfl nf (AA (wG (O.sl.up (w':=u)) (C.sl.1.up (w':=u)) x y) ?_)));rintro _ K ⟨⟨m,ok,rfl,R⟩,t⟩;refine⟨t.e,?_⟩;have I:=R.iff d
  cases ok with
  |false=>exact⟨⟨false,rfl,⟨(λh=>nomatch h),λh=>by have:=I.2 h;cases this.1⟩⟩,stp⟩
  |true =>
   refine ite (λf=>?_) (λf=>?_)
   ·exact⟨⟨true,rfl,⟨λ_=>I.1 ⟨rfl,f⟩,λ_=>rfl⟩⟩,stp⟩
   ·exact⟨⟨false,rfl,⟨(λh=>nomatch h),λh=>absurd (I.2 h).2 f⟩⟩,stp⟩
end
structure dU (g:Al) (dir:Int) (h:Nat) (P:Nat->Nat->Prop) (fN fA fT:FuncId) (cN cA cT:List Value) (B:Nat) (Y:Nat->Prop) (W:World) (St:(Nat->Option Nat)->World->Prop):Prop where
 next:∀A u v,St A u->v<g.n->Sp PP fN ([Value.int .i64 (v:Int)]++cN).toArray u λrv w'=>(∃a c,rv=.slice a (Ag g dir v).length c/\AQ w' (.slice a (Ag g dir v).length c) (AH (Ag g dir v))/\∀b,Ag g dir v≠[]->Value.blk (.slice a (Ag g dir v).length c)=some b->b<W.heap.size)/\AC u w'
 test:∀A u (v d:Nat),St A u->v<g.n->d<=200->A v=none->Sp PP fT ([Value.int .i64 (v:Int),Value.int .i64 (d:Int)]++cT).toArray u λr w'=>(∃b:Bool,r=.bool b/\(b=true↔P v d))/\AC u w'
 add:∀A u (v d:Nat),St A u->v<g.n->d<g.n->A v=none->Sp PP fA ([Value.int .i64 (v:Int),agg (⟨(h:Int),(d:Int)⟩:AG)]++cA).toArray u λ_ w'=>(∃A',(∀u,A' u=if u=v then some d else A u)/\St A' w')/\Cl Y B hE u w'
 kept:∀A u u',St A u->BP W.heap.size [4,3] u u'->St A u'
 lo:∀i,Y i->i<W.heap.size
theorem zNB{add:List (Nat×Nat)}{v d:Nat}(h:Kk add v=none)(u:Nat):Kk (add++[(v,d)]) u=if u=v then some d else Kk add u:=by grind[Kk]
theorem zPz{seen:List Bool}{l:List Nat}{w:Nat}(h:seen[w]? = some true):Ni (seen,l) w=(seen,l):=by
 unfold Ni;rw[Qk,h];rfl
theorem zPy{seen:List Bool}{l:List Nat}{w:Nat}(h:seen[w]? = some false):Ni (seen,l) w=(seen.set w true,l++[w]):=by
 unfold Ni;rw[Qk,h];rfl
theorem oA{l:List Nat}(h:l.Nodup)(d:k<l.length):l[k]∉l.take k:=λb=>by
 have c:=QI.1 b;obtain⟨i,hi,e⟩:=c;rw[VI]at e;rw[Qm]at hi;have:=(VQ h).1 e;omega
theorem vG{dir:Int}{h:Nat}{P:Nat->Nat->Prop}{fN fA fT:FuncId}{cN cA cT:List Value}{Y:Nat->Prop}{St:(Nat->Option Nat)->World->Prop}(hg:Bb g)(hd:dir=0\/dir=1)(hh:h<g.n)(C:dU g dir h P fN fA fT cN cA cT B Y w St)(S0:St (λ_=>none) w)(hB:B<=w.heap.size){p:Nat->Nat->Bool}(hp:∀v d,P v d↔p v d=true):
  Sp PP 90 #[.agg #[.func (.func fN) #[] cN.toArray,.func (.func fA) #[] cA.toArray],.int .i64 (g.n:Int),.int .i64 (h:Int),.func (.func fT) #[] cT.toArray] w λ_ w'=>(∃A,aU g dir h P A/\A=Kk (L3 (Ag g dir) p g.n h)/\St A w')/\Cl Y B hE w w':=by
 have h2:=hg.ok.n2
 have stk:∀A u u',St A u->Bn u u'->St A u':=λA u u' S e=>C.kept A u u' S (BP.ext e)
 refine en Ab rfl ?_
 refine BM λbs w1 n1 B1=>?_
 have B1:Bk w1 bs [.func (.func fN) #[] cN.toArray,.func (.func fA) #[] cA.toArray] 145:=B1
 have hbs:=n1.lo (u:=w)
 refine IX false rfl rfl (by omega) λgb w2 O2 s2 hgb=>?_
 have z1:=Le.size (a:=w) (b:=w1)
 refine Fo rfl O2 (x:=false) (i:=h) (by rw[List.getElem?_replicate,if_pos hh]) λg' hg' hB' A=>?_
 have hgg:gb=g':=Option.some.inj hg'
 subst hgg
 refine Ke rfl true O2 hg' (by simp;omega) rfl λw3 O3 f3 s3 z3=>?_
 have t3:AC w w3:=⟨Fr.st (Le.e (a:=w) (b:=w2)) f3 λi hi=>by have:=hi.1;omega⟩
 refine Ky (vs:=[.int .i64 (h:Int)]) [(h:Int)] rfl rfl rfl (by decide) λbf w5 n5 S5=>?_
 have t5:AC w3 w5:=⟨n5.ext⟩
 have hbf:=n5.lo
 have O5:=(O3.mono (B':=w.heap.size) z1).up (w':=w5)
 have B5:Bk w5 bs [.func (.func fN) #[] cN.toArray,.func (.func fA) #[] cA.toArray] 145:=(B1.mv (w:=w2)).fro O2 f3 (by decide) |>.mv
 have S5':Bh 3 w5 (.slice (some ⟨bf,0,none⟩) 1 1) (AH [h]):=⟨S5,.inr ⟨bf,_,_,rfl,n5.blk⟩⟩
 have tw5:AC w w5:=stp
 refine HF Ab 23 [11,12,13,14,15] 9 10 (λv9 v10 u=>∃d seen fr A Sl fa fc,v9=.slice fa (List.length fr) fc/\v10=.int .i64 ((d:Nat):Int)/\PJ g dir h P d seen fr A Sl/\St A u/\AD w.heap.size 4 u (.slice (some ⟨gb,0,none⟩) g.n g.n) seen /\
   Bh 3 u (.slice fa fr.length fc) (AH fr)/\(fr≠[]->∀b,Value.blk (.slice fa fr.length fc)=some b->w.heap.size<=b)/\Bk u bs [.func (.func fN) #[] cN.toArray,.func (.func fA) #[] cA.toArray] 145/\Cl Y B hE w u/\∃adds,A=Kk adds/\TM (Ag g dir) p (g.n+1 - d) d seen adds fr=L3 (Ag g dir) p g.n h) (λ_ v _=>g.n+1 - (Go.RowKit.intOf v).toNat) rfl
  ⟨0,_,[h],_,_,some ⟨bf,0,none⟩,1,rfl,rfl,PJ.first hh,stk _ _ _ S0 tw5.e,O5,S5',λ_ b hb=>?_,B5,Cl.ext tw5.e,[],rfl,rfl⟩ ?_
 ·have:=Option.some.inj hb
  simp only at this
  have:=Le.size (a:=w) (b:=w3)
  omega
 rintro v9 v10 G u ⟨d,seen,fr,A,Sl,fa,fc,rfl,rfl,I,S,O,SY,hSY,Bs,F0,adds,hA0,hrs⟩
 have zu:=F0.size
 refine ite (λMU=>?_) (λhle=>?_)
 ·have hfn:fr≠[]:=λh=>by rw[h]at MU;exact absurd MU (by decide)
  have hdn:=I.small hfn
  have hfl:fr.length<=g.n:=SD I.fnd λv hv=>I.lt v (I.fs v hv).1
  have hfb:∀b,Value.blk (.slice fa fr.length fc)=some b->b<u.heap.size:=λb hb=>SY.1.blt (by intro h;apply hfn;simpa[AH]using h) hb
  refine eW Ab 31 [12,13,14,15] 11 30 fr.length (λk v u2=>∃seen2 l A2,SrM g dir h P d seen2 fr A Sl (fr.take k) l A2/\St A2 u2/\AD w.heap.size 4 u2 (.slice (some ⟨gb,0,none⟩) g.n g.n) seen2/\AD u.heap.size 3 u2 v (AH l) /\
    Bh 3 u2 (.slice fa fr.length fc) (AH fr)/\Bk u2 bs [.func (.func fN) #[] cN.toArray,.func (.func fA) #[] cA.toArray] 145/\Cl Y B hE w u2/\u.heap.size<=u2.heap.size/\∃adds2,A2=Kk adds2/\(fr.take k).foldl (Ma (Ag g dir) p d) ⟨seen,[],adds⟩=⟨seen2,l,adds2⟩) rfl rfl
   ⟨seen,[],A,I.begin,S,O,AD.nil _ _ _,SY,Bs,F0,Nat.le_refl _,adds,hA0,rfl⟩ ?_
  rintro k v11 G2 u2 hk ⟨seen2,l,A2,M,S2,O2,L2,SY2,Bs2,F2,z2,adds2,hA2f,hfo⟩
  refine ite (λBS=>?_) (λhge=>?_)
  ·have hk1:k<fr.length:=by omega
   have q_:∃v,v=fr[k]:=⟨_,rfl⟩
   obtain⟨v,hv⟩:=q_
   have hvm:v∈fr:=by rw[hv];exact List.getElem_mem hk1
   have hvn:v<g.n:=I.lt v (I.fs v hvm).1
   have hvq:v∉fr.take k:=by rw[hv];exact oA I.fnd hk1
   have hA2:A2 v=none:=by rw[(M.at' v).2.2 hvq];exact(I.fs v hvm).2.2
   have htk:fr.take (k+1)=fr.take k++[v]:=by rw[Ci hk1,hv]
   have hvi:(AH fr)[k]? = some (v:Int):=by rw[hv];exact WQ hk1
   refine Bp SY2.1 hvi λb4 o4 A4=>AF (A4.cell0 rfl) ?_
   refine AA (C.test A2 u2 v d S2 hvn (by omega) hA2) ?_
   rintro _ u3 ⟨⟨b,rfl,hb⟩,e3⟩
   cases b with
   |true =>
    have M':=M.skip hvq (hb.1 rfl)
    rw[<-htk]at M'
    have z3:=e3.e.size
    exact rA ⟨rfl,hk1,seen2,l,A2,M',stk _ _ _ S2 e3.e,O2.up,L2.up,SY2.up,Bs2.mv,F2.trans (Cl.ext e3.e),by omega,adds2,hA2f,by rw[htk,List.foldl_append,hfo];show Ma _ _ _ _ _=_;unfold Ma;rw[if_pos ((hp v d).1 (hb.1 rfl))]⟩
   |false =>
    have hnp:¬P v d:=λh=>by have:=hb.2 h;cases this
    refine Cx (B:=Bs2) rfl ?_
    refine AJ (cs:=enc (⟨(h:Int),(d:Int)⟩:AG)) rfl ?_
    refine AA (C.add A2 u3 v d (stk _ _ _ S2 e3.e) hvn hdn hA2) ?_
    rintro _ u4 ⟨⟨A3,hA3,S4⟩,f4⟩
    have z3:=e3.e.size
    have z4:=f4.size
    have O4:=(O2.up (w':=u3)).keptX f4 (λi hi _ h=>by have:=C.lo i h;omega) (by decide)
    have L4:=(L2.up (w':=u3)).keptX f4 (λi hi _ h=>by have:=C.lo i h;omega) (by decide)
    have SY4:=(SY2.up (w':=u3)).keptX f4 (λi hi h=>by have:=C.lo i h;have:=hSY hfn i hi;omega) (by decide)
    have Bs4:=(Bs2.mv (w:=u3)).keptX f4 (λh=>by have:=C.lo _ h;omega) (by decide)
    have F4:=(F2.trans (Cl.ext e3.e)).trans f4
    refine Cx (B:=Bs4) rfl ?_
    refine AA (C.next A3 u4 v S4 hvn) ?_
    rintro _ u5 ⟨⟨na,nc,rfl,SN,hna⟩,e5⟩
    have z5:=e5.e.size
    have hnl:=NO hg dir v
    refine eW Ab 51 [14,15] 11 50 (Ag g dir v).length (λj v6 u6=>∃seen6 l6,SK g dir h P d seen6 fr A Sl (fr.take k) ((Ag g dir v).take j) l6 A2/\St A3 u6/\AD w.heap.size 4 u6 (.slice (some ⟨gb,0,none⟩) g.n g.n) seen6/\AD u.heap.size 3 u6 v6 (AH l6) /\
      Bh 3 u6 (.slice fa fr.length fc) (AH fr)/\Bk u6 bs [.func (.func fN) #[] cN.toArray,.func (.func fA) #[] cA.toArray] 145/\Cl Y B hE w u6/\u.heap.size<=u6.heap.size/\AQ u6 (.slice na (Ag g dir v).length nc) (AH (Ag g dir v))/\((Ag g dir v).take j).foldl Ni (seen2,l)=(seen6,l6)) rfl rfl
     ⟨seen2,l,M.on,stk _ _ _ S4 e5.e,O4.up (w':=u5),L4.up (w':=u5),SY4.up (w':=u5),Bs4.mv (w:=u5),F4.trans (Cl.ext e5.e),by omega,SN,rfl⟩ ?_
    clear M S2 O2 L2 SY2 Bs2 F2 S4 O4 L4 SY4 Bs4 F4 SN
    rintro j v6 G6 u6 hj ⟨seen6,l6,N,S6,O6,L6,SY6,Bs6,F6,z6,SN6,hfs⟩
    refine ite (λhlt2=>?_) (λhge2=>?_)
    ·have hj1:j<(Ag g dir v).length:=by omega
     have q_:∃y,y=(Ag g dir v)[j]:=⟨_,rfl⟩
     obtain⟨y,hy⟩:=q_
     have hyi:(AH (Ag g dir v))[j]? = some (y:Int):=by rw[hy];exact WQ hj1
     have hym:y∈Ag g dir v:=by rw[hy];exact List.getElem_mem hj1
     have hyn:y<g.n:=IV hg.ok hym
     have hty:(Ag g dir v).take (j+1)=(Ag g dir v).take j++[y]:=by rw[Ci hj1,hy]
     have hlen:l6.length<=g.n:=SD N.lnd λw hw=>(N.lo w hw).2.1
     have hil:(AH l6).length=l6.length:=PO l6
     have q_:=zPA (seen:=seen6) (z:=y) (by rw[N.len];exact hyn)
     obtain⟨sb,hsb⟩:=q_
     refine Bp SN6 hyi λb7 o7 A7=>AF (A7.cell0 rfl) ?_
     refine Bp (i:=y) O6.sl hsb λb8 o8 A8=>AF (A8.cell0 rfl) ?_
     cases sb with
     |true =>
      have N':=N.old hyn hsb
      rw[<-hty]at N'
      exact rA ⟨rfl,hj1,seen6,l6,N',S6,O6,L6,SY6,Bs6,F6,z6,SN6,by rw[hty,List.foldl_append,hfs];exact zPz hsb⟩
     |false =>
      have N':=N.new hyn (by rw[hsb];simp) ((I.fs v hvm).2.1.step hd hym)
      rw[<-hty]at N'
      refine Fo rfl O6 (i:=y) hsb λg9 hg9 hB9 A9=>?_
      have hgg:gb=g9:=Option.some.inj hg9
      subst hgg
      refine CW rfl true O6 hg9 (by rw[N.len];exact hyn) rfl λw9 O9 f9 z9=>?_
      have q9:BP w.heap.size [4,3] u6 w9:=O6.wrote f9 (Nat.le_refl _) (by decide)
      have L9:=L6.fro O6 f9 (by decide)
      have SY9:=SY6.fro O6 f9 (by decide)
      have Bs9:=Bs6.fro O6 f9 (by decide)
      have SN9:=SN6.kept q9 λb hb=>hna b (λh0=>by rw[h0]at hj1;cases hj1) hb
      refine HS (y:Int) rfl rfl (by decide) λb10 w10 e10 _ S10=>?_
      have z10:=e10.e.size
      refine FT ⟨rfl,rfl⟩ (L9.up (w':=w10)) S10 (by omega) (by simp only[List.length_cons,List.length_nil];omega) λv11 w11 O11 f11=>?_
      have q11:BP w.heap.size [4,3] w10 w11:=(L9.up (w':=w10)).wrote f11 zu (by decide)
      have z11:=f11.size
      have O11':AD u.heap.size 3 w11 v11 (AH (l6++[y])):=by rw[Zy];exact O11
      have S11:=C.kept _ _ _ S6 ((q9.trans (BP.ext e10.e)).trans q11)
      have SY11:=(SY9.up (w':=w10)).frN f11 λb _ hb h=>by have:=hfb b hb;have:=h.1;omega
      have F11:Cl Y B hE w w11:=Fr.new (Fr.trans (Fr.new F6 f9 λi hi=>hi.1) (Fr.fr e10.e)) f11 λi hi=>by have:=hi.1;omega
      exact rA ⟨rfl,hj1,_,l6++[y],N',S11,(O9.up (w':=w10)).fro (L9.up (w':=w10)) f11 (by decide),O11',SY11,(Bs9.mv (w:=w10)).fro (L9.up (w':=w10)) f11 (by decide),F11,by omega,
       (SN9.up (w':=w10)).kept q11 λb hb=>hna b (λh0=>by rw[h0]at hj1;cases hj1) hb,by rw[hty,List.foldl_append,hfs];exact zPy hsb⟩
    ·have hjl:j=(Ag g dir v).length:=by omega
     rw[hjl,List.take_length]at N
     have M':=N.done hvq hnp hA3
     rw[<-htk]at M'
     refine rA ⟨rfl,hk1,seen6,l6,A3,M',S6,O6,L6,SY6,Bs6,F6,z6,adds2++[(v,d)],?_,?_⟩
     ·funext u
      rw[hA3,zNB (by rw[<-hA2f];exact hA2),hA2f]
     ·rw[hjl,List.take_length]at hfs
      rw[htk,List.foldl_append,hfo]
      show Ma _ _ _ _ _=_
      unfold Ma
      rw[if_neg (λh=>hnp ((hp v d).2 h))]
      dsimp only
      rw[hfs]
  ·have hkl:k=fr.length:=by omega
   rw[hkl,List.take_length]at M hfo
   have I':=M.next I hfn
   have q_:=L2.shape
   obtain⟨aa,ac,rfl⟩:=q_
   rw[PO]at L2 ⊢
   refine rA ⟨⟨d+1,seen2,l,A2,_,aa,ac,rfl,rfl,I',S2,O2,L2.y,λhl b hb=>?_,Bs2,F2,adds2,hA2f,?_⟩,?_⟩
   ·obtain⟨b',h1,h3,_⟩:=L2.lt (by intro h;apply hl;simpa[AH]using h)
    rw[hb]at h1
    have:=Option.some.inj h1
    omega
   ·rw[<-hrs,show g.n+1 - d=(g.n+1 - (d+1))+1 by omega]
    conv=>rhs;unfold TM
    rw[if_neg hfn,hfo]
   ·show g.n+1 - (((d:Nat):Int)+1).toNat<g.n+1 - (((d:Nat):Int)).toNat
    omega
 ·have hfe:fr=[]:=by
   cases fr with
   |nil=>rfl
   |cons a b=>exact absurd (by simp only[List.length_cons];omega) hle
  subst hfe
  have hlast:A=Kk (L3 (Ag g dir) p g.n h):=by
   rw[hA0,<-hrs]
   generalize g.n+1 - d=m
   cases m<;>rfl
  exact⟨⟨A,I.done,hlast,S⟩,F0⟩
theorem zLM{x:CQ}{r:List BO}(U:Bb g)(R:Hy w x g r):
  Sp PP 85 #[agg x] w λv w'=>(∃v' L,v=.tuple #[v',.int .i64 0]/\L=OU g/\AD w.heap.size 3 w' v' (AH L))/\AC w w':=by
 have h2:=U.ok.n2;have l1:=R.off.len;have Y:=R.rof.len;have q1:=Md g.n g.es;have q3:=Md g.n r;have hI:=U.rowI.len;have hJ:=(U.rowR R.rev').len;refine eN ?_;refine BM λC w1 n1 o=>?_;have o:Bk w1 C (enc x) 82:=o;refine rG o x (AA (Tr U (R.up (w':=w1))) ?_);rintro _ w2 ⟨rfl,e2⟩;refine Ky (α:=AG) (vs:=[]) [] rfl rfl rfl (by decide) λZ w4 n4 S4=>?_;have t4:AC w2 w4:=⟨n4.ext⟩;have OH:AD w.heap.size 212 w4 (.slice (some ⟨Z,0,none⟩) 0 0) ([]:List AG):=AD.nil' _ _ _ _;refine BM λb w5 n5 B5=>?_;have a0:=n5.lo (u:=w);have B5:Bk w5 b [.slice (some ⟨Z,0,none⟩) 0 0] 207:=B5;have N5:NU w.heap.size w5 b (some ⟨Z,0,none⟩) 0 []:=⟨a0,B5,OH.up (w':=w5),by simp⟩;refine Hp (rX o rfl (rI (g.n:Int) ?_))
 refine cN 20 [5] 19 g.n (λk u=>∃l:List AG,ST w.heap.size b l u/\Dp Mc l l.length/\l.Perm ((List.range k).map (Mk g))/\Bk u C (enc x) 82/\AC w u)
  ⟨[],⟨_,_,N5⟩,λc c0 cn=>absurd cn (by simp),.refl _,o.mv,stp⟩ ?_
 ·rintro k G u hk ⟨l,S,hh,E,o,su⟩;have a1:=E.length_eq;rw[Qr,Vm]at a1;refine ite (λBS=>?_) (λb3=>?_)
  ·have a4:k<g.n:=by omega
   have m1:=Rz g.es k;have m2:=Eg g.es (k+1);have m3:=Rz r k;have m4:=Eg r (k+1)
   have F:∀p,Value.blk (.slice x.off.a x.off.n x.off.c)=some p->¬(p≠C/\w.heap.size<=p):=λp h h'=>by
    have:=R.off.blt (by intro h0;rw[h0]at q1;cases q1) h;omega
   have H:∀p,Value.blk (.slice x.rof.a x.rof.n x.rof.c)=some p->¬(p≠C/\w.heap.size<=p):=λp h h'=>by
    have:=R.rof.blt (by intro h0;rw[h0]at q3;cases q3) h;omega
   refine dD (λi=>i≠C/\w.heap.size<=i) (Hq 30 0) λs e1=>tX o rfl (λh=>h.1 rfl) (rF (k+1) (CN (R.off.up (w':=s)) (Kb (v:=k+1) (by omega)) λb7 o7 A7 h7=>AP (A7.cell0 rfl) (F _ h7) (tX o rfl (λh=>h.1 rfl) (CN (R.off.up (w':=s)) (Kb (v:=k) (by omega)) λb6 o6 A6 h6=>AP (A6.cell0 rfl) (F _ h6) (Fg (y:=(BZ g.es (k+1):Int) - BZ g.es k) rfl (by omega) (tX o rfl (λh=>h.1 rfl) (rF (k+1) (CN (R.rof.up (w':=s)) (Kb (v:=k+1) (by omega)) λb7 o7 A7 h7=>AP (A7.cell0 rfl) (H _ h7) (Fg (y:=(BZ g.es (k+1):Int) - BZ g.es k+BZ r (k+1)) rfl (by omega) (tX o rfl (λh=>h.1 rfl) (CN (R.rof.up (w':=s)) (Kb (v:=k) (by omega)) λb6 o6 A6 h6=>AP (A6.cell0 rfl) (H _ h6) ?_)))))))))));have I:=U9 R.rev' k;have⟨y,z⟩:∃y:AG,y=⟨(k:Int),(BZ g.es (k+1):Int) - BZ g.es k+BZ r (k+1) - BZ r k⟩:=⟨_,rfl⟩;have a5:y=Mk g k:=by rw[z,I];rfl
   refine Fg (y:=y.d) (by rw[z]) (by rw[z];show _/\_;dsimp only;omega) (Aq (cs:=enc y) (by rw[z];rfl) (Ud ?_));have S1:=S.up (w':=s);refine AA (qA (pI w.heap.size b) (y:=y) S1 (by omega) hh (zO6 S1 (by omega))) ?_;rintro _ u2 ⟨⟨l2,a6,S2,q⟩,f2⟩;have t2:AC w u2:=⟨BP.st (lE w s) f2 (Qe _)⟩;refine⟨Fr.mono f2 λi _ hi=>⟨λh=>by subst h;exact absurd (hi.cells (o.mv (w:=s)).h) (by decide),hi.1⟩,?_⟩;refine rA ⟨rfl,a4,l2,S2,q,?_,(o.mv (w:=s)).kept f2 (by decide),t2⟩;rw[Jm,QB,QS,JP,<-a5];exact a6.trans (E.append_right _)
  ·have a7:k=g.n:=by omega
   rw[a7]at E
   refine IN Ab 53 [7,8] 6 (λn v u=>∃(out:List Nat) (l':List AG),l'.length=n/\ST w.heap.size b l' u/\Dp Mc l' l'.length/\PH g out l'/\AD w.heap.size 3 u v (AH out)/\AC w u) rfl
    ⟨l.length,[],l,rfl,S,hh,⟨λy z=>by obtain⟨v,_,e⟩:=Qq.1 (E.mem_iff.1 z);exact⟨v,e.symm⟩,E,.nil,λa ha=>nomatch ha⟩,AD.nil _ _ _,su⟩ ?_
   rintro n v G2 u2 ⟨out,l',rfl,S2,q,I2,O2,J⟩;have a8:=I2.perm.length_eq;rw[Qb,Qr,Qr,Vm]at a8;obtain⟨a,c,Q⟩:=S2;refine(Hm.v (P := PP) (t := 205) (name := "Len") (vs := []) (f := 471) Q.ld lM).out rfl rfl rfl rfl ?_
   rintro _ _ ⟨rfl,rfl⟩;refine ite (λMU=>?_) (λb2=>?_)
   ·have K:l'≠[]:=λh=>by rw[h]at MU;exact absurd MU (by decide)
    refine AA (RP (pI w.heap.size b) (RX:=λx v=>v=.iface 212 (agg x)) (zQn w.heap.size b) ⟨a,c,Q⟩ K q) ?_;rintro v2 V ⟨⟨rfl,Y,M,S3,a9⟩,f3⟩;have t3:AC w V:=⟨BP.st J.e f3 (Qe _)⟩;have O3:=O2.kept f3 (by decide);have⟨k0,O,I3⟩:=I2.pop K M (wK uU q);have b0:(By l' 0).v=(k0:Int):=by rw[O];rfl
    refine Te (Ao λbx u4 n4 X4=>?_);have b4:=n4.lo (u:=V);refine rE X4 (By l' 0) λA X5 f5 _=>?_;have t5:AC V A:=⟨Fr.st (lE V u4) f5 λi hi=>by omega⟩;have X5:Bk A bx (enc (By l' 0)) 212:=X5;refine Cx (B:=X5) (v:=.int .i64 (k0:Int)) (by rw[<-b0];rfl) (bS (k0:Int) λb6 W e6 _ S6=>Aw (u:=w) ⟨rfl,rfl⟩ ((O3.up (w':=A)).up (w':=W)) S6 (by rw[PO];omega) λv7 u7 O7 f7 s7=>?_);have T:=M.length_eq;rw[QA]at T;refine⟨Y.length,by omega,out++[k0],Y,rfl,?_,a9,I3,by rw[Zy];exact O7,stp⟩
    ·obtain⟨a3,c3,Q3⟩:=S3;have X:=(Q3.up (w':=A)).up (w':=W);exact⟨a3,c3,X.lo,X.cell.fro ((O3.up (w':=A)).up (w':=W)) f7 (by decide),X.row.fro ((O3.up (w':=A)).up (w':=W)) f7 (by decide),X.size⟩
   ·have b1:l'=[]:=Qn (by omega);subst b1;exact⟨⟨v,out,rfl,I2.done,O2⟩,J⟩
theorem zKr{x:CQ}{r:List BO}{l v:Nat}{w0:World}[Le w0 w][Le w1 w](o:Bb g)(e:Bk w1 l (enc x) 82)(R:Hy w0 x g r)(H:v<g.n):
  Sp PP 86 #[.int .i64 (v:Int),.pointer (some ⟨l,0,none⟩)] w λu w'=>(∃a c,u=.slice a (Ag g 0 v).length c/\AQ w' (.slice a (Ag g 0 v).length c) (AH (Ag g 0 v))/\∀b,Ag g 0 v≠[]->Value.blk (.slice a (Ag g 0 v).length c)=some b->b<w0.heap.size)/\AC w w':=by
 have I:=R.off.len;have J:=R.to.len;have K:=Md g.n g.es;have L:=PL g.es;have M:=o.rowI.n2;refine eN ?_;refine dQ 15 λf O=>?_;have p:=Rz g.es v;have y:=Eg g.es (v+1);refine tX e rfl nf (tX e rfl nf ?_);refine CN (R.off.up (w':=f)) (Kb (v:=v) (by omega)) λQ S z _=>AP (z.cell0 rfl) nf (tX e rfl nf (rF (v+1) (CN (R.off.up (w':=f)) (Kb (v:=v+1) (by omega)) λT U A _=>AP (A.cell0 rfl) nf ?_)));have q:=R.to.up (w':=f);refine Nf (BZ g.es v) (BZ g.es (v+1)) q p (by omega) ?_;have d:=q.part (BZ g.es v) (BZ g.es (v+1)) p (by omega);rw[Uc o.rowI.ris v]at d;have C:Dh (FH g.es v)=AH (Ag g 0 v):=by rw[eV];unfold Dh AH Ha;rw[VM];rfl
 rw[C]at d
 have s:BZ g.es (v+1) - BZ g.es v=(Ag g 0 v).length:=by
  have:=d.len;rw[this];simp[AH]
 rw[s]at d;refine⟨⟨_,_,congrArg (λn=>Value.slice _ n _) s,d,λb h hb=>?_⟩,stp⟩;have t:=(YD x.to.a x.to.n _ x.to.c _ _ _).symm.trans hb;have V:0<(Ag g 0 v).length:=JI.2 h
 have E:Dh g.es≠[]:=by
  intro h0;have W:(Dh g.es).length=0:=by rw[h0];rfl
  omega
 have F:=R.to.lt E;obtain⟨X,G,h5⟩:=F;rw[G]at t;have:=QL t;omega
theorem zKs{x:CQ}{r:List BO}{l v:Nat}{w0:World}[Le w0 w][Le w1 w](o:Bb g)(e:Bk w1 l (enc x) 82)(R:Hy w0 x g r)(I:v<g.n):
  Sp PP 88 #[.int .i64 (v:Int),.pointer (some ⟨l,0,none⟩)] w λy w'=>(∃a c,y=.slice a (Ag g 1 v).length c/\AQ w' (.slice a (Ag g 1 v).length c) (AH (Ag g 1 v))/\∀b,Ag g 1 v≠[]->Value.blk (.slice a (Ag g 1 v).length c)=some b->b<w0.heap.size)/\AC w w':=by
 have J:=R.rof.len;have K:=R.rev.len;have L:=Md g.n r;have M:=PL r;have p:=o.rowR R.rev';have O:=p.n2;refine eN ?_;refine dQ 15 λf Q=>?_;have q:=Rz r v;have z:=Eg r (v+1);refine tX e rfl nf (tX e rfl nf ?_);refine CN (R.rof.up (w':=f)) (Kb (v:=v) (by omega)) λS T A _=>AP (A.cell0 rfl) nf (tX e rfl nf (rF (v+1) (CN (R.rof.up (w':=f)) (Kb (v:=v+1) (by omega)) λU V C _=>AP (C.cell0 rfl) nf ?_)));have s:=R.rev.up (w':=f);refine Nf (BZ r v) (BZ r (v+1)) s q (by omega) ?_;have d:=s.part (BZ r v) (BZ r (v+1)) q (by omega);rw[Uc p.ris v]at d;have E:Dh (FH r v)=AH (Ag g 1 v):=by rw[iU o.er R.rev'];unfold Dh AH Ha;rw[VM];rfl
 rw[E]at d
 have t:BZ r (v+1) - BZ r v=(Ag g 1 v).length:=by
  have:=d.len;rw[this];simp[AH]
 rw[t]at d;refine⟨⟨_,_,congrArg (λn=>Value.slice _ n _) t,d,λb h hb=>?_⟩,stp⟩;have u:=(YD x.rev.a x.rev.n _ x.rev.c _ _ _).symm.trans hb;have W:0<(Ag g 1 v).length:=JI.2 h
 have F:Dh r≠[]:=by
  intro h0;have X:(Dh r).length=0:=by rw[h0];rfl
  omega
 have G:=R.rev.lt F;obtain⟨Y,H,h5⟩:=G;rw[H]at u;have:=QL u;omega
section
variable {P:Program} {T:Cc} {n:Nat} {Q:KS} {F0:Nat->Value} {w:World}
theorem Zg{ops:Array Oper}(m:Nat)(b:List Nat)(d:Nat)(I:KW)(e:KZ m b [d] (.region i ops true)=true)(h:BG P T n (.region i ops true) { Q with nrm:=λl w'=>I (l d) w' } F0 w)
  (o:∀f g w',I f w'->Q.nrm (IH m b [(d,f)] g F0) w'):BG P T n (.region i ops true) Q F0 w:=
 iS (c:=.seq (.region i ops true) .skip) (y:=.skip) m b d I rfl e h o
theorem ZJ{ops:Array Oper}(m:Nat)(b:List Nat)(d e:Nat)(I:Value->KW)(f:KZ m b [d,e] (.region i ops true)=true)(p:BG P T n (.region i ops true) { Q with nrm:=λh w'=>I (h d) (h e) w' } F0 w)
  (q:∀l o g w',I l o w'->Q.nrm (IH m b [(d,l),(e,o)] g F0) w'):BG P T n (.region i ops true) Q F0 w:=
 eZ (c:=.seq (.region i ops true) .skip) (y:=.skip) m b d e I rfl f p q
end
section
variable {B bl n:Nat} {gb:Bool->Nat} {X:Bool->List SV} {L:Bool->Nat->List AG} {w w':World}
theorem Ec.ne(M:Ec B bl n gb X L w)(p:0<n){b:Nat}{cs:Array Value}{e:TypeId}{z:Nat×Nat}(h:w.heap[b]? = some (.cells cs e z))(d:e≠137):¬gX gb b:=by
 have f:∀s,b≠gb s:=λs hb=>by
  obtain⟨g,l,c,_,_,o,_⟩:=(M.row s).blk (by intro h0;have:=M.len s;rw[h0]at this;simp at this;omega);injection c with c;injection c with c;subst c hb;rw[o]at h;injection h with h;injection h with _ h;exact d h.symm
 rintro(h|h)
 ·exact f true h
 ·exact f false h
def GN (L:Bool->Nat->List AG) (s:Bool) (h:Nat) (A:Nat->Option Nat):Bool->Nat->List AG:=λs' v=>if s'=s then I7 h A (L s) v else L s' v
theorem rU(s:Bool)(h:Nat):GN L s h (λ_=>none)=L:=by
 funext s' v;unfold GN I7;by_cases e:s'=s
 ·subst e;rw[if_pos rfl]
 ·rw[if_neg e]
theorem nZ{s:Bool}{h v:Nat}{A:Nat->Option Nat}(b:A v=none):GN L s h A s v=L s v:=by
 unfold GN I7;rw[if_pos rfl,b]
theorem zOL{s:Bool}{h v d:Nat}{A b:Nat->Option Nat}(e:A v=none)(c:∀u,b u=if u=v then some d else A u):PI (GN L s h A) s v (GN L s h A s v++[⟨(h:Int),(d:Int)⟩])=GN L s h b:=by grind[PI,GN,I7]
structure MO (w:World) (x:CQ) (g:Al) (B bl br:Nat) (gb bc:Bool->Nat) (h:Nat) (c:Bool->SV) (K:Bool->List AG) (L:Bool->Nat->List AG) (s:Bool) (A:Nat->Option Nat) (u:World) (X:Bool->List SV):Prop where
 M:Ec B bl g.n gb X (GN L s h A) u
 C:∀s',Ix X s' h (c s') (K s') u
 a:A h=none->(X s)[h]? = some (c s)
 o:s=false->(X true)[h]? = some (c true)
 bc:∀s',Bk u (bc s') [(c s').v] 137
 br:Bk u br (enc x) 82
 st:Bn w u
theorem MO.src{w W:World}[Le w W]{x:CQ}{r:List BO}{B bl J h:Nat}{gb t:Bool->Nat}{c:Bool->SV}{K:Bool->List AG}{L:Bool->Nat->List AG}{s:Bool}(O:Bb g)(R:Hy w x g r)(hh:h<g.n)(hB:B<=w.heap.size)(a0:w.heap.size<=B)(Q:∀s',¬gX gb (t s')/\t s'<W.heap.size)(a1:J<W.heap.size)
  (S:∀i,gX gb i->i<W.heap.size)(hK:K s=L s h)(T:∀v,KV (L s v))(y:KV (K (!s))):
  dU g (if s then 1 else 0) h (λv d=>if s then Mh (L s v) (K (!s)) d else Mh (K (!s)) (L s v) d) (if s then 88 else 86) (if s then 89 else 87) (if s then 93 else 91)
   [.pointer (some ⟨J,0,none⟩)] [.pointer (some ⟨bl,0,none⟩)] (if s then[.pointer (some ⟨bl,0,none⟩),.pointer (some ⟨t false,0,none⟩)] else[.pointer (some ⟨t true,0,none⟩),.pointer (some ⟨bl,0,none⟩)]) B (gX gb) W
   (λA u=>W.heap.size<=u.heap.size/\∃X,MO w x g B bl J gb t h c K L s A u X):=by
 have U:=O.ok.n2;have zW:=lz w W;refine⟨?_,?_,?_,?_,S⟩
 ·rintro A u v ⟨V,X,H⟩ l;have su:AC w u:=⟨H.st⟩
  cases s with
  |false =>
   refine(zKr (w0:=w) (w1:=u) O H.br R l).mono ?_;rintro _ I ⟨⟨a,c,rfl,Y,Z⟩,e⟩;exact⟨⟨a,c,rfl,Y,λb p hb=>QJ (Z b p hb) zW⟩,e⟩
  |true =>
   refine(zKs (w0:=w) (w1:=u) O H.br R l).mono ?_;rintro _ I ⟨⟨a,c,rfl,Y,Z⟩,e⟩;exact⟨⟨a,c,rfl,Y,λb p hb=>QJ (Z b p hb) zW⟩,e⟩
 ·rintro A u v d ⟨V,X,H⟩ l hd E;have q:=nZ (L:=L) (s:=s) (h:=h) E
  cases s with
  |false =>
   refine(pF H.M U (s:=false) l hd (H.C true) (H.bc true) (by rw[q];exact T v) y (.inl ⟨rfl,rfl,rfl⟩)).mono ?_;rintro r I ⟨⟨b,rfl,hb⟩,e⟩;rw[q]at hb;exact⟨⟨b,rfl,hb⟩,e⟩
  |true =>
   refine(pF H.M U (s:=true) l hd (H.C false) (H.bc false) (by rw[q];exact T v) y (.inr ⟨rfl,rfl,rfl⟩)).mono ?_;rintro r I ⟨⟨b,rfl,hb⟩,e⟩;rw[q]at hb;exact⟨⟨b,rfl,hb⟩,e⟩
 ·rintro A u v d ⟨V,X,H⟩ l hd E;have q:=nZ (L:=L) (s:=s) (h:=h) E;have hD:=zNf H.M (by omega) l U (⟨(h:Int),(d:Int)⟩:AG) (s:=s) (by rw[q];exact(T v).1) (fn:=if s then 89 else 87) (by cases s;exact .inl ⟨rfl,rfl⟩;exact .inr ⟨rfl,rfl⟩);refine hD.mono ?_;rintro r I ⟨⟨z,M2,hC⟩,f⟩;refine⟨⟨λu=>if u=v then some d else A u,λ_=>rfl,by have:=f.size;omega,If X s v z,⟨?_,λs'=>hC s' h (c s') (K s') (H.C s') λe=>?_,λe=>?_,λe=>?_,λs'=>(H.bc s').keptX f (Q s').1 (by decide),H.br.keptX f (H.M.ne (by omega) H.br.h (by decide)) (by decide),?_⟩⟩,f⟩
  ·rw[zOL E λ_=>rfl]at M2;exact M2
  ·injection e with e1 F;subst e1 F;exact⟨H.a E,by rw[q];exact hK⟩
  ·by_cases F:h=v
   ·rw[if_pos F]at e;cases e
   ·rw[if_neg F]at e;rw[Tq λG=>F (by injection G)];exact H.a e
  ·rw[Tq λG=>by injection G with G;rw[<-G]at e;cases e];exact H.o e
  ·refine Fr.st H.st f λi hi=>?_;rcases hi with hi|hi
   ·have:=(H.M.gx true (by omega)).2;have:=(H.M.gx false (by omega)).2;rcases hi with hi|hi<;>omega
   ·have:=hi.1;omega
 ·rintro A u u' ⟨V,X,H⟩ f;exact⟨by have:=f.size;omega,X,⟨H.M.kept f (by decide) (by decide) (by decide),λs'=>(H.C s').kept f (by decide),H.a,H.o,λs'=>(H.bc s').kept f (by decide),H.br.kept f (by decide),Fr.st H.st f λi hi=>by have:=hi.1;omega⟩⟩
theorem T8{l:List AG}(y:g.n<=200)(h:∀e∈l,∃m d:Nat,e=⟨(m:Int),(d:Int)⟩/\m<g.n/\d<g.n)(f:(l.map (·.v)).Nodup):KV l:=by
 refine⟨?_,λe o=>?_⟩
 ·have q:(l.map λe=>e.v.toNat).Nodup:=by
   unfold List.Nodup at f ⊢;rw[QY]at f ⊢;refine f.imp_of_mem λ{a b} r hb p e=>p ?_;have c:=h a r;obtain⟨m,d,rfl,_⟩:=c;have c:=h b hb;obtain⟨z,d',rfl,_⟩:=c;dsimp only at e ⊢;omega
  have s:=SD (n:=g.n) q λx t=>by
   have c:=Qq.1 t;obtain⟨e,o,rfl⟩:=c;have c:=h e o;obtain⟨m,d,rfl,u,_⟩:=c;dsimp only;omega
  rw[Qr]at s;omega
 ·have c:=h e o;obtain⟨m,d,rfl,u,A⟩:=c;dsimp only;omega
theorem H9.hb{q:List Nat}{b o:Nat->List AG}(I:H9 g q b o)(p:g.n<=200)(v:Nat):KV (b v)/\KV (o v):=
 ⟨T8 p (λe c=>by obtain⟨m,d,f,_,h,l,_⟩:=I.so v e c;exact⟨m,d,f,h,l⟩) (I.no v),T8 p (λe c=>by obtain⟨m,d,f,_,h,l,_⟩:=I.si v e c;exact⟨m,d,f,h,l⟩) (I.ni v)⟩
theorem Pt(a b:OA)(n m c d:Nat):∀u∈[Value.slice a n c,.slice b m d],u.oneCell'=true:=by intro u e;simp at e;rcases e with rfl|rfl<;>rfl
theorem RZ(f f':Fn)(a b c d:Array Value):∀u∈[Value.func f a b,.func f' c d],u.oneCell'=true:=by intro u e;simp at e;rcases e with rfl|rfl<;>rfl
theorem zNR(g:Al):(OU g).Perm (List.range g.n):=by
 refine(JM ?_ Xj).2 λa=>Pd a _;refine(Tw (TJ g) (List.range g.n)).imp λ{a b} h e=>?_;subst e;exact(TJ g).irr a h
theorem nW{a b:List AG}{d:Nat}:Mh a b d↔Oa a b d=true:=by grind[Mh,Oa]
theorem zP7(L:Pl)(s:Bool)(h:Nat)(A:Nat->Option Nat):Sc L s h A=GN L s h A:=by
 funext s' v;unfold Sc GN I7;split
 ·cases A v<;>rfl
 ·rfl
theorem wV{x:CQ}{r:List BO}{w:World}(hg:Bb g)(R:Hy w x g r):
  Sp PP 51 #[agg x] w λv w'=>(∃gb bl X L q,L=Sn g/\v=.tuple #[.agg #[.slice (some ⟨gb true,0,none⟩) g.n g.n,.slice (some ⟨gb false,0,none⟩) g.n g.n],.int .i64 0]/\Ec w.heap.size bl g.n gb X L w'/\(∀v,v<g.n->v∈q)/\H9 g q (L true) (L false))/\AC w w':=by
 have h2:=hg.ok.n2;refine eN ?_;refine BM λE w1 n1 B1=>?_;have B1:Bk w1 E (enc x) 82:=B1;have e9:=n1.lo (u:=w);refine Ao λbz w2 n2 Z2=>?_;have f0:=n2.lo (u:=w);have d2:=Z2.lt;refine rG B1 x (AA (Tr hg (R.up (w':=w2))) ?_);rintro _ w3 ⟨rfl,e3⟩;refine rG B1 x (AA (zLM hg (R.up (w':=w3))) ?_);rintro _ W ⟨⟨vh,q,rfl,c2,OH⟩,e4⟩;have hp:q.Perm (List.range g.n):=by rw[c2];exact zNR g
 refine iF (· rfl) ?_;have c3:q.length=g.n:=by rw[hp.length_eq,Vm]
 have a7:(AH q).length=g.n:=by rw[PO];exact c3
 have Y:=OH.shape;obtain⟨ah,ch,hv⟩:=Y;rw[a7]at hv;subst hv;have z4:=lz w W
 refine Zg 29 [] 7 (λv u=>∃t y bl,v=.pointer (some ⟨bl,0,none⟩)/\t≠y/\W.heap.size<=bl/\AD w.heap.size 137 u (.slice (some ⟨t,0,none⟩) g.n g.n) (List.replicate g.n (⟨none,0,0⟩:SV))/\AD w.heap.size 137 u (.slice (some ⟨y,0,none⟩) g.n g.n) (List.replicate g.n (⟨none,0,0⟩:SV)) /\
  Bk u bl [.slice (some ⟨t,0,none⟩) g.n g.n,.slice (some ⟨y,0,none⟩) g.n g.n] 88/\AC W u) rfl ?_ ?_
 ·refine dT (λi=>W.heap.size<=i) (.one 0 (.one 2 (.tri 1 (.duo 3 (.one 4 (.lone 5 (.lone 6 .nil))) 5 (.lone 3 (.one 4 (.lone 6 .nil)))) 3 (.duo 1 (.one 4 (.lone 5 (.lone 6 .nil))) 5 (.lone 1 (.one 4 (.lone 6 .nil)))) 5 (.duo 1 (.lone 3 (.one 4 (.lone 6 .nil))) 3 (.lone 1 (.one 4 (.lone 6 .nil))))))) λu e=>?_;have z5:=lz W u
  have c4:List.replicate g.n (⟨none,0,0⟩:SV)≠[]:=by
   intro h;have h3:=congrArg List.length h;rw[List.length_replicate]at h3;have h4:g.n=0:=h3;have:=hg.ok.n1;omega
  refine⟨IX (α:=SV) ⟨none,0,0⟩ rfl rfl (by omega) λt uA Og a8 a0=>⟨Fr.fr a8.e,⟨IX (α:=SV) ⟨none,0,0⟩ rfl rfl (by omega) λy uB Oi F S=>⟨Fr.fr F.e,Aq (cs:=[.slice (some ⟨t,0,none⟩) g.n g.n,.slice (some ⟨y,0,none⟩) g.n g.n]) rfl (Ao λbl Z H Zl=>⟨Fr.fr H.e,?_⟩)⟩,Ao λbl uB H Zl=>⟨Fr.fr H.e,IX (α:=SV) ⟨none,0,0⟩ rfl rfl (by omega) λy Z Oi J S=>⟨Fr.fr J.e,Aq (cs:=[.slice (some ⟨t,0,none⟩) g.n g.n,.slice (some ⟨y,0,none⟩) g.n g.n]) rfl (?_)⟩⟩⟩⟩,IX (α:=SV) ⟨none,0,0⟩ rfl rfl (by omega) λy uA Oi a8 S=>⟨Fr.fr a8.e,⟨IX (α:=SV) ⟨none,0,0⟩ rfl rfl (by omega) λt uB Og F a0=>⟨Fr.fr F.e,Aq (cs:=[.slice (some ⟨t,0,none⟩) g.n g.n,.slice (some ⟨y,0,none⟩) g.n g.n]) rfl (Ao λbl Z H Zl=>⟨Fr.fr H.e,?_⟩)⟩,Ao λbl uB H Zl=>⟨Fr.fr H.e,IX (α:=SV) ⟨none,0,0⟩ rfl rfl (by omega) λt Z Og J a0=>⟨Fr.fr J.e,Aq (cs:=[.slice (some ⟨t,0,none⟩) g.n g.n,.slice (some ⟨y,0,none⟩) g.n g.n]) rfl (?_)⟩⟩⟩⟩,Ao λbl uA H Zl=>⟨Fr.fr H.e,⟨IX (α:=SV) ⟨none,0,0⟩ rfl rfl (by omega) λt uB Og F a0=>⟨Fr.fr F.e,IX (α:=SV) ⟨none,0,0⟩ rfl rfl (by omega) λy Z Oi J S=>⟨Fr.fr J.e,Aq (cs:=[.slice (some ⟨t,0,none⟩) g.n g.n,.slice (some ⟨y,0,none⟩) g.n g.n]) rfl (?_)⟩⟩,IX (α:=SV) ⟨none,0,0⟩ rfl rfl (by omega) λy uB Oi F S=>⟨Fr.fr F.e,IX (α:=SV) ⟨none,0,0⟩ rfl rfl (by omega) λt Z Og J a0=>⟨Fr.fr J.e,Aq (cs:=[.slice (some ⟨t,0,none⟩) g.n g.n,.slice (some ⟨y,0,none⟩) g.n g.n]) rfl (?_)⟩⟩⟩⟩⟩
  all_goals
   have l1:=Og.lt c4;have l2:=Oi.lt c4;obtain⟨_,j1,_,l1⟩:=l1;obtain⟨_,j2,_,l2⟩:=l2;have j1:=QL j1;have j2:=QL j2;simp only at j1 j2;have zA:=lz u uA;have zB:=lz uA uB;have zC:=lz uB Z;have c5:=H.lo (u:=W);have d3:=(Og.mono (B':=w.heap.size) (Qw z4 (Le.size (a:=W)))).up (w':=Z);have d4:=(Oi.mono (B':=w.heap.size) (Qw z4 (Le.size (a:=W)))).up (w':=Z);have a9:=Zl.mv (w:=Z);refine rS a9 [.slice (some ⟨t,0,none⟩) g.n g.n,.slice (some ⟨y,0,none⟩) g.n g.n] (Pt _ _ _ _ _ _) λuD BD fD _=>⟨fD.mono λi _ hi=>by omega,?_⟩;have tD:AC W uD:=⟨Fr.st (lE W Z) fD λi hi=>by omega⟩;exact⟨t,y,bl,rfl,by omega,c5,d3.frc fD a9,d4.frc fD a9,BD,tD⟩
 rintro _ G5 w5 ⟨t,y,bl,rfl,S,c5,OG,OI,BL,t5⟩;have Y:∃gb:Bool->Nat,gb true=t/\gb false=y:=⟨λb=>if b then t else y,rfl,rfl⟩;obtain⟨gb,rfl,rfl⟩:=Y;have z5:=t5.e.size;refine AJ (cs:=[.func (.func 86) #[] #[.pointer (some ⟨E,0,none⟩)],.func (.func 87) #[] #[.pointer (some ⟨bl,0,none⟩)]]) rfl (Ao λb8 w6 n6 X6=>?_);have f1:=n6.lo (u:=w5);refine rS X6 [.func (.func 86) #[] #[.pointer (some ⟨E,0,none⟩)],.func (.func 87) #[] #[.pointer (some ⟨bl,0,none⟩)]] (RZ _ _ _ _ _ _) λw7 X7 f7 _=>?_;have X7:Bk w7 b8 [.func (.func 86) #[] #[.pointer (some ⟨E,0,none⟩)],.func (.func 87) #[] #[.pointer (some ⟨bl,0,none⟩)]] 145:=X7;have t7:AC w5 w7:=⟨Fr.st (lE w5 w6) f7 λi hi=>by omega⟩;refine AJ (cs:=[.func (.func 88) #[] #[.pointer (some ⟨E,0,none⟩)],.func (.func 89) #[] #[.pointer (some ⟨bl,0,none⟩)]]) rfl (Ao λb9 w8 n8 X8=>?_);have f5:=n8.lo (u:=w7);refine rS X8 [.func (.func 88) #[] #[.pointer (some ⟨E,0,none⟩)],.func (.func 89) #[] #[.pointer (some ⟨bl,0,none⟩)]] (RZ _ _ _ _ _ _) λT X9 f9 _=>?_;have X9:Bk T b9 [.func (.func 88) #[] #[.pointer (some ⟨E,0,none⟩)],.func (.func 89) #[] #[.pointer (some ⟨bl,0,none⟩)]] 145:=X9;have t9:AC w7 T:=⟨Fr.st (lE w7 w8) f9 λi hi=>by omega⟩
 have b0:∀(v:Nat) (z:SV),(List.replicate g.n (⟨none,0,0⟩:SV))[v]? = some z->z=⟨none,0,0⟩:=λv z h=>by
  rw[Vk]at h;split at h
  ·exact(QL h).symm
  ·cases h
 have M9:Ec w.heap.size bl g.n gb (λ_=>List.replicate g.n (⟨none,0,0⟩:SV)) (λ_ _=>[]) T:=by
  refine⟨by omega,(BL.mv (w:=w7)).mv (w:=T),λs=>?_,λs=>by simp,S,λs v z h=>?_,λs v z b h hb=>?_,λs v z s' v' z' h h' b1 b hb=>?_⟩
  ·cases s
   ·exact(OI.up (w':=w7)).up (w':=T)
   ·exact(OG.up (w':=w7)).up (w':=T)
  ·rw[b0 v z h];exact AD.nil _ _ _
  ·rw[b0 v z h]at hb;cases hb
  ·rw[b0 v z h]at hb;cases hb
 have d5:AD w.heap.size 3 T (.slice ah g.n ch) (AH q):=((OH.mono (B':=w.heap.size) (Le.size (a:=w))).up (w':=w5)).up (w':=T);have B9:=B1.mv (w:=T);have Z9:=Z2.mv (w:=T);have d6:=X7.mv (w:=T);have d7:AC w T:=stp;clear OG OI BL OH B1 Z2
 refine cN 43 [10,11,12,13] 42 g.n (λk u=>∃X L,Ec w.heap.size bl g.n gb X L u/\H9 g (q.take k) (L true) (L false)/\L=(q.take k).foldl (Sk g) (λ_ _=>[])/\Bk u b8 [.func (.func 86) #[] #[.pointer (some ⟨E,0,none⟩)],.func (.func 87) #[] #[.pointer (some ⟨bl,0,none⟩)]] 145 /\
   Bk u b9 [.func (.func 88) #[] #[.pointer (some ⟨E,0,none⟩)],.func (.func 89) #[] #[.pointer (some ⟨bl,0,none⟩)]] 145/\Bk u E (enc x) 82/\Bk u bz [.slice none 0 0,.slice none 0 0] 88/\AD w.heap.size 3 u (.slice ah g.n ch) (AH q)/\AC w u)
  ⟨_,_,M9,H9.nil,rfl,d6,X9,B9,Z9,d5,d7⟩ ?_
 rintro k G u hk ⟨X,L,M,I,b2,X8,X9,Br,Bz,OH,su⟩;have zu:=su.e.size;refine ite (λBS=>?_) (λf6=>?_)
 ·have a1:k<q.length:=by omega
  have Y:∃h,h=q[k]:=⟨_,rfl⟩;obtain⟨h,hh⟩:=Y
  have Q:h<g.n:=by
   have:h∈List.range g.n:=hp.mem_iff.1 (by rw[hh];exact Qa a1);exact Q0.1 this
  have d8:q.Nodup:=hp.nodup_iff.2 Xj;have d9:h∉q.take k:=by rw[hh];exact oA d8 a1
  have c6:q.take (k+1)=q.take k++[h]:=by rw[Ci a1,hh]
  have e0:(AH q)[k]? = some (h:Int):=by rw[hh];exact WQ a1
  have c7:(X true)[h]? = some ((X true)[h]'(by rw[M.len];exact Q)):=by simp
  have c8:(X false)[h]? = some ((X false)[h]'(by rw[M.len];exact Q)):=by simp
  have Y:∃c:Bool->SV,(X true)[h]? = some (c true)/\(X false)[h]? = some (c false):=⟨λb=>if b then _ else _,c7,c8⟩;obtain⟨c,b3,b7⟩:=Y;clear c7 c8;refine Bp (i:=k) OH.sl e0 λb4 o4 A4=>AF (A4.cell0 rfl) (ZJ 46 [] 12 13 (λv1 v2 l=>∃bo bi,v1=.pointer (some ⟨bo,0,none⟩)/\v2=.pointer (some ⟨bi,0,none⟩)/\u.heap.size<=bo/\u.heap.size<=bi/\Bk l bo [(c true).v] 137/\Bk l bi [(c false).v] 137/\AC u l) rfl ?_ ?_)
  ·refine dT (λi=>u.heap.size<=i) (oL [0,1,2,3,4,5,6,7,8,9] (.two 10 (oL [11,12,13] .nil) 11 (oL [10,12,13] .nil))) λu1 e1=>?_;have H:∀{b:Nat},b<u.heap.size->¬u.heap.size<=b:=λh h'=>by omega
   refine tX M.cell rfl (H M.cell.lt) (CN (i:=h) (((M.row true).up (w':=u1)).sl) b3 λb5 o5 A5 h5=>AP (A5.cell0 rfl) (H (by have:=QL h5;simp only at this;have:=(M.gx true (by omega)).1;omega)) (tX M.cell rfl (H M.cell.lt) (CN (i:=h) (((M.row false).up (w':=u1)).sl) b7 λb6 o6 A6 h6=>AP (A6.cell0 rfl) (H (by have:=QL h6;simp only at this;have:=(M.gx false (by omega)).1;omega)) ?_)));refine⟨Ao λbo v1 m1 Bo=>⟨Fr.fr m1.e,Ao λbi v2 m2 Bi=>⟨Fr.fr m2.e,?_⟩⟩,Ao λbi v1 m2 Bi=>⟨Fr.fr m2.e,Ao λbo v2 m1 Bo=>⟨Fr.fr m1.e,?_⟩⟩⟩
   all_goals
    have i1:=m1.lo (u:=u);have i2:=m2.lo (u:=u);have l1:=Bo.lt;have l2:=Bi.lt;have i3:=m1.b;have i4:=m2.b;have i5:=m1.s;have i6:=m2.s;have b1:bo≠bi:=by omega
    refine rS (Bo.mv (w:=v2)) [(c true).v] (by intro u hu;simp at hu;subst hu;exact RL _) λv3 e2 f3 _=>⟨f3.mono λi _ hi=>by omega,?_⟩;refine rS ((Bi.mv (w:=v2)).fr f3 (λh=>b1 h.symm)) [(c false).v] (by intro u hu;simp at hu;subst hu;exact RL _) λv4 e5 f4 _=>⟨f4.mono λi _ hi=>by omega,?_⟩;have t4:AC u v4:=⟨Fr.st (Fr.st (lE u v2) f3 λi hi=>by omega) f4 λi hi=>by omega⟩;exact⟨bo,bi,rfl,rfl,i1,i2,e2.fr f4 b1,e5,t4⟩
  rintro _ _ G2 l ⟨bo,bi,rfl,rfl,f8,g2,Bo,Bi,t2⟩;have z2:=t2.e.size;have Y:∃U:Bool->Nat,U true=bo/\U false=bi:=⟨λb=>if b then bo else bi,rfl,rfl⟩;obtain⟨U,rfl,rfl⟩:=Y;have Y:∃K:Bool->List AG,K true=L true h/\K false=L false h:=⟨λb=>L b h,rfl,rfl⟩;obtain⟨K,a4,a5⟩:=Y;have M2:=M.up (w':=l);have g1:=M.gx true (by omega);have g0:=M.gx false (by omega);have a6:∀i,gX gb i->i<u.heap.size:=λi hi=>by rcases hi with rfl|rfl;exact g1.1;exact g0.1
  have c0:∀s,¬gX gb (U s)/\U s<l.heap.size:=λs=>by
   have l1:=Bo.lt;have l2:=Bi.lt;cases s
   ·exact⟨λh=>by have:=a6 _ h;omega,l2⟩
   ·exact⟨λh=>by have:=a6 _ h;omega,l1⟩
  have hb:=I.hb h2
  have Cp:∀s,Ix X s h (c s) (K s) l:=λs=>by
   cases s
   ·rw[a5];exact M2.cap b7
   ·rw[a4];exact M2.cap b3
  have Bc:∀s,Bk l (U s) [(c s).v] 137:=λs=>by
   cases s
   ·exact Bi
   ·exact Bo
  have e6:AC w l:=stp;have H0:MO w x g w.heap.size bl E gb U h c K L false (λ_=>none) l X:=⟨by rw[rU];exact M2,Cp,λ_=>b7,λ_=>b3,Bc,Br.mv,e6.e⟩
  have C0:dU g 0 h (λv d=>Mh (K true) (L false v) d) 86 87 91 [.pointer (some ⟨E,0,none⟩)] [.pointer (some ⟨bl,0,none⟩)] [.pointer (some ⟨U true,0,none⟩),.pointer (some ⟨bl,0,none⟩)] w.heap.size (gX gb) l (λA u'=>l.heap.size<=u'.heap.size/\∃X,MO w x g w.heap.size bl E gb U h c K L false A u' X):=
   MO.src (s:=false) hg R Q (Qe _) (Qe _) c0 (by have:=Br.lt;omega) (λi hi=>by have:=a6 i hi;omega) a5 (λv=>(hb v).2) (by show KV (K true);rw[a4];exact(hb h).1)
  refine Cn (ds:=[.func (.func 86) #[] #[.pointer (some ⟨E,0,none⟩)],.func (.func 87) #[] #[.pointer (some ⟨bl,0,none⟩)]]) (B:=X8.mv (w:=l)) rfl rfl (AA (vG hg (.inl rfl) Q C0 ⟨Qe _,X,H0⟩ (by omega) (p:=λv d=>Oa (K true) (L false v) d) λv d=>nW) ?_);rintro _ u3 ⟨⟨A,SI,hA,_,X3,V⟩,f3⟩;have g3:AC w u3:=⟨V.st⟩;have c9:=(X8.mv (w:=l)).keptX f3 (M2.ne (by omega) (X8.mv (w:=l)).h (by decide)) (by decide);have c1:=(X9.mv (w:=l)).keptX f3 (M2.ne (by omega) (X9.mv (w:=l)).h (by decide)) (by decide);have d0:=(Bz.mv (w:=l)).keptX f3 (M2.ne (by omega) (Bz.mv (w:=l)).h (by decide)) (by decide)
  have own:∀{v v':World} {X:Bool->List SV} {L:Bool->Nat->List AG},Ec w.heap.size bl g.n gb X L v->Cl (gX gb) w.heap.size hE v v'->AD w.heap.size 3 v (.slice ah g.n ch) (AH q)->AD w.heap.size 3 v' (.slice ah g.n ch) (AH q):=λ{v v' X L} M f O=>by
   refine O.keptX f (λi _ hi=>?_) (by decide);obtain⟨g',g4,h4,_,_,h5,_⟩:=O.blk (by intro h0;rw[h0]at a7;simp at a7;omega);rw[h4]at hi;have:=QL hi;simp only at this;subst this;exact M.ne (by omega) h5 (by decide)
  have e7:=own M2 f3 (OH.up (w':=l));have H4:MO w x g w.heap.size bl E gb U h c K (GN L false h A) true (λ_=>none) u3 X3:=⟨by rw[rU];exact V.M,V.C,λ_=>V.o rfl,(λe=>nomatch e),V.bc,V.br,V.st⟩;have z3:=f3.size
  have C1:dU g 1 h (λv d=>Mh (GN L false h A true v) (K false) d) 88 89 93 [.pointer (some ⟨E,0,none⟩)] [.pointer (some ⟨bl,0,none⟩)] [.pointer (some ⟨bl,0,none⟩),.pointer (some ⟨U false,0,none⟩)] w.heap.size (gX gb) u3 (λA' u'=>u3.heap.size<=u'.heap.size/\∃X,MO w x g w.heap.size bl E gb U h c K (GN L false h A) true A' u' X):=
   MO.src (s:=true) hg R Q (Qe _) (Qe _) (λs=>⟨(c0 s).1,by have:=(c0 s).2;omega⟩) (by have:=V.br.lt;omega) (λi hi=>by have:=a6 i hi;omega) a4 (λv=>(hb v).1) (by show KV (K false);rw[a5];exact(hb h).2)
  refine Cn (ds:=[.func (.func 88) #[] #[.pointer (some ⟨E,0,none⟩)],.func (.func 89) #[] #[.pointer (some ⟨bl,0,none⟩)]]) (B:=c1) rfl rfl (AA (vG hg (.inr rfl) Q C1 ⟨Qe _,X3,H4⟩ (by omega) (p:=λv d=>Oa (GN L false h A true v) (K false) d) λv d=>nW) ?_);rintro _ u4 ⟨⟨A2,SO,d1,_,X4,H5⟩,f4⟩;rw[a4]at SI hA;rw[a5]at SO d1;have I':=I.add d9 Q SI SO;rw[<-c6]at I';refine rA ⟨rfl,by omega,X4,GN (GN L false h A) true h A2,H5.M,I',by rw[c6,VF,<-b2];show _=Sk g L h;unfold Sk;simp only[zP7];rw[<-hA,<-d1],c9.keptX f4 (V.M.ne (by omega) c9.h (by decide)) (by decide),c1.keptX f4 (V.M.ne (by omega) c1.h (by decide)) (by decide),H5.br,d0.keptX f4 (V.M.ne (by omega) d0.h (by decide)) (by decide),own V.M f4 e7,⟨H5.st⟩⟩
 ·have e8:k=q.length:=by omega
  rw[e8,Qg]at I b2;refine Cn (ds:=[.slice (some ⟨gb true,0,none⟩) g.n g.n,.slice (some ⟨gb false,0,none⟩) g.n g.n]) (B:=M.cell) rfl rfl (rS Bz [.slice (some ⟨gb true,0,none⟩) g.n g.n,.slice (some ⟨gb false,0,none⟩) g.n g.n] (Pt _ _ _ _ _ _) λl B2 f2 _=>?_);have B2:Bk l bz [.slice (some ⟨gb true,0,none⟩) g.n g.n,.slice (some ⟨gb false,0,none⟩) g.n g.n] 88:=B2;have t2:AC w l:=⟨Fr.st su.e f2 λi hi=>by omega⟩;have g5:bz<W.heap.size:=QJ d2 (Le.size (a:=w2));have M':Ec w.heap.size bl g.n gb X L l:=⟨M.lo,M.cell.fr f2 (by omega),λs=>(M.row s).frc f2 Bz,M.len,M.gne,λs v z h=>(M.own s v z h).frc f2 Bz,λs v z b h hb=>QJ (M.lt s v z b h hb) f2.size,M.apart⟩;refine AR (B:=B2) rfl ?_;exact⟨⟨gb,bl,X,L,q,by rw[b2,c2];rfl,rfl,M',λv hv=>hp.mem_iff.2 (Q0.2 hv),I⟩,t2⟩
theorem zPs{t e d:TypeId}{z:Value}{b:Nat}(f:MK P t N e)(l:AX P e z 1 b)(o:DU P e d){cs:Array Value}{v:Value}(hi:cs[i]? = some v)(p:i<N)(w:World):
  (Instr.index t (.agg cs) (.int .i64 i)).run P w=.ok v w:=by
 have q:=info_parts l.h;obtain⟨j,r,_,c,_⟩:=q;unfold Instr.index;have h0:(0:Int)<=(i:Int):=by omega
 have s:(i:Int)<(N:Int):=by omega
 simp[asIntOf,underlying,f.h,sizeOf,typeInfo,r,c,h0,p,part,isAgg,o.h,hi]
theorem ZR{k:KW}{c:PW}{w:World}{t e d:TypeId}{z:Value}{b:Nat}[f:MK P t N e][h:AX P e z 1 b][l:DU P e d]{cs:Array Value}{v:Value}(hi:cs[i]? = some v)(o:i<N)(p:k v w):
  AI P (Instr.index t (.agg cs) (.int .i64 i)) k c w:=AI.of (zPs f h l hi o w) p
theorem zPK(l:List Nat)(b:k<l.length):(l.take (k+1)).sum=(l.take k).sum+l[k]:=by
 rw[Ci b,XV];simp
theorem RS{l:List Nat}{c:Nat}(h:∀x∈l,x<=c):l.sum<=l.length*c:=by induction l<;>grind[List.mem_cons_self,List.mem_cons_of_mem,List.length_cons,Nat.add_mul]
theorem zLZ(l:List Nat)(k:Nat):(l.take k).sum<=l.sum:=by
 conv=>rhs;rw[<-JW k l,XV]
 omega
def Fd (n:Nat) (L:Pl) (s:Bool):List Nat:=(List.range n).map λv=>(L s v).length
def Id (n:Nat) (L:Pl) (k:Nat):Nat:=((([true,false].take k).map λs=>(Fd n L s).sum)).sum
theorem zIg{B bl n:Nat}{gb:Bool->Nat}{X:Bool->List SV}{L:Pl}{w:World}(M:Ec B bl n gb X L w)(hn:n<=200)(H:∀s v,v<n->(L s v).length<=1000):
  Sp PP 49 #[.agg #[.slice (some ⟨gb true,0,none⟩) n n,.slice (some ⟨gb false,0,none⟩) n n]] w λv w'=>v=.int .i64 (GR n L:Nat)/\AC w w':=by
 have h:∀s,(Fd n L s).sum<=200000:=λs=>by
  have S:=RS (l:=Fd n L s) (c:=1000) λx T=>by
   have b:=Qq.1 T;obtain⟨v,r,rfl⟩:=b;exact H s v (Q0.1 r)
  have U:(Fd n L s).length=n:=by unfold Fd;simp
  rw[U]at S;omega
 refine eN ?_;refine BM λbo w1 n1 q=>?_;have q:Bk w1 bo [.slice (some ⟨gb true,0,none⟩) n n,.slice (some ⟨gb false,0,none⟩) n n] 88:=q;refine rX q rfl (rX q rfl ?_);refine TH (zero:=[.slice none 0 0,.slice none 0 0]) (sz:=1) (cs:=[.slice (some ⟨gb true,0,none⟩) n n,.slice (some ⟨gb false,0,none⟩) n n]) (by rfl) (by rfl) rfl ?_;refine cO 14 [5,7] 3 13 2 (λk v u=>v=.int .i64 ((Id n L k:Nat):Int)/\AC w u) ?_ ?_
 ·exact⟨rfl,stp⟩
 rintro k _ G u hk ⟨rfl,I⟩;refine ite (λBS=>?_) (λV=>?_)
 ·have b:∃s:Bool,(k=0/\s=true\/k=1/\s=false):=by
   have b:=(show k=0\/k=1 by omega);rcases b with rfl|rfl
   ·exact⟨true,.inl ⟨rfl,rfl⟩⟩
   ·exact⟨false,.inr ⟨rfl,rfl⟩⟩
  obtain⟨s,J⟩:=b
  have t:Id n L k<=400000/\Id n L (k+1)=Id n L k+(Fd n L s).sum:=by
   have:=h true;rcases J with⟨rfl,rfl⟩|⟨rfl,rfl⟩<;>simp[Id]<;>omega
  have o:=M.row s;have W:(X s).length=n:=M.len s;refine ZR (v:=.slice (some ⟨gb s,0,none⟩) n n) (by rcases J with⟨rfl,rfl⟩|⟨rfl,rfl⟩<;>rfl) (by omega) ?_;have A:∀v,v<n->((Fd n L s)[v]? = some (L s v).length):=λv r=>by unfold Fd;rw[QK,VS r];rfl
  have Y:(Fd n L s).length=n:=by unfold Fd;simp
  refine cO 19 [7] 3 18 n (λj v C=>v=.int .i64 ((Id n L k+((Fd n L s).take j).sum:Nat):Int)/\AC w C) ?_ ?_
  ·exact⟨congrArg (λm:Nat=>Value.int .i64 (m:Int)) (show Id n L k=Id n L k+((Fd n L s).take 0).sum by simp),I⟩
  rintro j _ G2 C hj ⟨rfl,p⟩;refine ite (λK=>?_) (λQ=>?_)
  ·have d:j<n:=by omega
   have f:(X s)[j]? = some ((X s)[j]'(by omega)):=by simp
   have b:∃z,z=(X s)[j]'(by omega):=⟨_,rfl⟩;obtain⟨z,Z⟩:=b;rw[<-Z]at f;have O:=M.own s j z f;have a0:z.n=(L s j).length:=O.sl.len;have a1:=H s j d;have a4:=zLZ (Fd n L s) j
   have a5:((Fd n L s).take (j+1)).sum=((Fd n L s).take j).sum+(L s j).length:=by
    rw[zPK _ (by omega)];have:=A j d;rw[Qd (by omega)]at this;rw[QL this]
   have:=h s;refine Bp (i:=j) (o.up (w':=C)).sl f λb4 o4 A4=>AF (A4.cell0 rfl) (Fg (y:=((Id n L k+((Fd n L s).take (j+1)).sum:Nat):Int)) ?_ (by omega) ?_)
   ·show((Id n L k+((Fd n L s).take j).sum:Nat):Int)+((z.n:Nat):Int)=_;omega
   exact rA ⟨rfl,d,rfl,p⟩
  ·have E:j=(Fd n L s).length:=by omega
   rw[E,Qg];refine rA ⟨rfl,by omega,congrArg (λm:Nat=>Value.int .i64 (m:Int)) t.2.symm,p⟩
 ·have F:k=2:=by omega
  subst F;have e:Id n L 2=GR n L:=by simp[Id,Fd,GR]
  exact⟨congrArg (λm:Nat=>Value.int .i64 (m:Int)) e,I⟩
end
structure DI {α:Type} [AL α] (e1 e2:TypeId) (B g n c:Nat) (X:List SV) (L:Nat->List α) (w:World):Prop where
 row:AD B e1 w (.slice (some ⟨g,0,none⟩) n c) X
 len:X.length=n
 own:∀(v:Nat) (z:SV),X[v]? = some z->AD B e2 w z.v (L v)
 lt:∀(v:Nat) (z:SV) b,X[v]? = some z->Value.blk z.v=some b->b<w.heap.size
 apart:∀(v:Nat) (z:SV) (v':Nat) (z':SV),X[v]? = some z->X[v']? = some z'->v≠v'->∀b,Value.blk z.v=some b->Value.blk z'.v≠some b
section
variable {α:Type} [AL α] {e1 e2:TypeId} {B g n c:Nat} {X:List SV} {L:Nat->List α} {w w':World}
theorem DI.fr(M:DI e1 e2 B g n c X L w)(f:Fr (λ_=>False) w w'):DI e1 e2 B g n c X L w':=
 ⟨M.row.fr f λ_ _ _ h=>h,M.len,λv z h=>(M.own v z h).fr f λ_ _ _ h=>h,λv z b h hb=>QJ (M.lt v z b h hb) f.size,M.apart⟩
theorem DI.up[Le w w'](M:DI e1 e2 B g n c X L w):DI e1 e2 B g n c X L w':=M.fr Le.e
theorem DI.gx(M:DI e1 e2 B g n c X L w)(l:0<n):g<w.heap.size/\B<=g:=by
 obtain⟨b,d,e,f⟩:=M.row.lt (by intro h;have:=M.len;rw[h]at this;simp at this;omega);have:=QL d;simp only at this;subst this;exact⟨f,e⟩
theorem DI.new(O:AD B e1 w (.slice (some ⟨g,0,none⟩) n c) (List.replicate n (⟨none,0,0⟩:SV))):DI (α:=α) e1 e2 B g n c (List.replicate n ⟨none,0,0⟩) (λ_=>[]) w:=by
 have d:∀(v:Nat) (z:SV),(List.replicate n (⟨none,0,0⟩:SV))[v]? = some z->z=⟨none,0,0⟩:=λv z h=>by
  rw[Vk]at h;split at h
  ·exact(QL h).symm
  ·cases h
 exact⟨O,by simp,λv z h=>by rw[d v z h];exact AD.nil _ _ _,λv z b h hb=>(by rw[d v z h]at hb;cases hb),λv z f l h o e b hb=>(by rw[d v z h]at hb;cases hb)⟩
theorem DI.put(d:e1≠e2){v:Nat}{z:SV}{x:α}{G J:World}{t:Value}(M:DI e1 e2 B g n c X L w)(p:X[v]? = some z)
  (O:AD B e2 G t (L v++[x]))(Q:Fr (AV B z.v) w G)(K:Value.blk t=Value.blk z.v\/(Value.blk t=some w.heap.size/\Bn w G))
  (Y:AD B e1 J (.slice (some ⟨g,0,none⟩) n c) (X.set v (Fi t)))(V:Fr (AV B (.slice (some ⟨g,0,none⟩) n c)) G J)(z8:J.heap.size=G.heap.size):
  DI e1 e2 B g n c (X.set v (Fi t)) (λu=>if u=v then L v++[x] else L u) J:=by
 have z7:=Q.size;have Z:=M.own v z p;have C:(Fi t).v=t:=NZ O.sl;have S:v<X.length:=(Qy.1 p).1;have E:(X.set v (Fi t))[v]? = some (Fi t):=by simp[S]
 have q:∀{r:Nat},r≠v->(X.set v (Fi t))[r]? = X[r]?:=λ{r} h=>by rw[Vw,if_neg (λe=>h e.symm)]
 have W:AD B e1 G (.slice (some ⟨g,0,none⟩) n c) X:=M.row.fro Z Q d
 have kp:∀(y:Value) (l:List α),AD B e2 w y l->(∀b,Value.blk y=some b->Value.blk z.v≠some b)->AD B e2 J y l:=λy l s F=>by
  have o:=s.fr Q λb _ hb h=>F b hb h.2.1;exact o.fro W V (λe=>d e.symm)
 refine⟨Y,by rw[Jc];exact M.len,λr y A=>?_,λr y b A hb=>?_,λH T I U s F d b hb=>?_⟩
 ·by_cases e2:r=v
  ·subst e2;rw[E]at A;have:=QL A;subst this;rw[if_pos rfl,C];exact O.fro W V (λe=>d e.symm)
  ·rw[q e2]at A;rw[if_neg e2];exact kp _ _ (M.own r y A) λb hb=>M.apart r y v z A p e2 b hb
 ·by_cases e2:r=v
  ·subst e2;rw[E]at A;have:=QL A;subst this;rw[C]at hb;have⟨b',s,_,o⟩:=O.lt (by simp);rw[hb]at s;have:=QL s;omega
  ·rw[q e2]at A;have:=M.lt r y b A hb;omega
 ·by_cases e1:H=v
  ·subst e1;have e2:I≠H:=λe=>d e.symm;rw[E]at s;have:=QL s;subst this;rw[q e2]at F;rw[C]at hb;intro f;rcases K with o|⟨o,_⟩
   ·rw[o]at hb;exact M.apart I U H z F p e2 b f hb
   ·rw[hb]at o;have h4:=QL o;have h5:=M.lt I U b F f;omega
  ·rw[q e1]at s;by_cases e2:I=v
   ·subst e2;rw[E]at F;have:=QL F;subst this;rw[C];intro f;rcases K with o|⟨o,_⟩
    ·rw[o]at f;exact M.apart H T I z s p e1 b hb f
    ·rw[f]at o;have h4:=QL o;have h5:=M.lt H T b s hb;omega
   ·rw[q e2]at F;exact M.apart H T I U s F d b hb
end
theorem YN(h:n<=2147483647):Sp PP 101 #[.int .i64 (n:Int)] w λv w'=>v=.tuple #[Ae (AK n),.int .i64 0]/\AC w w':=
 rY.mono λ_ _ b=>⟨by rw[b.1];unfold Rj;rw[if_pos (by omega)];simp,b.2⟩
theorem aT{v:Value}:Sp PP 100 #[v,.int .i64 0] w λr w'=>r=v/\AC w w':=by
 refine eN ?_;refine iF (· rfl) ?_;exact⟨rfl,stp⟩
theorem oF{s:ByteArray}(h:s.size<=4000):Sp PP 103 #[.string s] w λv w'=>v=.tuple #[Ae (DS s),.int .i64 0]/\AC w w':=by
 have hb:=Lp (n:=s.size) (by omega);refine eN ?_;refine iF (by first|omega|decide|(dsimp only<;>omega)) (AA (YN (n:=s.size) (by omega)) ?_);rintro _ w1 ⟨rfl,d⟩;refine IW (by rw[AM];omega) ?_
 have b:(⟨(AK s.size).toArray⟩:ByteArray)++s=⟨(DS s).toArray⟩:=by
  have c:s=⟨s.data.toList.toArray⟩:=by simp
  conv=>lhs;rw[c,SJ]
  rfl
 exact⟨congrArg (λz=>Value.tuple #[.string z,.int .i64 0]) b,stp⟩
theorem xF{c:Nat}{l:List Nat}(h:Bh 3 w (.slice a n c) (AH l))(W:l.length<=4000)(C:∀x∈l,x<=2147483647):Sp PP 102 #[.slice a n c] w λv w'=>v=.tuple #[Ae (Lk l),.int .i64 0]/\AC w w':=by
 have s:(AH l).length=l.length:=by simp[AH]
 have b:=h.len;obtain rfl:=b;rw[s]at h ⊢;have hb:=Lp (n:=l.length) (by omega);refine eN ?_;refine iF (by first|omega|decide|(dsimp only<;>omega)) (Ao λt p n3 E=>?_);have y:=n3.lo (u:=w);have X:=lz w p;have F:Ff w.heap.size t [] p:=cM y E;clear E
 refine IN Ab 12 [2,3,6,7,8] 5 (λm v u=>∃k:Nat,m=l.length+1 - k/\k<=l.length+1/\v=.int .i64 ((k:Int) - 1)/\Ff w.heap.size t (if k=0 then[] else AK l.length++(l.take (k - 1)).flatMap AK) u/\GJ w.heap.size t p u) rfl
  ⟨l.length+1,0,rfl,by omega,rfl,F,Cl.refl _ _ _ _⟩ ?_
 rintro m v G u ⟨k,rfl,Y,d,L,f⟩;have Z:=f.size;have I:AC w u:=⟨Cl.st Le.e f (Qe _) λi hi=>by omega⟩;have b:=X0 k;rcases b with rfl|J
 ·have d:v=.int .i64 (-1):=d;subst d;refine iT (by omega) (iF (by omega) (AA (YN (n:=l.length) (by omega)) ?_));rintro _ q ⟨rfl,o⟩;refine iF (· rfl) ?_;have K:=o.e.size;refine AA (Uz (L.up (w':=q)) (by omega) (by simp only[if_true,QZ];omega)) ?_;rintro _ M ⟨rfl,z,A⟩;exact rA ⟨l.length+1 - 1,by omega,1,rfl,by omega,rfl,by simpa using z,(f.trans (Cl.ext o.e)).trans A⟩
 ·have b:∃j,k=j+1:=⟨k - 1,by omega⟩;obtain⟨j,rfl⟩:=b;have d:v=.int .i64 (j:Int):=by rw[d];congr 1;omega
  subst d;rw[if_neg (by omega),Nat.add_sub_cancel]at L;refine ite (λBS=>?_) (λO=>?_)
  ·have H:j<l.length:=by omega
   refine iT (by omega) ?_;have Q:=(h.up (w':=p)).frB f F.obj (by decide) (by decide);have r:=C l[j] (Qa _);have S:=mQ (l:=l.take j) λx r=>C x (Vu r);rw[Qm]at S;have T:=Lp r;refine Bp Q.sl (i:=j) (x:=(l[j]:Int)) (by simp[AH,H]) λb5 o5 U=>AF (U.cell0 rfl) (AA (YN r) ?_);rintro _ q ⟨rfl,o⟩;refine iF (· rfl) ?_;have K:=o.e.size;refine AA (Uz (L.up (w':=q)) (by omega) (by simp only[Qb];omega)) ?_;rintro _ M ⟨rfl,z,A⟩;refine rI (((j+1+1:Nat):Int) - 1) ?_;refine⟨l.length+1 - (j+1+1),by omega,j+1+1,rfl,by omega,rfl,?_,(f.trans (Cl.ext o.e)).trans A⟩;rw[if_neg (by omega),Nat.add_sub_cancel,zOn H,<-Qp];exact z
  ·have b:j=l.length:=by omega
   obtain rfl:=b;rw[Qg]at L;refine AA (W9 L (by omega)) ?_;rintro _ q ⟨rfl,_,V⟩;exact⟨rfl,⟨Cl.st I.e V (Qe _) λi hi=>by omega⟩⟩
theorem zQj{l:List BO}(b:k<l.length)(v:Nat):(((l.take (k+1)).filter λe=>e.f==v).map (·.t))=(((l.take k).filter λe=>e.f==v).map (·.t))++(if v=l[k].f then[l[k].t] else[]):=by grind[Ci]
theorem zHA{x:Fa}{vs:List SV}(V:Kt w x g vs)(o:Bb g):Sp PP 55 #[agg x] w λv w'=>v=.tuple #[Ae (MR g g.n),.int .i64 0]/\AC w w':=by
 have hn:=V.n;have d7:=V.rows.1;have d8:=V.es.len;have d9:=V.ws.len;have e0:=o.ok.n2;have e1:=o.nw;have e7:=V.small.1;have hb:=Lp (n:=g.n) (by omega);refine eN ?_;refine BM λbx w1 n1 B1=>rG B1 x (AA (dM (V.up (w':=w1))) ?_);rintro _ w2 ⟨⟨rfl,_⟩|⟨rfl,h⟩,e2⟩
 case' inr=>exact absurd o h
 refine Cx (B:=B1) (v:=.int .i64 (g.n:Int)) (by rw[<-hn];rfl) (IX (α:=SV) ⟨none,0,0⟩ rfl rfl (by omega) λH w3 O3 s3 f0=>?_);have z2:=lz w w2;have z3:=s3.e.size;have M3:DI (α:=Int) 63 3 w.heap.size H g.n g.n (List.replicate g.n ⟨none,0,0⟩) (λv=>AH (((g.es.take 0).filter λe=>e.f==v).map (·.t))) w3:=DI.new (O3.mono (B':=w.heap.size) z2);refine rX B1 rfl (cN 22 [6] 21 g.es.length (λk u=>∃X,DI (α:=Int) 63 3 w.heap.size H g.n g.n X (λv=>AH (((g.es.take k).filter λe=>e.f==v).map (·.t))) u/\Bk u bx (enc x) 35/\AC w u) ?_ ?_)
 ·exact⟨_,M3,B1.mv (w:=w3),stp⟩
 rintro k G u hk ⟨X,M,Bu,su⟩;have zu:=su.e.size;refine ite (λBS=>?_) (λf1=>?_)
 ·have S:k<g.es.length:=by omega
  have r:∃e,e=g.es[k]:=⟨_,rfl⟩;obtain⟨e,he⟩:=r;have f2:=o.ok.ed e (by rw[he];exact Qa _);have a8:=M.len;have d:X[e.f]? = some (X[e.f]'(by omega)):=by simp
  have r:∃z,z=X[e.f]'(by omega):=⟨_,rfl⟩;obtain⟨z,hz⟩:=r;rw[<-hz]at d;have O:=M.own e.f z d;have f4:=M.gx (by omega);refine Bp (V.es.up (w':=u)) (i:=k) (x:=e) (by rw[he];simp) λb4 o4 A4=>Ah A4 rfl (Ao λb6 l n4 X4=>?_);have f6:=n4.lo (u:=u);refine rE X4 e λw5 T f5 _=>?_;have T:Bk w5 b6 (enc e) 74:=T;have t5:AC u w5:=⟨Fr.st (lE u l) f5 λi hi=>by omega⟩;have z5:=t5.e.size;refine dT (λi=>i=H\/AV w.heap.size z.v i) (oL [0,1,2,3,4,5,6,8,9] (.duo 7 (oL [10,11,12,13] .nil) 10 (.lone 7 (oL [11,12,13] .nil)))) λQ e6=>?_
  have hD:¬(b6=H\/AV w.heap.size z.v b6):=by
   rintro(h|h)
   ·omega
   ·have:=O.wr h;omega
  have a9:AC u Q:=stp;have M6:=M.up (w':=Q);refine NE (B:=T) (v:=.int .i64 (e.f:Int)) rfl hD (NE (B:=T) (v:=.int .i64 (e.f:Int)) rfl hD ?_);refine CN (i:=e.f) M6.row.sl d λb7 o7 A7 _=>NE (B:=T) (v:=.int .i64 (e.t:Int)) rfl hD ?_;have O6:=M6.own e.f z d
  have d0:(AH (((g.es.take k).filter λa=>a.f==e.f).map (·.t))).length<=1000000:=by
   rw[PO,Qr];have h1:=Qv (λa:BO=>a.f==e.f) (g.es.take k);have h2:=List.length_take_le k g.es;omega
  refine⟨AF (A7.cell0 rfl) ⟨Fr.refl _ _,bS (e.t:Int) λb8 A e8 _ S8=>⟨Fr.fr e8.e,?_⟩⟩,bS (e.t:Int) λb8 A e8 _ S8=>⟨Fr.fr e8.e,AF ((A7.up (w':=A)).cell0 rfl) ⟨Fr.refl _ _,?_⟩⟩⟩
  all_goals
   have z6:=a9.e.size;have z8:=e8.e.size;have U:=M6.up (w':=A);refine Po ⟨rfl,rfl⟩ (U.own e.f z d) S8 (by simp) (by omega) (by simp only[QA,QZ];omega) λv9 u9 O9 W b0=>⟨W.mono λi _ hi=>.inr hi,?_⟩;have R9:=U.row.fro (U.own e.f z d) W;refine ET rfl R9 (i:=e.f) d λg5 Y _ A5=>?_;have b1:H=g5:=QL Y;subst b1;refine CW rfl (Fi v9) R9 Y (by omega) (by obtain⟨a7,c7,rfl⟩:=O9.shape;rfl) λp b2 C Z=>⟨C.mono λi _ h=>.inl (QL h.2.1).symm,?_⟩;have a0:=U.put (by decide) d O9 W b0 b2 C Z;have b3:AC w p:=⟨Fr.st (Fr.st (lE w A) W λi hi=>by have:=hi.1;omega) C λi hi=>by have:=hi.1;omega⟩
   have hL:(λu=>if u=e.f then AH (((g.es.take k).filter λa=>a.f==e.f).map (·.t))++[(e.t:Int)] else AH (((g.es.take k).filter λa=>a.f==u).map (·.t)))=λv=>AH (((g.es.take (k+1)).filter λa=>a.f==v).map (·.t)):=by
    funext v;rw[zQj S,<-he];by_cases h:v=e.f
    ·subst h;rw[if_pos rfl,if_pos rfl,Zy];rfl
    ·rw[if_neg h,if_neg h,QE]
   rw[hL]at a0;exact rA ⟨rfl,S,_,a0,((Bu.mv (w:=A)).fro (U.own e.f z d) W).fro R9 C,b3⟩
 ·have c0:k=g.es.length:=by omega
  rw[c0,Qg]at M;have c1:∀v,((g.es.filter λe=>e.f==v).map (·.t))=Ag g 0 v:=λv=>rfl;simp only[c1]at M;refine Ao λbb l n4 B4=>?_;have f9:=n4.lo (u:=u);have c2:w.heap.size<=bb:=by omega
  have L0:Ff w.heap.size bb [] l:=cM c2 B4;have z4:=lz u l;clear B4;have R4:Bh 63 l (.slice (some ⟨H,0,none⟩) g.n g.n) X:=(M.up (w':=l)).row.y;have Y4:∀(v:Nat) (z:SV),X[v]? = some z->Bh 3 l z.v (AH (Ag g 0 v)):=λv z h=>((M.up (w':=l)).own v z h).y;refine Cx (B:=Bu) (v:=.int .i64 (g.n:Int)) (by rw[<-hn];rfl) (AA (YN (n:=g.n) (by omega)) ?_);rintro _ w5 ⟨rfl,e5⟩;refine AA aT ?_;rintro _ w6 ⟨rfl,e6⟩;refine IW (a:=⟨#[119,103]⟩) (b:=⟨(AK g.n).toArray⟩) (by have:=AM (AK g.n);show 2+(⟨(AK g.n).toArray⟩:ByteArray).size<=_;omega) ?_
  have c3:(⟨#[119,103]⟩:ByteArray)++⟨(AK g.n).toArray⟩=⟨(MR g 0).toArray⟩:=by
   rw[show(⟨#[119,103]⟩:ByteArray)=⟨[119,103].toArray⟩ from rfl,SJ];simp[MR]
  rw[c3];have z6:=lz l w6;have d1:=fZ o (k:=0) (by omega);refine AA (Uz (L0.up (w':=w6)) (by omega) (by simp only[QZ];omega)) ?_;rintro _ w7 ⟨rfl,L7,f7⟩;rw[Je]at L7;have E:GJ w.heap.size bb l w7:=(Cl.ext (lE l w6)).trans f7;have z7:=E.size;have g0:=Bu.lt;have g1:=n4.lo (u:=u);have g2:AC w w7:=⟨Cl.st (lE w l) E (Qe _) λi hi=>by omega⟩;have I:∀{u':World},GJ w.heap.size bb l u'->Bh 63 u' (.slice (some ⟨H,0,none⟩) g.n g.n) X/\∀(v:Nat) (z:SV),X[v]? = some z->Bh 3 u' z.v (AH (Ag g 0 v)):=λf=>⟨R4.frB f L0.obj (by decide) (by decide),λv z h=>(Y4 v z h).frB f L0.obj (by decide) (by decide)⟩;have J:∀{u':World},GJ w.heap.size bb l u'->Bk u' bx (enc x) 35:=λf=>(Bu.mv (w:=l)).keptX f (λh=>by omega) (by decide);have q:∀{u':World},GJ w.heap.size bb l u'->AC w u':=λf=>⟨Cl.st (lE w l) f (Qe _) λi hi=>by omega⟩;clear R4 Y4;refine rX (J E) rfl (cN 51 [8,9,11] 50 vs.length (λk u=>Ff w.heap.size bb (MR g k) u/\GJ w.heap.size bb l u) ?_ ?_)
  ·exact⟨L7,E⟩
  rintro k G2 u2 g3 ⟨L,f⟩;have g4:=f.size;have s2:=q f;have r:=I f;obtain⟨Rr,Ry⟩:=r;refine ite (λd2=>?_) (λd3=>?_)
  ·have a1:k<vs.length:=by omega
   have F:k<g.ws.length:=by omega
   have a4:k<g.n:=by omega
   have R:=V.rows.2 k a1 F;have hl:=R.len;have a5:g.ws.getD k []=g.ws[k]:=by rw[Qk,Qd F];rfl
   have h8:=(o.word _ (Qa F)).1;have g6:=fZ o (k:=k) (by omega);have d4:=mB o k;have a8:=M.len;have d:X[k]? = some (X[k]'(by omega)):=by simp
   have r:∃z,z=X[k]'(by omega):=⟨_,rfl⟩;obtain⟨z,hz⟩:=r;rw[<-hz]at d;refine Bp (V.ws.up (w':=u2)) (i:=k) (x:=vs[k]) (by simp) λb5 o5 A5=>AF (A5.cell0 rfl) (Bp Rr.sl (i:=k) d λb6 o6 A6=>AF (A6.cell0 rfl) ?_);have YZ:=Ry k z d;have c4:z.v=.slice z.a z.n z.c:=rfl;rw[c4]at YZ;refine AA (xF YZ (by have:=Zc o 0 k;omega) (λy hy=>by have:=IV o.ok hy;omega)) ?_;rintro _ u3 ⟨rfl,e3⟩;refine AA aT ?_;rintro _ u4 ⟨rfl,e4⟩;have g7:=Lp (n:=g.ws[k].length) (by omega);have hq:vs[k].n=g.ws[k].length:=hl;refine AA ((YN (n:=vs[k].n) (by omega)).mono λv w' h=>by rw[hq]at h;exact h) ?_;rintro _ u5 ⟨rfl,e5⟩;refine AA aT ?_;rintro _ Q ⟨rfl,e6⟩;refine IW (by simp only[AM];omega) ?_;rw[SJ];have g8:=lz u2 Q;refine AA (Uz (L.up (w':=Q)) (by omega) (by simp only[Qb];omega)) ?_;rintro _ u7 ⟨rfl,L7,f7⟩;have c5:GJ w.heap.size bb l u7:=(f.trans (Cl.ext (lE u2 Q))).trans f7;have a6:=λj (hj:j<=8)=>t8 o k j hj;rw[a5]at a6;refine cnt Ab 74 [11] 73 g.ws[k].length (λj u=>Ff w.heap.size bb (MR g k++(Lk (Ag g 0 k)++AK g.ws[k].length)++(g.ws[k].take j).flatMap DS) u/\GJ w.heap.size bb l u) rfl rfl ?_ ?_
   ·exact⟨by simpa using L7,c5⟩
   rintro j G3 A hj ⟨L8,f8⟩;have z8:=f8.size;have s8:=q f8;have c6:vs[k].n=g.ws[k].length:=hl;refine ite (λd5=>?_) (λd6=>?_)
   ·have K:j<g.ws[k].length:=by omega
    refine Bp (R.up (w':=A)) (i:=j) (x:=g.ws[k][j]) (by simp) λb9 o9 A9=>AF (A9.cell0 rfl) ?_;have g9:=((o.word _ (Qa F)).2 _ (Qa K)).2.2;have h0:=qY (s:=g.ws[k][j]) (by omega);have h3:=a6 j (by omega);refine AA (oF (s:=g.ws[k][j]) (by omega)) ?_;rintro _ u9 ⟨rfl,e9⟩;refine AA aT ?_;rintro _ p ⟨rfl,h4⟩;have Z:=lz A p;refine AA (Uz (L8.up (w':=p)) (by omega) (by simp only[Qb];omega)) ?_;rintro _ h5 ⟨rfl,c8,c9⟩;refine rA ⟨rfl,K,?_,(f8.trans (Cl.ext (lE A p))).trans c9⟩;rw[Ci K,Jl,<-Qp];simpa using c8
   ·have r:j=g.ws[k].length:=by omega
    obtain rfl:=r;refine rA ⟨rfl,a1,?_,f8⟩;rw[Qg]at L8
    have e:MR g (k+1)=MR g k++(Lk (Ag g 0 k)++AK g.ws[k].length)++g.ws[k].flatMap DS:=by
     rw[zOX];unfold XX Ll;rw[a5];simp only[Qp]
    rw[e];exact L8
  ·have a4:k=g.n:=by omega
   rw[a4]at L;refine AA (W9 L (by omega)) ?_;rintro _ u3 ⟨rfl,_,f3⟩;exact⟨rfl,⟨Cl.st s2.e f3 (Qe _) λi hi=>by omega⟩⟩
theorem iX{α:Type}{f:U8->Option (α×U8)}{B:α->U8}:∀(l:List α) (t:U8),(∀x∈l,∀t,f (B x++t)=some (x,t))->Af f l.length (l.flatMap B++t)=some (l,t):=by intro a;induction a<;>grind[Af]
theorem x8{l:List Nat}(h:l.length<=4000)(b:∀x∈l,x<=2147483647)(t:U8):DQ (Lk l++t)=some (l,t):=by
 unfold Lk;rw[Qp,pT (NT (by omega) _),if_pos h];exact iX l t λx c t=>NT (b x c) t
theorem zPk{l:U8}(h:l.length<=4000)(t:U8):GS ((AK l.length++l)++t)=some (l,t):=by
 rw[Qp,nR (NT (by omega) _),if_pos ⟨h,by simp⟩];simp
theorem zOi{l:List (U8)}(h:l.length<=8)(b:∀x∈l,x.length<=4000)(t:U8):EJ ((AK l.length++l.flatMap λx=>AK x.length++x)++t)=some (l,t):=by
 rw[Qp,Mw (NT (by omega) _),if_pos h];exact iX l t λx c t=>zPk (b x c) t
theorem wY{p:List Nat×List (U8)}(b:p.1.length<=4000)(c:∀x∈p.1,x<=2147483647)(d:p.2.length<=8)(e:∀x∈p.2,x.length<=4000)(t:U8):GP (WY p++t)=some (p,t):=by
 unfold WY;rw[Qp];exact Za (x8 b c _) (zOi d e t)
def KE (g:Al):List (List Nat×List (U8)):=(List.range g.n).map λv=>(Ag g 0 v,(g.ws.getD v []).map λs=>s.data.toList)
theorem zP1(s:ByteArray):AS s.data.toList=s:=by unfold AS;simp
theorem qG(f:Nat->List Nat):∀(n v:Nat),BF v ((List.range' v n).map f)=(List.range' v n).flatMap λi=>(f i).map λt=>⟨i,t⟩
 |0,v=>rfl
 |n+1,v=>by
  rw[List.range'_succ,QS,JV,BF,qG f n (v+1)]
theorem lI(d:Bb g):Lu g.n (KE g)=g:=by
 have l:BF 0 ((KE g).map (·.1))=g.es:=by
  have o:(KE g).map (·.1)=(List.range' 0 g.n).map λv=>Ag g 0 v:=by unfold KE;rw[VM,List.range_eq_range'];rfl
  have q:∀v,((Ag g 0 v).map λt=>(⟨v,t⟩:BO))=g.es.filter λe=>e.f==v:=λv=>by
   show((g.es.filter λe=>e.f==v).map (·.t)).map _=_;rw[VM]
   conv=>rhs;rw[<-List.map_id (g.es.filter λe=>e.f==v)]
   apply Ja;intro e r;have:=(QC.1 r).2;have h:e.f=v:=by simpa using this
   cases e;simp at h;subst h;rfl
  rw[o,qG];simp only[q];refine jL GE ?_ d.er λe=>?_
  ·rw[XQ];refine⟨λv _=>d.er.filter _,?_⟩;rw[<-List.range_eq_range'];refine List.pairwise_lt_range.imp λ{a b} u x z y A=>?_;have l:=(QC.1 z).2;have c:=(QC.1 A).2;simp only[beq_iff_eq]at l c;exact .inl (by omega)
  ·rw[VP];constructor
   ·rintro⟨v,_,h⟩;exact(QC.1 h).1
   ·intro h;refine⟨e.f,?_,QC.2 ⟨h,by simp⟩⟩;rw[<-List.range_eq_range',Q0];exact(d.ok.ed e h).1
 have c:((KE g).map λp=>p.2.map AS)=g.ws:=by
  unfold KE;rw[VM];have C:=d.nw;apply Xg
  ·simp[C]
  ·intro i l c;simp only[List.getElem_map,List.getElem_range,Function.comp,VM];rw[Qk,Qd c];simp only[QP];exact(Ja λs _=>zP1 s).trans (List.map_id _)
 unfold Lu;rw[l,c]
theorem wH(b:Bb g):Ef (MR g g.n)=some g:=by
 have c:(KE g).length=g.n:=by unfold KE;simp
 have l:=b.ok.n2
 have hi:MR g g.n=119::103::(AK g.n++((KE g).flatMap WY++[])):=by
  have:=WB c;rw[lI b]at this;rw[this];simp
 have o:UQ (MR g g.n)=some (g.n,KE g,[]):=by
  rw[RJ hi,NT (by omega)];dsimp only;rw[if_pos l]
  have e:=iX (f:=GP) (B:=WY) (KE g) [] λp q t=>by
   have d:=Qq.1 q;obtain⟨v,h,rfl⟩:=d;have h:=Q0.1 h;have r:=RF b v;refine wY (by have:=Zc b 0 v;show(Ag g 0 v).length<=_;omega) (λy u=>by have:=IV b.ok (show y∈Ag g 0 v from u);omega) (by simpa using r) (λx z=>?_) t;have d:=Qq.1 z;obtain⟨s,A,rfl⟩:=d;have:=TV b (v:=v) (j:=(g.ws.getD v []).length) (s:=s) (by rw[Qg];exact A);have c:s.data.toList.length=s.size:=Vc;omega
  rw[c]at e;rw[e]
 unfold Ef;rw[o];dsimp only;rw[lI b,if_pos ⟨rfl,b⟩]
end Go.W
