/-
  Proved here: parts of this claim.
  Conditions: told at each.
-/
import Derived.Deep.Upon
import Derived.Lib.ItoaLen
import Derived.Test.YtnanheiakfekdaaGreatDoorU5
set_option maxHeartbeats 8000000
set_option linter.unusedVariables false
set_option linter.unusedSimpArgs false
namespace Go.W
open Go Go.Proofs
open AK (enc)
set_option maxRecDepth 10000
variable {B N i j k m n n2 n3:Nat} {D R:Nat -> Prop} {P:Program} {a a2 a3:OA} {g:An} {ps:List Int} {w w' w1:World}
section
variable {kx:Nat} {R:Nat->Prop} {B:Nat} {w0 w w':World} {bs:Nat} {g:An} {c:DN} {s:ES} {Ls:Nat->List AN} {K:He} {wt hd:SV} {lw:List Ay} {lh:List BC} {lj:List FK} {RW:Nat->Nat->Prop}
theorem vQ(k:Nat):∀(b:List Nat) (h:Hs),BF g c (b++[k]) h=((Ah g c (BF g c b h).1 k).1,(BF g c b h).2++(Ah g c (BF g c b h).1 k).2.toList)
 |[],h=>by simp[BF]
 |a::r,h=>by
  have:=vQ k r (Ah g c h a).1;show((BF g c (r++[k]) (Ah g c h a).1).1,(Ah g c h a).2.toList++(BF g c (r++[k]) (Ah g c h a).1).2)=_;rw[this];refine Prod.ext rfl ?_;show _++(_++_)=(_++_)++_;rw[Qp];rfl
theorem jI:∀(b:List Nat) (h:Hs),(BF g c b h).2.length<=b.length
 |[],h=>Qe _
 |a::r,h=>by
  have:=jI r (Ah g c h a).1;show((Ah g c h a).2.toList++(BF g c r (Ah g c h a).1).2).length<=r.length+1;rw[Qb];cases (Ah g c h a).2<;>simp<;>omega
theorem wI:∀(d:List Nat) (h:Hs),j∉d->(BF g c d h).1.getD j none=h.getD j none
 |[],h,_=>rfl
 |a::r,h,b=>by
  rw[Ql,not_or]at b;show(BF g c r (Ah g c h a).1).1.getD j none=_;rw[wI r _ b.2,zNy b.1]
theorem zPo{y:CG}{p:Int×Int×Gk}(b:y.id=p.1)(d:y.code=p.2.1)(e:y.a.found=p.2.2.found)(f:y.a.num=p.2.2.num):(BG y p.2.2.hits↔BG (BN p.1 p.2.1 p.2.2) p.2.2.hits)/\DM y p.2.2.hits=DM (BN p.1 p.2.1 p.2.2) p.2.2.hits:=by
 obtain⟨id,h,found,l,s⟩:=y;obtain⟨o,q,r⟩:=p;dsimp only at b d e f;subst b d e f;exact⟨Iff.rfl,rfl⟩
theorem zIK{c3:Nat}(S:BB R B w bs g c s)(hB:B<=w.heap.size)(h3:∀u,Fr R w u->AQ u (.slice a3 n3 c3) ps):
  Sp PP 57 #[.pointer (some ⟨bs,0,none⟩),.slice a3 n3 c3] w λv w'=>∃R':Nat->Prop,AD w.heap.size 9 w' v ((Eq g c s).2.map AS)/\(∀b,Value.blk v=some b->b<w'.heap.size/\¬R' b)/\BB R' B w' bs g c (Eq g c s).1/\(∀i,R' i->gR R w w' i)/\Fr R w w':=by
 have hR:=(CU.reg S).1;refine eN ?_;refine Dy (AA (zH9 S hB) ?_);rintro _ w1 ⟨S1,f1⟩;have z1:=f1.size;have A:∃d:ES,d=⟨(BS s.wait s.held).1,(BS s.wait s.held).2⟩:=⟨_,rfl⟩;obtain⟨d,T⟩:=A;rw[<-T]at S1;have c5:=(CU.reg S1).1;have a6:=S1;obtain⟨K,wt,hd,lw,lh,lj,RW,S2⟩:=a6;have c6:=S2.small;have F2:=S2.fz.here;have hu:=F2.usedH;have c7:=F2.fh.len;have c8:(Av d.held).length<=lh.length:=by rw[F2.lhn];exact bL _ _
 refine rX S2.cell rfl ?_;have D:=mN F2.fh (by omega);rw[hu]at D;refine AA D ?_;rintro v o ⟨O2,e2⟩;have A:=O2.shape;obtain⟨ua,uc,rfl⟩:=A;have z2:=e2.e.size;have c1:((Av d.held).map λk:Nat=>(k:Int)).length=(Av d.held).length:=by simp
 have P0:BB (gR R w w1) B o bs g c ⟨d.wait,(BF g c ((Av d.held).take 0) d.held).1⟩:=BB.up (w':=o) S1
 refine cO 22 [7,8,9,10,11] 5 22 (Av d.held).length (λj v u=>∃r:Nat->Prop,AD o.heap.size 9 u v ((BF g c ((Av d.held).take j) d.held).2.map AS)/\(∀b,Value.blk v=some b->b<u.heap.size/\¬r b) /\
   BB r B u bs g c ⟨d.wait,(BF g c ((Av d.held).take j) d.held).1⟩/\(∀i,r i->gR R w w1 i\/o.heap.size<=i)/\Fr (λi=>r i/\i<o.heap.size) o u)
  ⟨gR R w w1,AD.nil _ _ _,(λb hb=>by cases hb),P0,(λi hi=>.inl hi),Fr.refl _ _⟩ ?_
 clear P0;rintro j v G u hj ⟨r,O,q,P,L,f⟩;have zu:=f.size;have ff:Fr (λi=>gR R w w1 i/\i<o.heap.size) o u:=f.mono λi hi h=>⟨(L i h.1).elim id λJ=>by omega,h.2⟩;have fR:Fr R w u:=(f1.join (H:=λi=>R i) ((Fr.fr (D:=λi=>gR R w w1 i/\i<o.heap.size) e2.e).trans ff) (λ_ _ h=>h) λi hi h=>h.1.elim id λh=>by omega);have Ou:=O2.fr ff λb hb c9 h=>by rcases h.1 with h4|h4;(have:=hR b h4;omega);omega
 refine ite (λAY=>?_) (λa7=>?_)
 ·have F:j<(Av d.held).length:=by(try dsimp only at AY);omega
  have A:∃k,k=(Av d.held)[j]:=⟨_,rfl⟩;obtain⟨k,hk⟩:=A;have a8:k∈Av d.held:=by rw[hk];exact Qa F
  have A:=zOy a8;obtain⟨x0,i,a9⟩:=A
  have b0:k∉(Av d.held).take j:=λh=>by
   have A:=QI.1 h;obtain⟨m,hm,he⟩:=A;rw[Qm]at hm;rw[VI,hk]at he;have:=(VQ (zQZ d.held)).1 he;omega
  have U:(BF g c ((Av d.held).take j) d.held).1.getD k none=some (x0,i):=by rw[wI _ _ b0];exact a9
  have l:=vQ (g:=g) (c:=c) k ((Av d.held).take j) d.held;rw[show(Av d.held).take j++[k]=(Av d.held).take (j+1) by rw[hk,<-QO F]]at l;have A:∃C,C=(BF g c ((Av d.held).take j) d.held).1:=⟨_,rfl⟩;obtain⟨C,b2⟩:=A;have A:∃lo,lo=(BF g c ((Av d.held).take j) d.held).2:=⟨_,rfl⟩;obtain⟨lo,V⟩:=A;rw[<-b2]at U P l;rw[<-V]at O l;have b3:B<=u.heap.size:=by omega
  have W:=(CU.reg P).1;refine Bv Ou.sl (x:=(k:Int)) (by simp[F,hk]) λb1 o1 A1=>AF (A1.cell0 rfl) (AA (zIN P b3 U (h3 u fR)) ?_);rintro _ t ⟨⟨y,all,rfl,Q⟩,fs⟩;have zs:=fs.size;refine Ap λb4 u2 n2 Y2=>?_;have b5:=n2.lo (u:=t);have c2:=n2.lt;refine rE Y2 y λz Y3 f3 _=>?_;have Y3:Bk z b4 (enc y) 173:=Y3;have s3:AC t z:=⟨Fr.st Le.e f3 λi hi=>by subst hi;exact b5⟩;clear Y2 f3;have z3:=lz t z;have M:∀{b:Nat},b<u.heap.size->¬r b->∀{x y:World},u.heap.size<=x.heap.size->¬gR r x y b:=λ{b} hb hn {x y} U h=>h.elim hn λh=>by omega
  have c4:lo.length<=64:=by
   have:=jI (g:=g) (c:=c) ((Av d.held).take j) d.held;rw[<-V,Qm]at this;omega
  have Os:AD o.heap.size 9 t v (lo.map AS):=O.fr fs λb _ hb=>(q b hb).2;have X:Fr (λi=>gR r u t i/\i<o.heap.size) o t:=f.join fs (λi _ h=>⟨.inl h.1,h.2⟩) λi hi h=>⟨.inl h,hi⟩;have Y:∀{y x:World},o.heap.size<=x.heap.size->∀i,gR r x y i->gR R w w1 i\/o.heap.size<=i:=λ{y x} U i hi=>hi.elim (L i) λh=>.inr (by omega);rcases Q with⟨rfl,p,Ls,K,wt,hd,lw,lh,lj,RW,q1,b7,b8,b9,c0,HZ,SZ,Z,q2⟩|⟨rfl,q1,P1⟩
  ·have a0:=SZ.up (w':=z);refine AA (pQ a0 Z U (by omega)) ?_;rintro _ E ⟨P4,m4⟩;have f4:Fr (gR r u t) z E:=m4.mono λi _ h=>a0.mut h;have z4:=f4.size;have Y4:=Y3.fr f4 λh=>h.elim (λh=>by have:=(W _ h).2;omega) λh=>by omega
   have H4:AQ E (.slice y.a.s.a y.a.s.n y.a.s.c) p.2.2.hits:=HZ E (((fE t z).trans m4).mono λi _ h=>.inl h);refine rG Y4 y ?_;have a1:=((pF (CU.reg P).2.2.1 (CU.reg P).2.2.2 q1).ok (CU.reg P).2.1.ok).1;refine AA (lT (x:=y) H4 (by have:=a1.2.2.2.1;omega)) ?_;rintro v5 u5 ⟨I,e5⟩
   have I:∃e,v5=Value.tuple #[Ag (Ga p),e]:=by
    have A:=zPo b7 b8 b9 c0;obtain⟨r1,r2⟩:=A;rcases I with⟨h1,J⟩|⟨h1,J⟩
    ·refine⟨.int .i64 0,?_⟩;rw[J,r2,Ga,uH (r1.1 h1)]
    ·refine⟨.int .i64 1,?_⟩;rw[J,Ga,wG (λh=>h1 (r1.2 h))]
   obtain⟨ee,rfl⟩:=I;refine bS (AS (Ga p)) λb6 u6 n6 _ S6=>?_;have O4:AD o.heap.size 9 E v (lo.map AS):=(Os.up (w':=z)).fr f4 λb _ hb=>M (q b hb).1 (q b hb).2 (Qe _);have z6:=lz E u6;refine GB ⟨rfl,rfl⟩ (O4.up (w':=u6)) S6 (by simp) (by omega) (by rw[Qr];simp;omega) λv7 u7 O7 f7 a4=>?_;have z7:=f7.size;have P7:=P4.up (w':=u6);have nv:∀b,AV o.heap.size v b->b<u.heap.size/\¬r b:=λb hb=>q b hb.2.1
   have a5:∀b,AV o.heap.size v b->¬gR (gR r u t) z E b:=λb hb h=>by
    have:=nv b hb;rcases h with (h|h)|h
    ·exact this.2 h
    ·omega
    ·omega
   have P8:=BB.away P7 f7 a5
   have k1:AD o.heap.size 9 u7 v7 ((BF g c ((Av d.held).take (j+1)) d.held).2.map AS):=by
    have:(BF g c ((Av d.held).take (j+1)) d.held).2.map AS=lo.map AS++[AS (Ga p)]:=by
     rw[l];show(lo++(Ah g c C k).2.toList).map AS=_;rw[(fZ C k).1,q1,QB];rfl
    rw[this];exact O7
   have k2:∀b,Value.blk v7=some b->b<u7.heap.size/\¬gR (gR r u t) z E b:=λb hb=>by
    rcases a4 with h|h
    ·rw[h]at hb;have:=q b hb;refine⟨by omega,λJ=>?_⟩;rcases J with (J|J)|J
     ·exact this.2 J
     ·omega
     ·omega
    ·rw[h]at hb;cases hb;have A:=O7.lt (by simp);obtain⟨gq,g1,_,g3⟩:=A;rw[h]at g1;cases g1;refine⟨g3,λh=>?_⟩;rcases h with (h|h)|h
     ·have:=(W _ h).2;omega
     ·omega
     ·omega
   have k3:BB (gR (gR r u t) z E) B u7 bs g c ⟨d.wait,(BF g c ((Av d.held).take (j+1)) d.held).1⟩:=by
    rw[l];show BB _ _ _ _ _ _ ⟨d.wait,(Ah g c C k).1⟩;rw[q2];exact P8
   have k4:∀i,gR (gR r u t) z E i->gR R w w1 i\/o.heap.size<=i:=λi hi=>by
    rcases hi with (h|h)|h
    ·exact L i h
    ·exact .inr (by omega)
    ·exact .inr (by omega)
   have k5:Fr (λi=>gR (gR r u t) z E i/\i<o.heap.size) o u7:=by
    refine((X.trans (fE t z)).join (H:=λi=>gR (gR r u t) z E i/\i<o.heap.size) f4 (λi _ h=>⟨.inl h.1,h.2⟩) λi hi h=>⟨.inl h,hi⟩).join ((Fr.fr (D:=AV o.heap.size v) (lE E u6)).trans f7) (λ_ _ h=>h) λi hi h=>?_;have:=h.1;omega
   clear Y4 H4 O4 S6 P7 P8 nv a5 O7 f7 a4;exact rA ⟨rfl,F,_,k1,k2,k3,k4,k5⟩
  ·have P3:=BB.up (w':=z) P1
   have k1:AD o.heap.size 9 z v ((BF g c ((Av d.held).take (j+1)) d.held).2.map AS):=by
    have:(BF g c ((Av d.held).take (j+1)) d.held).2.map AS=lo.map AS:=by
     rw[l];show(lo++(Ah g c C k).2.toList).map AS=_;rw[(fZ C k).1,q1];simp
    rw[this];exact Os.up
   have k2:∀b,Value.blk v=some b->b<z.heap.size/\¬gR r u t b:=λb hb=>by
    have:=q b hb;exact⟨by omega,M this.1 this.2 (Qe _)⟩
   have k3:BB (gR r u t) B z bs g c ⟨d.wait,(BF g c ((Av d.held).take (j+1)) d.held).1⟩:=by rw[l];exact P3
   have k5:Fr (λi=>gR r u t i/\i<o.heap.size) o z:=X.trans (fE t z);exact rA ⟨rfl,F,gR r u t,k1,k2,k3,Y (by omega),k5⟩
 ·obtain rfl:j=(Av d.held).length:=by(try dsimp only at a7);omega
  rw[Qg]at O P;have h1:Eq g c s=(⟨d.wait,(BF g c (Av d.held) d.held).1⟩,(BF g c (Av d.held) d.held).2):=by rw[T];rfl
  rw[h1];refine⟨r,O.mono (by omega),q,P,λi hi=>?_,fR⟩;have:=(CU.reg P).1 i hi;have A:=L i hi;rcases A with (h|h)|h
  ·exact .inl h
  ·exact .inr (by omega)
  ·exact .inr (by omega)
end
section
variable {R:Nat->Prop} {B:Nat} {w0 w w':World} {bs:Nat} {g:An} {c:DN} {s:ES}
def ZC (o:Option (U8)):Value:=.tuple #[Ag (o.getD []),.bool o.isSome]
theorem zP0(s:ES)(id:Int):(DJ s id).2≠0:=by
 unfold DJ;split
 ·exact(by simp)
 ·split
  ·exact(by simp)
  ·exact(by simp)
theorem sE(f:Fn)(a b:Array Value):∀u∈[Value.func f a b],u.oneCell'=true:=by intro u d;simp at d;subst d;rfl
theorem zIH{f:U8}(S:BB R B w bs g c s)(T:B<=w.heap.size)(hf:f.length<=4611686018427387904):
  Sp PP 104 #[.pointer (some ⟨bs,0,none⟩),Ag f] w λv w'=>v=ZC (Hd g c s f).2/\BB (gR R w w') B w' bs g c (Hd g c s f).1/\Fr R w w':=by
 have F:=S.lo;have r:∃s' o,Hd g c s f=(s',o):=⟨_,_,rfl⟩;obtain⟨s',o,hC⟩:=r
 have W:Dp f=none->LY f=none->s'=s/\o=none:=λb y=>by
  unfold Hd at hC;rw[b]at hC;dsimp only at hC;rw[y]at hC;cases hC;exact⟨rfl,rfl⟩
 have X:Dp f=none->∀id,LY f=some id->s'=s/\o=some (Gp id 220 ER):=λb id y=>by
  unfold Hd at hC;rw[b]at hC;dsimp only at hC;rw[y]at hC;cases hC;exact⟨rfl,rfl⟩
 have Y:∀d,Dp f=some d->d.kind=4->s'=(DJ s d.id).1/\o=some (Gp d.id (DJ s d.id).2 ER):=λd b y=>by
  unfold Hd at hC;rw[b]at hC;dsimp only at hC;rw[if_pos y]at hC;cases hC;exact⟨rfl,rfl⟩
 have Z:∀d,Dp f=some d->d.kind≠4->((DU g c s d (CD d.q g.n)).2=0/\s'=(DU g c s d (CD d.q g.n)).1/\o=none)\/((DU g c s d (CD d.q g.n)).2≠0/\s'=(DU g c s d (CD d.q g.n)).1/\o=some (Gp d.id (DU g c s d (CD d.q g.n)).2 ER)):=λd b y=>by
  unfold Hd at hC;rw[b]at hC;dsimp only at hC;rw[if_neg y]at hC;by_cases G:(DU g c s d (CD d.q g.n)).2=0
  ·rw[if_pos G]at hC;cases hC;exact .inl ⟨G,rfl,rfl⟩
  ·rw[if_neg G]at hC;cases hC;have hs:=(CU.reg S).2.2.2;have r:=Nj (x:=d) hs (uC b).2.1;rcases r with⟨H,_⟩|⟨_,H⟩
   ·exact absurd H G
   ·exact .inr ⟨G,H.symm,rfl⟩
 rw[hC];dsimp only;refine eN ?_;refine Dy (AA (zFk hf) ?_);rintro _ w1 ⟨⟨d,x,hr,rfl,O⟩|⟨I,rfl⟩,e1⟩
 case inr =>
  refine Ap λbx w2 n2 J=>rE J TK λz t K _=>?_;have s3:AC w1 z:=n2.st K;clear J K;refine iT (by simp) (AA (zLP hf) ?_);rintro _ w4 ⟨⟨id,A,rfl⟩|⟨A,rfl⟩,e4⟩
  ·have r:=X I id A;obtain⟨rfl,rfl⟩:=r;refine AA iZ ?_;rintro _ p ⟨rfl,e5⟩;exact⟨rfl,BB.new (w':=p) S T⟩
  ·have r:=W I A;obtain⟨rfl,rfl⟩:=r;exact⟨rfl,BB.new (w':=w4) S T⟩
 case inl =>
  have hd:=uC hr;refine Ap λbx w2 n2 J=>?_;have a1:=n2.lo (u:=w);refine rE J x λz t K _=>?_;have t:Bk z bx (enc x) 103:=t;have s3:AC w1 z:=n2.st K;clear J K;refine iF (· rfl) (AJ (cs:=[.func (.func 163) #[.pointer (some ⟨bs,0,none⟩)] #[]]) rfl (Ap λbd w4 n4 D4=>rS D4 [.func (.func 163) #[.pointer (some ⟨bs,0,none⟩)] #[]] (sE _ _ _) λp U f5 _=>?_));have U:Bk p bd [.func (.func 163) #[.pointer (some ⟨bs,0,none⟩)] #[]] 248:=U;have s5:AC z p:=n4.st f5;clear D4 f5;refine rX t rfl ?_;have hk:=O.2.1;refine ite (λH=>?_) (λH=>?_)
  ·refine AJ (cs:=[.func (.func 164) #[.pointer (some ⟨bs,0,none⟩)] #[]]) rfl (rS U [.func (.func 164) #[.pointer (some ⟨bs,0,none⟩)] #[]] (sE _ _ _) λE D6 f6 _=>?_);have D6:Bk E bd [.func (.func 164) #[.pointer (some ⟨bs,0,none⟩)] #[]] 248:=D6;have s6:AC z E:=⟨Fr.st (lE z p) f6 λi hi=>by subst hi;exact n4.lo⟩;refine rX D6 rfl (rG t x (AA (zIL (x:=x) (w0:=w) (w:=E) S T) ?_));rintro _ w7 ⟨rfl,V,C⟩;refine iT (zP0 s x.id) ?_;have X7:=(t.mv (w:=E)).fr C λh=>by have:=F _ h;omega
   refine rX X7 rfl (AA iZ ?_);rintro _ L ⟨rfl,M⟩;obtain⟨rfl,rfl⟩:=Y d hr (by omega);have hz:=C.size;have a0:=lz w E;rw[<-O.1];refine⟨rfl,?_,((fE w E).trans C).trans (fE w7 L)⟩;have l:=(CU.reg S).1
   exact CU.wide (BB.up (w':=L) V) (λi hi=>hi.imp id λh=>by have:=M.e.size;omega) λi hi=>by
    rcases hi with hi|hi
    ·have:=l i hi;have:=M.e.size;omega
    ·omega
  ·refine rX U rfl (rG t x (AA (yA (w0:=w) (w:=p) S T (NH.up (w':=p) O) hd) ?_));rintro _ w7 ⟨rfl,V,C⟩;have hz:=C.size;have a0:=lz w p;have Q:=(Fr.fr (D:=R) (lE w p)).trans C;have l:=(CU.reg S).1;have r:=Z d hr (by omega);rcases r with⟨b,rfl,rfl⟩|⟨b,rfl,rfl⟩
   ·refine iF (· b) ?_;exact⟨rfl,V,Q⟩
   ·refine iT b ?_;have X7:=(t.mv (w:=p)).fr C λh=>by have:=F _ h;omega
    refine rX X7 rfl (AA iZ ?_);rintro _ L ⟨rfl,M⟩;rw[<-O.1];refine⟨rfl,?_,Q.trans (fE w7 L)⟩
    exact CU.wide (BB.up (w':=L) V) (λi hi=>hi.imp id λh=>by have:=M.e.size;omega) λi hi=>by
     rcases hi with hi|hi
     ·have:=l i hi;have:=M.e.size;omega
     ·omega
end
def Iz (x:NV):Prop:=(1<=x.workers/\x.workers<=16)/\(1<=x.slots/\x.slots<=64)/\(1<=x.queue/\x.queue<=1000)/\(1<=x.pool/\x.pool<=400)/\(1<=x.budget/\x.budget<=1000)
def Md (x:NV):DN:=⟨x.workers.toNat,x.slots.toNat,x.queue.toNat,x.pool.toNat,x.budget.toNat⟩
theorem zP6{x:NV}(h:Iz x):Km (Md x):=by
 unfold Iz at h;refine⟨?_,?_,?_,?_,?_⟩<;>simp only[Md]<;>omega
section
variable {B B':Nat} {w w':World} {g:An}
theorem Ci.low{b d size:Nat}{L:List AN}(h:Ci R B w b d size L)(c:B'<=B):Ci R B' w b d size L:=by
 obtain⟨f,ta,tc,ts,l,o,fr,p,st,q,m,t,h,T,M,C,Z⟩:=h;have u:=h.tab;obtain⟨g0,x,H,r⟩:=u;have y:=h.lo;exact⟨f,ta,tc,ts,l,o,fr,p,st,q,m,t,⟨⟨by omega,by omega,by omega⟩,h.cell,⟨Qw c g0,x,⟨H.cell,H.row.mono c,H.len,H.tab,H.bnd,H.may,H.zero⟩,r⟩,h.free,h.sts.mono c,h.map,λs v e=>⟨(h.rows s v e).1.mono c,(h.rows s v e).2⟩,h.empt,h.apart,h.apart2⟩,T,M,C,Z⟩
theorem EI.add{W c:Nat}{K:He}{f:Nat->Nat->Prop}{b q:Nat}{L:List AN}{Ls:Nat->List AN}(T:EI B w W K c f Ls)[Le w w'](S:Ci (λi=>w.heap.size<=i/\i<w'.heap.size) B w' b q c L)(t:Ls W=L):
  EI B w' (W+1) { K with sb:=λk=>if k=W then b else K.sb k,sg:=λk=>if k=W then q else K.sg k } c (GK f W λi=>w.heap.size<=i/\i<w'.heap.size) Ls:=by
 have r:=T.up (w':=w');have z:=lz w w';have e:∀{j},j<W->GK f W (λi=>w.heap.size<=i/\i<w'.heap.size) j=f j:=λ{j} h=>if_neg (by omega);have l:GK f W (λi=>w.heap.size<=i/\i<w'.heap.size) W=λi=>w.heap.size<=i/\i<w'.heap.size:=if_pos rfl;refine⟨λk j s u o i hi=>?_,λk s=>?_,λk s i hi=>?_⟩
 ·by_cases d:k=W
  ·subst d;rw[l]at hi;rw[e (show j<k by omega)];intro p;have:=T.lt j (by omega) i p;omega
  ·rw[e (show k<W by omega)]at hi;by_cases p:j=W
   ·subst p;rw[l];intro v;have:=T.lt k (by omega) i hi;omega
   ·rw[e (show j<W by omega)];exact T.dis k j (by omega) (by omega) o i hi
 ·by_cases d:k=W
  ·subst d;rw[l,t];simp only[if_true];exact S
  ·rw[e (show k<W by omega)];simp only[if_neg d];exact r.sto k (by omega)
 ·by_cases d:k=W
  ·subst d;rw[l]at hi;exact hi.2
  ·rw[e (show k<W by omega)]at hi;exact r.lt k (by omega) i hi
theorem zQ0(g:An)(W n k:Nat):FA g W (List.replicate n none) k=[]:=by
 unfold FA GD;rw[JA];intro x b;have c:=VP.1 b;obtain⟨j,_,h⟩:=c;rw[Qk,Vk]at h;split at h<;>cases h
def Tf (bj jc:Nat) (xr:CP) (r:List BP) (ws:SV) (wl:List ByteArray) (ps:List MM):He:=⟨bj,jc,xr,r,ws,wl,ps,⟨none,0,0⟩,λ_=>0,λ_=>0⟩
theorem zJT{x:NV}{f:U8}(hf:f.length<=4611686018427387904):
  Sp PP 53 #[agg x,Ag f] w λv w'=>((¬Iz x/\v=.tuple #[.pointer none,.int .i64 1])\/(Iz x/\Ea f=none/\v=.tuple #[.pointer none,.int .i64 30]) \/
   ∃g bs,Iz x/\Ea f=some g/\v=.tuple #[.pointer (some ⟨bs,0,none⟩),.int .i64 0]/\BB (λi=>w.heap.size<=i/\i<w'.heap.size) w.heap.size w' bs g (Md x) (Du (Md x)))/\AC w w':=by
 obtain⟨xw,xs,xq,xp,xb⟩:=x;refine eN ?_;refine BM λbc w1 n1 H=>rX H rfl (AA (zLm (n:=xs)) ?_);rintro _ w2 ⟨⟨v2,rfl,O2⟩,e2⟩;by_cases b4:xs<1\/64<xs
 ·have I:RT xs=([],1):=if_pos b4;rw[I]at O2 ⊢;refine iT (by first|omega|decide|(dsimp only<;>omega)) ?_;exact⟨.inl ⟨λh=>by have F:1<=xs/\xs<=64:=h.2.1;omega,rfl⟩,stp⟩
 have I:RT xs=(List.replicate xs.toNat BA,0):=if_neg b4;rw[I]at O2 ⊢;refine iF (· rfl) (rX H rfl (AA aP ?_));rintro _ w3 ⟨⟨rfl,J⟩|⟨rfl,J⟩,rfl⟩
 case' inr=>exact⟨.inl ⟨λh=>J h.1,rfl⟩,stp⟩
 refine rX H rfl (AA aP ?_);rintro _ w3 ⟨⟨rfl,M⟩|⟨rfl,M⟩,rfl⟩
 case' inr=>exact⟨.inl ⟨λh=>M h.2.2.1,rfl⟩,stp⟩
 refine rX H rfl (AA aP ?_);rintro _ w3 ⟨⟨rfl,S⟩|⟨rfl,S⟩,rfl⟩
 case' inr=>exact⟨.inl ⟨λh=>S h.2.2.2.1,rfl⟩,stp⟩
 refine rX H rfl (AA aP ?_);rintro _ w3 ⟨⟨rfl,V⟩|⟨rfl,V⟩,rfl⟩
 case' inr=>exact⟨.inl ⟨λh=>V h.2.2.2.2,rfl⟩,stp⟩
 have J:1<=xw/\xw<=16:=J;have M:1<=xq/\xq<=1000:=M;have S:1<=xp/\xp<=400:=S;have V:1<=xb/\xb<=1000:=V;have X:Iz ⟨xw,xs,xq,xp,xb⟩:=⟨J,by dsimp only;omega,M,S,V⟩;have b5:=zP6 X;have q:=QU (show(0:Int)<=xw by omega);obtain⟨W,rfl⟩:=q;have q:=QU (show(0:Int)<=xs by omega);obtain⟨N,rfl⟩:=q;have q:=QU (show(0:Int)<=xq by omega);obtain⟨Q,rfl⟩:=q;have q:=QU (show(0:Int)<=xp by omega);obtain⟨P,rfl⟩:=q;have q:=QU (show(0:Int)<=xb by omega);obtain⟨U,rfl⟩:=q;have H:Bk w1 bc [.int .i64 (W:Int),.int .i64 (N:Int),.int .i64 (Q:Int),.int .i64 (P:Int),.int .i64 (U:Int)] 93:=H;have b6:Md ⟨W,N,Q,P,U⟩=⟨W,N,Q,P,U⟩:=by simp[Md]
 rw[b6]at b5;rw[QW]at O2;have q:=O2.shape;obtain⟨a2,c2,rfl⟩:=q;have d1:(List.replicate N BA).length=N:=by simp
 refine AA (zIu hf) ?_;rintro _ w4 ⟨⟨g,gx,vs,a0,rfl,V4⟩|⟨a0,rfl⟩,e4⟩
 case' inr =>
  refine Ap λbg w5 n5 G5=>rS G5 (enc Mc) (AK.one _) λw6 G6 f6 _=>?_;have s6:AC w4 w6:=n5.st f6;clear G5 f6;refine iT (by first|omega|decide|(dsimp only<;>omega)) ?_;exact⟨.inr (.inl ⟨X,a0,rfl⟩),stp⟩
 have a8:=zOY a0;refine Ap λbg w5 n5 G5=>rS G5 (enc gx) (AK.one _) λw6 G6 f6 _=>?_;have G6:Bk w6 bg (enc gx) 35:=G6;have s6:AC w4 w6:=n5.st f6;clear G5 f6;refine iF (· rfl) (dQ 8 λw7 e7=>tG H (⟨W,N,Q,P,U⟩:NV) nf (tX H rfl nf (Id Ov rfl rfl (by omega) λs w8 OJ s8 f2=>⟨s8.e,?_⟩)));refine As (cs:=Io ⟨W,N,Q,P,U⟩ (Tf s N ⟨⟨none,0,0⟩,⟨none,0,0⟩,⟨none,0,0⟩,⟨none,0,0⟩⟩ [] ⟨none,0,0⟩ [] []) ⟨none,0,0⟩ ⟨a2,(List.replicate N BA).length,c2⟩) (by rw[d1];rfl) (BM λbs w9 n9 S9=>⟨n9.e,?_⟩);have b1:=n1.b;have l1:=n1.lt;have b9:=n9.b;have l9:=n9.lt;have z8:=lz w w8;have f5:=lz w w7
 have f0:s<bs:=by
  have F:=OJ.lt (by intro h;have:=congrArg List.length h;simp at this;omega);obtain⟨gq,F,_,h3⟩:=F;have h4:s=gq:=QL F;omega
 refine rG G6 gx (AA (tP (V4.up (w':=w9)) a8) ?_);rintro _ b7 ⟨⟨y,r,rfl,RO⟩,d2⟩;refine Ap λbr f7 b8 c0=>rS c0 (enc y) (AK.one _) λa1 a9 c1 _=>?_;have a9:Bk a1 br (enc y) 82:=a9;have f8:AC b7 a1:=b8.st c1;have f9:=b8.lo (u:=w9);clear c0 c1;refine rG G6 gx (AA (zHY (V4.up (w':=a1)) a8) ?_);rintro _ o ⟨⟨pa,pc,ps,wl,rfl,PM,_,d3,OP,c4⟩,d4⟩;refine rG a9 y ?_;have g0:=d2.e.size;have g2:=lz b7 a1;have g4:=d4.e.size;refine rS S9 (enc y) (AK.one _) λg5 c5 d5 _=>rS c5 [.slice pa ps.length pc] (Gs _ _ _) λd a4 d6 _=>?_;have q:∃K:He,K=Tf s N y r ⟨pa,ps.length,pc⟩ wl ps:=⟨_,rfl⟩;obtain⟨K,hK⟩:=q
 have a4:Bk d bs (Io ⟨W,N,Q,P,U⟩ K ⟨none,0,0⟩ ⟨a2,(List.replicate N BA).length,c2⟩) 158:=by
  rw[hK];exact a4
 clear c5 S9;have z:Fr (λi=>i=bs) o d:=d5.trans d6;have g6:=z.size;have g7:AC w8 d:=⟨Fr.st (lE w8 o) z λi hi=>by omega⟩;refine rX H rfl ?_
 refine cN 82 [4,5,14,15] 82 W (λj u=>∃(wa:OA) (wc:Nat) (sb sg:Nat->Nat) (E:Nat->Nat->Prop),
   AD w.heap.size 161 u (.slice wa j wc) ((List.range j).map λk=>(⟨sb k⟩:KJ)) /\
   Bk u bs (Io ⟨W,N,Q,P,U⟩ { K with wk:=⟨wa,j,wc⟩ } ⟨none,0,0⟩ ⟨a2,(List.replicate N BA).length,c2⟩) 158 /\
   EI w.heap.size u j { K with sb:=sb,sg:=sg } P E (λ_=>[])/\(∀k,k<j->∀i,E k i->d.heap.size<=i) /\
   (∀b,Value.blk (.slice wa j wc)=some b->d.heap.size<=b/\b<u.heap.size/\∀k,k<j->¬E k b)/\Fr (λi=>i=bs) d u)
  ⟨none,0,λ_=>0,λ_=>0,λ_ _=>False,AD.nil _ _ _,by rw[hK]at a4 ⊢;exact a4,⟨λk j p=>by omega,λk p=>by omega,λk p=>by omega⟩,(λk p=>by omega),(λb hb=>by cases hb),Fr.refl _ _⟩ ?_
 rintro j G u hj ⟨wa,wc,sb,sg,E,OW,Su,T,a5,Y,f⟩;have zu:=f.size;have su:AC w8 u:=⟨Fr.st (lE w8 d) f λi hi=>by omega⟩;refine ite (λAY=>?_) (λd7=>?_)
 ·have d8:j<W:=Int.ofNat_lt.1 AY;refine rX H rfl (AA (zLr (size:=(P:Int))) ?_);rintro _ u1 ⟨⟨g8,_⟩|⟨N',b,gs,g9,_,_,rfl,SN⟩,e1⟩
  ·omega
  have q:P=N':=by omega
  obtain rfl:=q;have z1:=e1.e.size;refine iF (· rfl) (rX Su rfl (bS (⟨b⟩:KJ) λb2 u2 n2 _ S2=>?_));have z2:=n2.e.size;refine GB ⟨rfl,rfl⟩ (OW.up (w':=u2)) S2 (by simp) (by omega) (by simp;omega) λv3 u3 O3 f3 a6=>?_;have a6:Value.blk v3=Value.blk (.slice wa j wc)\/Value.blk v3=some u2.heap.size:=a6;have f3:Fr (AV w.heap.size (.slice wa j wc)) u2 u3:=f3;have z3:=f3.size;have hv:∀b,AV w.heap.size (.slice wa j wc) b->d.heap.size<=b/\b<u.heap.size/\∀k,k<j->¬E k b:=λb hb=>Y b hb.2.1;have f1:bs<d.heap.size:=by omega
  have c6:=(Su.mv (w:=u2)).fr f3 λh=>by have:=hv _ h;omega
  have d9:((List.range j).map (λk=>(⟨sb k⟩:KJ))++[(⟨b⟩:KJ)]).length=j+1:=by simp
  have e0:∃a c,v3=.slice a (j+1) c:=by
   have h:=O3.shape;rw[d9]at h;exact h
  obtain⟨a3,c3,c7⟩:=e0;subst c7;refine rS c6 [.slice a3 (j+1) c3] (Gs _ _ _) λu4 S4 f4 _=>?_;have S4:Bk u4 bs (Io ⟨W,N,Q,P,U⟩ { K with wk:=⟨a3,j+1,c3⟩ } ⟨none,0,0⟩ ⟨a2,(List.replicate N BA).length,c2⟩) 158:=S4;have z4:=f4.size
  have b0:∀t,Value.blk (.slice a3 (j+1) c3)=some t->d.heap.size<=t/\t<u3.heap.size/\(∀k,k<j->¬E k t)/\¬(u.heap.size<=t/\t<u1.heap.size):=λt A=>by
   have q:=O3.lt (by simp);obtain⟨gq,g1,_,g3⟩:=q;rw[A]at g1;cases g1;rcases a6 with h|h
   ·rw[A]at h;have:=Y t h.symm;exact⟨this.1,g3,this.2.2,by omega⟩
   ·rw[A]at h;cases h;exact⟨by omega,g3,λk p h2=>by have:=T.lt k p _ h2;omega,by omega⟩
  have k1:AD w.heap.size 161 u4 (.slice a3 (j+1) c3) ((List.range (j+1)).map λk=>(⟨(λk=>if k=j then b else sb k) k⟩:KJ)):=by
   have e:((List.range (j+1)).map λk=>(⟨(λk=>if k=j then b else sb k) k⟩:KJ))=(List.range j).map (λk=>(⟨sb k⟩:KJ))++[(⟨b⟩:KJ)]:=by
    rw[Jm,QB];congr 1
    ·apply Ja;intro k p;have:=Q0.1 p;dsimp only;rw[if_neg (by omega)]
    ·simp
   rw[e];exact O3.fr f4 λt _ A h=>by have:=b0 t A;omega
  have T1:=(EI.add (L:=[]) (Ls:=λ_=>[]) T (SN.low (by omega)) rfl)
  have T4:EI w.heap.size u4 (j+1) { K with sb:=λk=>if k=j then b else sb k,sg:=λk=>if k=j then gs else sg k } P (GK E j λi=>u.heap.size<=i/\i<u1.heap.size) (λ_=>[]):=by
   refine((T1.up (w':=u2)).away f3 λk p i hi h=>?_).away f4 λk p i hi h=>?_
   ·have h5:=hv i h;unfold GK at hi;split at hi
    ·omega
    ·exact h5.2.2 k (by omega) hi
   ·unfold GK at hi;split at hi
    ·omega
    ·have:=a5 k (by omega) i hi;omega
  have k4:∀k,k<j+1->∀i,GK E j (λi=>u.heap.size<=i/\i<u1.heap.size) k i->d.heap.size<=i:=λk p i hi=>by
   unfold GK at hi;split at hi
   ·omega
   ·exact a5 k (by omega) i hi
  have k5:∀t,Value.blk (.slice a3 (j+1) c3)=some t->d.heap.size<=t/\t<u4.heap.size/\∀k,k<j+1->¬GK E j (λi=>u.heap.size<=i/\i<u1.heap.size) k t:=λt A=>by
   have h5:=b0 t A;refine⟨h5.1,by omega,λk p hi=>?_⟩;unfold GK at hi;split at hi
   ·exact h5.2.2.2 hi
   ·exact h5.2.2.1 k (by omega) hi
  have k6:Fr (λi=>i=bs) d u4:=(f.join ((Fr.fr (D:=AV w.heap.size (.slice wa j wc)) (lE u u2)).trans f3) (λ_ _ h=>h) λi hi h=>by have:=hv i h;omega).trans f4;clear O3 f3 a6 hv b0 T1 c6 OW;exact rA ⟨rfl,d8,a3,c3,_,_,_,k1,S4,T4,k4,k5,k6⟩
 ·have e3:j=W:=by have h5:=Int.ofNat_le.1 (Int.not_lt.1 d7);exact Nat.le_antisymm hj h5
  subst e3
  have hR:∀{C:Nat},w.heap.size<=C->∀{a7:Nat},a7<=d.heap.size->(∀i,C<=i->i<a7->¬i=bs/\¬i=s)->∀i,C<=i->i<a7->(w.heap.size<=i/\i<u.heap.size)/\¬Cr bs s j E i:=λ{C} hC {a7} hl hn i F h2=>by
   refine⟨by omega,λh=>?_⟩;rcases h with h|h|⟨k,p,h⟩
   ·exact(hn i F h2).1 h
   ·exact(hn i F h2).2 h
   ·have:=a5 k p i h;omega
  have h0:K.bj=s:=by rw[hK];rfl
  have Z:Fr (λi=>i=bs) o u:=z.trans f
  have BV:∀{α:Type} [AK α] {e:TypeId} {C:Nat} {v:Value} {l:List α} {u0:World},AD C e u0 v l->Le w9 u0->u0.heap.size<=o.heap.size->w9.heap.size<=C->AD C e o v l->Fz (Cr bs s j E) (λi=>w.heap.size<=i/\i<u.heap.size) u λu=>AQ u v l:=λ{α _ e C v l u0} O L0 hz hC b3 =>
   O.fzB (b3.fr Z λb hb _ h=>by omega).sl (hR (by omega) (by omega) λi F h2=>by omega)
  have c8:=BV RO.off inferInstance (by omega) (Qe _) (RO.off.up (w':=o));have e5:=BV RO.to inferInstance (by omega) (Qe _) (RO.to.up (w':=o));have c9:=BV RO.rof inferInstance (by omega) (Qe _) (RO.rof.up (w':=o));have d0:=BV RO.rev inferInstance (by omega) (Qe _) (RO.rev.up (w':=o));have e6:=BV OP inferInstance (Qe _) (by omega) OP;have e8:∀i (h:i<ps.length) (h':i<wl.length),Fz (Cr bs s j E) (λi=>w.heap.size<=i/\i<u.heap.size) u λu=>AQ u ps[i].pl.v (Fj g wl[i]):=λi h h'=>BV (c4 i h h') inferInstance (Qe _) (by omega) (c4 i h h')
  have e9:Fz (Cr bs s j E) (λi=>w.heap.size<=i/\i<u.heap.size) u λu=>AQ u (.slice a2 (List.replicate N BA).length c2) (List.replicate N BA):=by
   have z2:=lz w3 w7
   have b3:=((O2.up (w':=o)).fr Z λb _ hb h=>by
    obtain⟨gq,g1,_,g3⟩:=O2.lt (by intro h;have:=congrArg List.length h;simp at this;omega);rw[hb]at g1;cases g1;omega)
   exact O2.fzB b3.sl (hR (by have:=lz w w1;omega) (by omega) λi F h2=>by omega)
  have Ju:AD w.heap.size 258 u (.slice (some ⟨s,0,none⟩) N N) (List.replicate N Ov):=((OJ.up (w':=o)).fr Z λb _ hb h=>by
   have:s=b:=QL hb;omega).mono (by omega)
  refine⟨.inr (.inr ⟨g,bs,X,a0,rfl,?_⟩),stp⟩;rw[b6];refine⟨{ K with wk:=⟨wa,j,wc⟩,sb:=sb,sg:=sg },⟨none,0,0⟩,⟨a2,(List.replicate N BA).length,c2⟩,[],List.replicate N BA,List.replicate N Ov,E,?_⟩;subst hK;refine⟨λi hi=>hi,by omega,?_,?_,λk p i hi=>?_,Su,Ju,⟨T.dis,λk p=>by rw[show(Du ⟨j,N,Q,P,U⟩).held=List.replicate N none from rfl,zQ0];exact T.sto k p,T.lt⟩,λu' f'=>?_,a8,b5,d3,Wh g _⟩
  ·show w.heap.size<=s/\s<u.heap.size;omega
  ·show bs≠s;omega
  ·have F:=a5 k p i hi;have h2:=T.lt k p i hi;exact⟨by omega,by omega,by show i≠s;omega⟩
  ·refine⟨⟨RO.rev',c8 u' f',e5 u' f',c9 u' f',d0 u' f'⟩,⟨PM.ris,PM.all,PM.len,λi h h'=>⟨(PM.at' i h h').1,e8 i h h' u' f'⟩⟩,e6 u' f',OW.sl.fr f' λb hb hd=>?_,AQ.nil _,e9 u' f',rfl,λi h=>absurd h (Nat.not_lt_zero _),by simp[Du],by simp[Du],λk h h'=>?_⟩
   ·have F:=Y b hb;rcases hd with hd|hd
    ·rcases hd with hd|hd|⟨k,p,hd⟩
     ·omega
     ·have hd:b=s:=hd;omega
     ·exact F.2.2 k p hd
    ·exact hd ⟨by omega,F.2.1⟩
   ·have e:(Du ⟨j,N,Q,P,U⟩).held.getD k none=none:=by
     show(List.replicate N none).getD k none=none;rw[Qk,Vk];split<;>rfl
    rw[e];show((List.replicate N BA)[k]).used=false;simp[BA]
end


section
variable {R R' R2:Nat->Prop} {B B2:Nat} {u u' w w':World} {bs bt:Nat} {g:An} {c:DN} {s t:ES}
theorem BB.ok(S:BB R B w bs g c s):Bb g/\Km c/\DX g c s:=(CU.reg S).2
theorem zPN(S:BB R B w bs g c s):((Eq g c s).2).length<=64:=by
 have d:=S.ok;obtain⟨_,b,h⟩:=d;have f:=jI (g:=g) (c:=c) (Av (BS s.wait s.held).2) (BS s.wait s.held).2;have l:(Av (BS s.wait s.held).2).length<=(BS s.wait s.held).2.length:=bL _ _;have e:=(kK b s.wait s.held h).1.len;have o:=b.slots.2;dsimp only at e;show(BF g c _ _).2.length<=64;omega
end
theorem zOR{x:CG}{l:List AG}(h:BG x l):(DM x l).length<=1100:=by
 have d:=h.2.2.2.1;have e:=rJ l;have b:=T8 [x.id,x.code];have c:=T8 [if x.a.found then 1 else 0,x.a.num,(l.length:Int)];unfold DM;simp only[QA,QZ]at b c;rw[Qb];split
 ·simp only[QZ];omega
 ·rw[Qb];omega
theorem gS{p:Int×Int×Gk}(h:BG (BN p.1 p.2.1 p.2.2) p.2.2.hits):Ga p=DM (BN p.1 p.2.1 p.2.2) p.2.2.hits:=if_pos h
theorem zOE{p:Int×Int×Gk}(h:BG (BN p.1 p.2.1 p.2.2) p.2.2.hits):(Ga p).length<=1100:=by
 rw[gS h];exact zOR h
theorem xY{p:Int×Int×Gk}(h:BG (BN p.1 p.2.1 p.2.2) p.2.2.hits):Sp PP 112 #[Ag (Ga p)] w λv w'=>(∃x:CG,v=.tuple #[agg x,.int .i64 0]/\x.id=p.1/\x.code=p.2.1/\x.a.found=p.2.2.found/\x.a.num=p.2.2.num/\AD w.heap.size 142 w' (.slice x.a.s.a x.a.s.n x.a.s.c) p.2.2.hits)/\AC w w':=by
 have f:=zOE h;refine(zGk (by omega)).mono λv w' ⟨q,e⟩=>⟨?_,e⟩;rcases q with⟨x,l,b,h5,rfl,O⟩|⟨b,_⟩
 ·rw[gS h]at h5;have d:=zOQ (To.of b) (To.of h) h5;injection d with i1 i2 i3 i4 i5;subst i5;exact⟨x,rfl,i1,i2,i3,i4,O⟩
 ·exact absurd (gS h).symm (b _ _ h)
section
variable {R R':Nat->Prop} {B:Nat} {w w':World}
end
open Go Go.Proofs Go.RowKit
abbrev NF (e:Int):List PanicEntry:=[{ v:=.iface 24 (.int .i64 e),recovered:=false }]
theorem Tl{e:Int}:El PP 42 #[.int .i64 e] w (λ_ w'=>e=0/\w'=w) (λc w'=>e≠0/\c=NF e/\w'=w):=by
 refine HB Aa rfl ?_;refine ite (λh=>?_) (λh=>?_)
 ·refine Hm ?_;exact FG ⟨h,rfl,rfl⟩
 ·exact⟨by omega,rfl⟩
theorem ZF:Sp PP 42 #[.int .i64 0] w λ_ w'=>w'=w:=by
 refine eN ?_;refine iF (· rfl) ?_;exact rfl
theorem uZ{v:Value}:Sp PP 54 #[v,.int .i64 0] w λr w'=>r=v/\w'=w:=by
 refine eN ?_;refine AA ZF ?_;rintro _ _ rfl;exact⟨rfl,rfl⟩
theorem zNg{v:Value}{e:Int}:El PP 54 #[v,.int .i64 e] w (λr w'=>e=0/\r=v/\w'=w) (λc w'=>e≠0/\c=NF e/\w'=w):=by
 refine HB Aa rfl ?_;refine AO Tl ?_ ?_
 ·rintro _ _ ⟨h,rfl⟩;exact⟨h,rfl,rfl⟩
 ·rintro _ _ ⟨h,rfl,rfl⟩;exact⟨h,rfl,rfl⟩
theorem tW{v:Value}{e:Int}:El PP 52 #[v,.int .i64 e] w (λr w'=>e=0/\r=v/\w'=w) (λc w'=>e≠0/\c=NF e/\w'=w):=by
 refine HB Aa rfl ?_;refine AO Tl ?_ ?_
 ·rintro _ _ ⟨h,rfl⟩;exact⟨h,rfl,rfl⟩
 ·rintro _ _ ⟨h,rfl,rfl⟩;exact⟨h,rfl,rfl⟩
theorem zNN{x:FY}{e:Int}:El PP 43 #[agg x,.int .i64 e] w (λr w'=>e=0/\r=agg x/\AC w w') (λc w'=>e≠0/\c=NF e/\AC w w'):=by
 refine HB Aa rfl ?_;refine BM λt w1 n1 d=>Ap λf v n2 l=>?_;have o:=n2.lo (u:=w);refine AO Tl ?_ ?_
 ·rintro _ p ⟨h,rfl⟩;refine rG d x (rE l x λq b s _=>?_);have b:Bk q f (enc x) 35:=b;refine AR (B:=b) rfl ?_;exact⟨h,rfl,⟨Fr.st (lE w p) s λi hi=>by omega⟩⟩
 ·rintro _ _ ⟨h,rfl,rfl⟩;exact⟨h,rfl,stp⟩
theorem fI{x:FY}:Sp PP 43 #[agg x,.int .i64 0] w λr w'=>r=agg x/\AC w w':=by
 refine eN ?_;refine BM λp w1 n1 c=>Ap λd q n2 e=>?_;have f:=n2.lo (u:=w);refine AA ZF ?_;rintro _ h rfl;refine rG c x (rE e x λl b o _=>?_);have b:Bk l d (enc x) 35:=b;refine AR (B:=b) rfl ?_;exact⟨rfl,⟨Fr.st (lE w h) o λi hi=>by omega⟩⟩
theorem zNQ{x:CP}:Sp PP 82 #[agg x,.int .i64 0] w λr w'=>r=agg x/\AC w w':=by
 refine eN ?_;refine BM λp w1 n1 c=>Ap λd q n2 e=>?_;have f:=n2.lo (u:=w);refine AA ZF ?_;rintro _ h rfl;refine rG c x (rE e x λl b o _=>?_);have b:Bk l d (enc x) 82:=b;refine AR (B:=b) rfl ?_;exact⟨rfl,⟨Fr.st (lE w h) o λi hi=>by omega⟩⟩
theorem zNP{x:CG}:Sp PP 111 #[agg x,.int .i64 0] w λr w'=>r=agg x/\AC w w':=by
 refine eN ?_;refine BM λp w1 n1 c=>Ap λd q n2 e=>?_;have f:=n2.lo (u:=w);refine AA ZF ?_;rintro _ h rfl;refine rG c x (rE e x λl b o _=>?_);have b:Bk l d (enc x) 173:=b;refine AR (B:=b) rfl ?_;exact⟨rfl,⟨Fr.st (lE w h) o λi hi=>by omega⟩⟩
theorem zQW(a b:OA)(n m c d:Nat):∀u∈[Value.slice a n c,.slice b m d],u.oneCell'=true:=by intro u e;simp at e;rcases e with rfl|rfl<;>rfl
theorem zNO{b:OA}{c d:Nat}:Sp PP 50 #[.agg #[.slice a n c,.slice b m d],.int .i64 0] w λr w'=>r=.agg #[.slice a n c,.slice b m d]/\AC w w':=by
 refine eN ?_;refine BM λh w1 n1 e=>Ap λl v n2 o=>?_;have e:Bk w1 h [.slice a n c,.slice b m d] 88:=e;have p:=n2.lo (u:=w);refine AA ZF ?_;rintro _ q rfl;refine Cq (ds:=[.slice a n c,.slice b m d]) (B:=e) rfl rfl (rS o [.slice a n c,.slice b m d] (zQW _ _ _ _ _ _) λs f t _=>?_);have f:Bk s l [.slice a n c,.slice b m d] 88:=f;refine AR (B:=f) rfl ?_;exact⟨rfl,⟨Fr.st (lE w q) t λi hi=>by omega⟩⟩
class Po (P:Program) (t:TypeId):Prop where
 h:∃m,P.underlying t=some (.interface m)
section
variable {P:Program} {k:KW} {pn:PW} {w:World}
theorem x8(d:Nat){t:TypeId}{m:Array (String×TypeId)}(b:P.underlying t=some (.interface m))(w:World):(Op.equalIn (d+1) t .nilIface .nilIface).run P w=.ok true w:=by
 simp[Op.equalIn,run_underlying b]
theorem zGp(d:Nat){t b:TypeId}{v:Value}{m:Array (String×TypeId)}(c:P.underlying t=some (.interface m))(w:World):(Op.equalIn (d+1) t (.iface b v) .nilIface).run P w=.ok false w:=by
 simp[Op.equalIn,run_underlying c]
theorem zPu{t:TypeId}(b:Po P t){X:Operand}{c:Value}(w:World):(do eqGuard .eql t X (.const c) .nilIface .nilIface;binOp .eql t .nilIface .nilIface:Sem Value).run P w=.ok (.bool true) w:=by
 have d:=b.h;obtain⟨e,f⟩:=d
 have g:(eqGuard .eql t X (.const c) .nilIface .nilIface).run P w=.ok () w:=by
  unfold eqGuard;cases X<;>rfl
 rw[Qo,g,Qh];simp only[binOp];rw[Qo]
 have:(Op.equal t .nilIface .nilIface).run P w=.ok true w:=by
  exact x8 9999 f w
 rw[this];rfl
theorem zOq{t b:TypeId}{v:Value}(c:Po P t){X Y:Operand}(w:World):(do eqGuard .eql t X Y (.iface b v) .nilIface;binOp .eql t (.iface b v) .nilIface:Sem Value).run P w=.ok (.bool false) w:=by
 have d:=c.h;obtain⟨e,f⟩:=d;have g:(eqGuard .eql t X Y (.iface b v) .nilIface).run P w=.ok () w:=rfl;rw[Qo,g,Qh];simp only[binOp];rw[Qo]
 have:(Op.equal t (.iface b v) .nilIface).run P w=.ok false w:=by
  exact zGp 9999 f w
 rw[this];rfl
theorem Zb{t:TypeId}[b:Po P t]{X:Operand}{c:Value}(d:k (.bool true) w):AI P (do eqGuard .eql t X (.const c) .nilIface .nilIface;binOp .eql t .nilIface .nilIface) k pn w:=AI.of (zPu b w) d
theorem U3{t b:TypeId}{v:Value}[c:Po P t]{X Y:Operand}(d:k (.bool false) w):AI P (do eqGuard .eql t X Y (.iface b v) .nilIface;binOp .eql t (.iface b v) .nilIface) k pn w:=AI.of (zOq c w) d
theorem YX{n:Int}(b:∀m:Int,(-9223372036854775807<=n/\n<=9223372036854775807->m = -n)->k (.int .i64 m) w):AI P (Op.unary .neg (.int .i64 n)) k pn w:=by
 refine AI.of (v:=.int .i64 (IntKind.i64.wrap (0 - n))) (w':=w) rfl (b _ λh=>?_);rw[TR (by omega) (by omega)];omega
end
instance:Po PP 48:=⟨(match PP.underlying 48 with|some (.interface m)=>m|_=>#[]),by kernel_rfl⟩
def WP (f:Tx->Option Int) (s:Tx) (v:Value):Prop:=∃n b,v=.tuple #[.int .i64 n,.bool b]/\(b=true->f s=some n)/\(b=false->f s=none)
theorem zO5{s:Tx}(h:∀n,Lib.atoiAll s≠.ok n):Bx s=none:=by simp[Bx]
theorem zQm{s:Tx}{n:Int}(h:Lib.atoiAll s=.ok n):Bx s=if 0<=n/\n<=1000000/\s.length<=7/\Lib.itoa n=s then some n else none:=by
 unfold Bx;rw[h]
theorem fP{s:Tx}(G:HY w)(f:s.length<=1000000):Sp PP 68 #[Ag s] w λv w'=>WP Bx s v/\AC w w':=by
 have q:=AM s;refine eN ?_;refine AA (zIc G f) ?_;rintro _ w1 ⟨⟨n,b,rfl⟩|⟨b,m,t,p,rfl⟩,r⟩
 ·refine Zb ?_;have hd:=zQm b;have no:¬(0<=n/\n<=1000000/\s.length<=7/\Lib.itoa n=s)->WP Bx s (.tuple #[.int .i64 n,.bool false]):=λh=>⟨n,false,rfl,(λe=>(by cases e)),λ_=>by rw[hd,if_neg h]⟩;refine ite (λc=>?_) (λc=>⟨no (by omega),stp⟩);refine ite (λd=>?_) (λd=>⟨no (by omega),stp⟩);refine ite (λl=>?_) (λl=>⟨no (by omega),stp⟩);refine AA (TD G.up (n:=n) (by omega)) ?_;rintro _ u ⟨rfl,x⟩;refine DL (λh=>?_) (λh=>?_)
  ·exact⟨⟨n,true,rfl,λ_=>by rw[hd,if_pos ⟨c,d,by omega,ST h⟩],(λe=>(by cases e))⟩,stp⟩
  ·exact⟨no (λo=>h (by rw[o.2.2.2])),stp⟩
 ·refine U3 ?_;exact⟨⟨m,false,rfl,(λe=>(by cases e)),λ_=>zO5 b⟩,stp⟩
theorem zKl{s:Tx}(G:HY w)(q:s.length<=1000000):Sp PP 69 #[Ag s] w λv w'=>WP Do s v/\AC w w':=by
 refine eN ?_;refine AA (fF (s:=s) (p:=[45])) ?_;rintro _ _ ⟨⟨f,rfl⟩|⟨f,rfl⟩,rfl⟩
 ·refine AA (fP (s:=s.drop 1) G (by rw[QR];omega)) ?_;rintro _ w1 ⟨⟨n,b,rfl,c,d⟩,r⟩
  have hd:Do s=(match Bx (s.drop 1) with
   |some n=>if 0<n then some (-n) else none
   |none=>none):=if_pos f
  refine YX λm l=>?_
  cases b with
  |false =>
   exact⟨⟨m,false,rfl,(λe=>(by cases e)),λ_=>by rw[hd,d rfl]⟩,stp⟩
  |true =>
   have o:=c rfl;have u:=WZ o;have l:=l (by omega);refine ite (λt=>?_) (λt=>?_)
   ·exact⟨⟨m,true,rfl,λ_=>by rw[hd,o];dsimp only;rw[if_pos (by omega),l],(λe=>(by cases e))⟩,stp⟩
   ·exact⟨⟨m,false,rfl,(λe=>(by cases e)),λ_=>by rw[hd,o];dsimp only;rw[if_neg (by omega)]⟩,stp⟩
 ·refine AA (fP (s:=s) G q) ?_;rintro _ w1 ⟨⟨n,b,rfl,c,d⟩,r⟩;have hd:Do s=Bx s:=if_neg f;exact⟨⟨n,b,rfl,λh=>by rw[hd];exact c h,λh=>by simp_all⟩,stp⟩
open Go
section
variable {P:Program} {k:KW} {pn:PW} {w:World}
theorem zNv{t e:TypeId}{zero:List Value}{sz:Nat}(l:MR P t N e)(c:(P.info? t).bind (·.zero)=some (.agg zero.toArray))(d:(P.info? e).map (·.size)=some sz){b:List (Nat×Value)}{cs:List Value}
  (o:Hx (λi=>some (i*sz,sz)) zero b=some cs)(w:World):(Instr.build t b.toArray).run P w=.ok (.agg cs.toArray) w:=by
 obtain⟨i,hi,c⟩:=Option.bind_eq_some_iff.1 c;obtain⟨j,p,d⟩:=Vo.1 d;have f:=iL _ b zero cs o;simp only[Instr.build,zeroValue,sizeOf,typeInfo,underlying,Qo,run_program,Qh,hi,p,d,c,Jd,l.h,Value.cells,f]
theorem Sk{t e:TypeId}{zero:List Value}{sz:Nat}[c:MR P t N e](d:(P.info? t).bind (·.zero)=some (.agg zero.toArray))(f:(P.info? e).map (·.size)=some sz){b:List (Nat×Value)}{cs:List Value}
  (h:Hx (λi=>some (i*sz,sz)) zero b=some cs)(l:k (.agg cs.toArray) w):AI P (Instr.build t b.toArray) k pn w:=AI.of (zNv c d f h w) l
end
section
variable {α:Type} [AK α] {P:Program} {k:KW} {pn:PW} {w:World}
theorem y9{t ty e:TypeId}{z:Value}{sz q:Nat}(I:DQ P t e)(W:AX P e z sz q)(J:AK.sz α=sz){v x:Value}{l m:List α}
  (G:AD B e w v l)(X:AQ w x m)(r:m≠[])(hb:(l.length+m.length)*q<=140737488355328)(S:l.length+m.length<=maxLen){p:Value}(h:(Builtin.append_ #[t,t] ty #[v,x]).run P w=.ok p w'):
  Value.blk p=Value.blk v\/(Value.blk p=some w.heap.size/\Bp w w'):=by
 obtain⟨i,hi,T,s,y⟩:=info_parts W.h;subst J;obtain⟨xa,A,rfl,Y,K⟩:=X;rcases K with K|⟨b,o,rfl,L⟩
 ·exact absurd K r
 have c:∀j u,(Ac m)[j]? = some u->w.cell? ((⟨b,o,none⟩:Addr).add j)=some u:=λj u M=>by rw[Oj];exact L j u M
 have H:(Ac m).length=m.length*AK.sz α:=KZ m;have U:0<m.length:=JI.2 r;have Z:m.length<=maxLen:=by omega
 have V:Bp w w.drew:=⟨rfl,rfl,rfl,Qe _,λ_ _ _=>rfl,λ_ _ h _=>h⟩
 have nil:(Builtin.append_ #[t,t] ty #[.slice none 0 0,.slice (some ⟨b,o,none⟩) m.length A]).run P w=.ok p w'->l.length=0->Value.blk p=some w.heap.size/\Bp w w':=λh h0=>by
  have C:=run_append_nil (P:=P) w t ty e i z I.h hi T ⟨b,o,none⟩ m.length A (Ac m) (by rw[H,s]) c (by omega) (by simp only[maxLen]at S;omega) (by rw[y];have hb:=hb;rw[h0,JO]at hb;omega);rw[C]at h;cases h;exact⟨rfl,V.t (Bp.alloc w.drew _)⟩
 have f:∀(a:Addr) (n cap:Nat) (xs:List Value),xs.length=n*i.size->(∀j u,xs[j]? = some u->w.cell? (a.add j)=some u)->cap<n+m.length->n=l.length ->
   (Builtin.append_ #[t,t] ty #[.slice (some a) n cap,.slice (some ⟨b,o,none⟩) m.length A]).run P w=.ok p w'->Value.blk p=some w.heap.size/\Bp w w':=λa n cap xs h1 h2 h3 h4 h=>by
  subst h4
  have C:=run_append_grow (P:=P) w t ty e i z I.h hi T a l.length cap xs h1 h2 ⟨b,o,none⟩ m.length A (Ac m) (by rw[H,s]) c (by omega) (by simp only[maxLen]at S;omega)
   (by rw[y];exact growslice_fits (by omega) hb)
  rw[C]at h;cases h;exact⟨rfl,V.t (Bp.alloc w.drew _)⟩
 rcases G with⟨rfl,a,rfl⟩|G
 ·cases a with
  |none=>exact .inr (nil h rfl)
  |some a=>exact .inr (f a 0 0 [] (by simp) (by simp) (by omega) rfl h)
 ·rcases G.2 with⟨rfl,hn⟩|⟨g,cap,E,rfl,a0,hg,a1,a4,O,Q⟩
  ·exact .inr (nil h hn)
  ·by_cases d:l.length+m.length<=cap
   ·left;have F:l.length*i.size+(Ac m).length<=E.size:=by rw[H,O,s,<-Jo];exact Ji _ d
    have C:=run_append_room (P:=P) w t ty e i I.h hi g l.length cap E hg ⟨b,o,none⟩ m.length A (Ac m) (by rw[H,s]) c (UY m) d F;rw[C]at h;cases h;rfl
   ·exact .inr (f ⟨g,0,none⟩ l.length cap (Ac l) (by rw[KZ,s]) (λj u M=>(G.cells (g:=g) rfl) j u M) (by omega) rfl h)
theorem PV{t ty e:TypeId}{z:Value}{sz c:Nat}[h:DQ P t e][o:AX P e z sz c]{v x:Value}{l m:List α}(b:AK.sz α=sz/\z.cells.size=sz)
  (p:AD B e w v l)(q:AQ w x m)(f:m≠[])(s:B<=w.heap.size)(hb:(l.length+m.length)*c<=140737488355328/\l.length+m.length<=9223372036854775807)
  (u:∀d w',AD B e w' d (l++m)->Fr (AV B v) w w'->(Value.blk d=Value.blk v\/(Value.blk d=some w.heap.size/\Bp w w'))->k d w'):AI P (Builtin.append_ #[t,t] ty #[v,x]) k pn w:=by
 obtain⟨d,w',r,y,A⟩:=Yf (ty:=ty) h o b.1 b.2 p q hb.1 (by unfold maxLen;omega) s;exact AI.of r (u _ _ y A (y9 h o b.1 p q f hb.1 (by unfold maxLen;omega) r))
end
abbrev eQ (w:World) (x:CG) (r:Ko):Prop:=x.id=r.id/\x.code=r.code/\x.a.found=r.found/\x.a.num=r.num/\Bh 142 w (.slice x.a.s.a x.a.s.n x.a.s.c) r.hits
def RX (w:World) (s:ByteArray) (q:CG) (odd:Bool):Prop:=(odd=false/\∃r,ZK s.data.toList=some r/\eQ w q r)\/(odd=true/\ZK s.data.toList=none)
theorem Bh.fro{α d:Type}[AK α][AK d]{e o:TypeId}{v p:Value}{l:List α}{l':List d}(h:Bh e w v l)(k:AD B o w p l')(f:Fr (AV B p) w w')(c:e≠o:=by decide):Bh e w' v l:=
 h.fr f (λb cs z hb q s=>by
  obtain⟨A,t,r⟩:=s;rcases k with⟨_,a,rfl⟩|k
  ·exact r a rfl
  ·have u:=k.2;rcases u with⟨rfl,_⟩|⟨g,cap,x,rfl,_,y,_⟩
   ·exact r none rfl
   ·have:g=b:=by simpa[Value.blk]using t
    subst this;rw[y]at q;cases q;exact c rfl)
abbrev Ej (l:List Tx):List ByteArray:=l.map λt=>(⟨t.toArray⟩:ByteArray)
theorem Ug(a b:List Tx):Ej (a++b)=Ej a++Ej b:=QB
theorem Wo{sep:Tx}:∀{l:List Tx},(∀t∈l,t.length<=m)->(Lib.join l sep).length<=l.length*(m+sep.length)
 |[],_=>by simp[Lib.join_nil]
 |[x],h=>by
  have:=h x (by simp);rw[Lib.join_one,VC];omega
 |x::y::r,h=>by
  have c:=h x (by simp);have d:=Wo (sep:=sep) (l:=y::r) λt b=>h t (QF _ b)
  have e:Lib.join (x::y::r) sep=x++sep++Lib.join (y::r) sep:=by
   rw[Lib.join_cons,Lib.join_cons];simp[Lib.joinTail]
  rw[e,Qb,Qb,QA,Jo];omega
theorem wJ{c:Nat}{l:List Tx}{sep:Tx}(S:AQ w (.slice a n c) (Ej l))(e:(Lib.join l sep).length<=140737488355328)(f:l.length<=140737488355328):Sp PP 59 #[.slice a n c,Ag sep] w λv w'=>v=Ag (EO l sep)/\AC w w':=by
 have d:n=l.length:=by rw[S.len];simp
 refine eN ?_;refine ite (λh=>?_) (λh=>?_)
 ·have:l=[]:=Qn (by omega);subst this;exact⟨rfl,stp⟩
 ·have b:l≠[]:=λo=>h (by simp_all);refine AA (vH S b e f) ?_;rintro _ w1 ⟨rfl,p⟩;have:EO l sep=Lib.join l sep:=if_neg b;rw[this];exact⟨rfl,stp⟩
theorem mW{c:Nat}{l:List Int}(G:HY w)(S:AQ w (.slice a n c) l)(h:∀x∈l,-9223372036854775808<=x/\x<=9223372036854775807)(F:l.length<=1000000):
  Sp PP 48 #[.slice a n c] w λv w'=>v=Ag (EA l)/\AC w w':=by
 have d:=S.len;obtain rfl:=d;refine eN ?_;refine cO 9 [5] 3 8 l.length (λk v u=>AD w.heap.size 9 u v (Ej ((l.take k).map Lib.itoa))/\AC w u) ?_ ?_
 ·exact⟨AD.nil _ _ _,stp⟩
 rintro k v H u I ⟨O,J⟩;refine ite (λAY=>?_) (λp=>?_)
 ·have b:k<l.length:=by omega
  refine Bv (S.up (w':=u)) (i:=k) (x:=l[k]) (by simp) λK L q=>AF (q.cell0 rfl) (AA (TD (G.up (w':=u)) (h _ (Qa b))) ?_);rintro _ o ⟨rfl,r⟩;refine bS (⟨(Lib.itoa l[k]).toArray⟩:ByteArray) λM s Q _ y=>Ax (u:=w) ⟨rfl,rfl⟩ ((O.up (w':=o)).up (w':=s)) y (by rw[Qr,Qr,Qm];omega) λT U z V W=>rA ⟨rfl,b,?_,stp⟩;have e:Ej ((l.take (k+1)).map Lib.itoa)=Ej ((l.take k).map Lib.itoa)++[(⟨(Lib.itoa l[k]).toArray⟩:ByteArray)]:=by rw[Cs b,QB,Ug];rfl
  rw[e];exact z
 ·have f:k=l.length:=by omega
  rw[f,Qg]at O;have d:=O.shape;obtain⟨X,Y,rfl⟩:=d
  have A:=Wo (sep:=[32]) (m:=21) (l:=l.map Lib.itoa) λt C=>by
   have d:=Qq.1 C;obtain⟨x,E,rfl⟩:=d;have:=h x E;exact Lib.itoa_length_le x this.1 this.2
  rw[Qr,VC]at A;refine AA (wJ O.sl (sep:=[32]) (by omega) (by rw[Qr];omega)) ?_;rintro _ o ⟨rfl,r⟩;exact⟨rfl,stp⟩
theorem TZ{t:TypeId}{x y:Operand}{k:Value->Prop}{a b:ByteArray}(h:a.size+b.size<=9223372036854775807)(c:k (.string (a++b))):Ar P (do eqGuard .add t x y (.string a) (.string b);binOp .add t (.string a) (.string b)) D k w:=by
 rw[Iv];exact⟨_,λw' _=>vC a b h w',c⟩
theorem Mj{n:Int}(h:-9223372036854775808<=n/\n<=9223372036854775807):(Lib.itoa n).length<=21:=Lib.itoa_length_le n h.1 h.2
theorem Wx(b:ByteArray):∀u∈[Value.string b],u.oneCell'=true:=by intro u c;simp at c;subst c;rfl
theorem tH{p:Int×Int×Gk}(h:BG (BN p.1 p.2.1 p.2.2) p.2.2.hits)(G:HY w):Sp PP 58 #[Ag (Ga p)] w λv w'=>v=Ag (Da p)/\AC w w':=by
 have hh:=h;obtain⟨⟨U,V⟩,⟨W,X⟩,⟨Y,Z⟩,h4,_,_,_,h8⟩:=h;have U:0<=p.1:=U;have V:p.1<=2147483647:=V;have W:0<=p.2.1:=W;have X:p.2.1<=1000:=X;have Y:0<=p.2.2.num:=Y;have Z:p.2.2.num<=400:=Z;refine eN ?_;refine AA (xY hh) ?_;rintro _ w1 ⟨⟨x,rfl,x1,x2,x3,x4,O⟩,e1⟩;refine AA zNP ?_;rintro _ w2 ⟨rfl,e2⟩;refine Ap λbx w3 n3 X3=>?_;have c2:=n3.lo (u:=w);refine rE X3 x λL C f4 _=>?_;have C:Bk L bx (enc x) 173:=C;have s4:AC w L:=⟨Fr.st (lE w w3) f4 λi hi=>by omega⟩;have t4:AC w2 L:=⟨Fr.st (lE w2 w3) f4 λi hi=>by have:=n3.lo (u:=w2);omega⟩;refine Cx (B:=C) (v:=.int .i64 p.1) (by rw[<-x1];rfl) (AA (TD (G.up (w':=L)) (n:=p.1) (by omega)) ?_);rintro _ w5 ⟨rfl,e5⟩;refine Cx (B:=C) (v:=.int .i64 p.2.1) (by rw[<-x2];rfl) ?_;have li:=Mj (n:=p.1) (by omega);refine ite (λhc=>?_) (λhc=>?_)
 ·have lc:=Mj (n:=p.2.1) (by omega);have M:Da p=Lib.itoa p.1++[32,101,114,114,111,114,32]++Lib.itoa p.2.1:=if_pos hc;refine Ic (b:=⟨[32,101,114,114,111,114,32].toArray⟩) (by simp only[AM,QA,QZ];omega) ?_;refine Cx (B:=C) (v:=.int .i64 p.2.1) (by rw[<-x2];rfl) (AA (TD (G.up (w':=w5)) (n:=p.2.1) (by omega)) ?_);rintro _ w6 ⟨rfl,e6⟩;rw[SE];refine Ic (by simp only[AM,Qb,QA,QZ];omega) ?_;rw[SE,M];exact⟨rfl,stp⟩
 ·have M:Da p=Lib.join ([Lib.itoa p.1,if p.2.2.found then[121,101,115] else[110,111],Lib.itoa p.2.2.num]++p.2.2.hits.map HQ) [32]:=if_neg hc;refine Cx (B:=C) (v:=.int .i64 p.2.2.num) (by rw[<-x4];rfl) (AA (TD (G.up (w':=w5)) (n:=p.2.2.num) (by omega)) ?_);rintro _ w6 ⟨rfl,e6⟩;have ln:=Mj (n:=p.2.2.num) (by omega);refine LE (Ej [Lib.itoa p.1,[110,111],Lib.itoa p.2.2.num]) rfl (vs:=[Ag (Lib.itoa p.1),Ag [110,111],Ag (Lib.itoa p.2.2.num)]) rfl rfl (by decide) λI A n7 S7=>?_;have O7:AD w.heap.size 9 A (.slice (some ⟨I,0,none⟩) 3 3) (Ej [Lib.itoa p.1,[110,111],Lib.itoa p.2.2.num]):=n7.own rfl rfl (by decide) (lz w w6);have s7:AC w6 A:=⟨n7.ext⟩;have c3:=n7.lo;have c4:=lz L w6;have lx:=C.lt
  have a5:∀{w':World},Fr (AV w.heap.size (.slice (some ⟨I,0,none⟩) 3 3)) A w'->Bk w' bx (enc x) 173:=λf=>(C.mv (w:=A)).fr f λh=>by
   have:=QL h.2.1;simp only at this;omega
  have hO:∀{w':World},Fr (AV w.heap.size (.slice (some ⟨I,0,none⟩) 3 3)) A w'->Bh 142 w' (.slice x.a.s.a x.a.s.n x.a.s.c) p.2.2.hits:=λ{w'} f=>by
   have O':=((O.up (w':=w2)).up (w':=L)).up (w':=A);exact(O'.fro O7 f).y
  refine Cx (B:=C) (v:=.bool p.2.2.found) (by rw[<-x3];rfl) ?_;have z7:=lz w A;have a6:∀{w':World},Fr (AV w.heap.size (.slice (some ⟨I,0,none⟩) 3 3)) A w'->AC w w':=λf=>⟨Fr.st (lE w A) f λi hi=>hi.1⟩;have c5:Value.blk (.slice (some ⟨I,0,none⟩) 3 3)=some I:=rfl;have c6:∀o:Tx,(Ej [Lib.itoa p.1,o,Lib.itoa p.2.2.num]).length=3:=λ_=>rfl;generalize p.2.2.found=fd at M ⊢
  have a7:∀o:Tx,o.length<=21->(Lib.join ([Lib.itoa p.1,o,Lib.itoa p.2.2.num]++p.2.2.hits.map HQ) [32]).length<=100000:=λo r=>by
   have:=Wo (sep:=[32]) (m:=43) (l:=[Lib.itoa p.1,o,Lib.itoa p.2.2.num]++p.2.2.hits.map HQ) λt Q=>by
    have q:=Qf.1 Q;rcases q with Q|Q
    ·simp only[Ql,Xf,or_false]at Q;rcases Q with rfl|rfl|rfl<;>omega
    ·have q:=Qq.1 Q;obtain⟨y,hy,rfl⟩:=q;have q:=h8 y hy;obtain⟨y1,y2,y3,y4⟩:=q;have i1:=Mj (n:=y.v) (by omega);have i2:=Mj (n:=y.d) (by omega);unfold HQ;simp only[Qb,QA,QZ];omega
   simp only[Qb,QA,QZ,Qr]at this;omega
  have c0:x.a.s.n=p.2.2.hits.length:=O.sl.len;cases fd
  case' true =>
   refine Fs rfl O7 (i:=1) (x:=(⟨[110,111].toArray⟩:ByteArray)) rfl λg5 a8 _ A5=>CZ rfl (⟨[121,101,115].toArray⟩:ByteArray) O7 a8 (by simp) rfl λE S f8 z8=>?_;have S:AD w.heap.size 9 E (.slice (some ⟨I,0,none⟩) 3 3) (Ej [Lib.itoa p.1,[121,101,115],Lib.itoa p.2.2.num]):=S;have q:∃o:Tx,o=[121,101,115]:=⟨_,rfl⟩;obtain⟨o,r⟩:=q;rw[<-r]at S;have M:Da p=Lib.join ([Lib.itoa p.1,o,Lib.itoa p.2.2.num]++p.2.2.hits.map HQ) [32]:=by simp_all
  case' false =>
   have q:∃E,E=A:=⟨_,rfl⟩;obtain⟨E,rfl⟩:=q;have S:=O7;have f8:Fr (AV w.heap.size (.slice (some ⟨I,0,none⟩) 3 3)) E E:=Fr.refl _ _;have z8:E.heap.size=E.heap.size:=rfl;have q:∃o:Tx,o=[110,111]:=⟨_,rfl⟩;obtain⟨o,r⟩:=q;rw[<-r]at S;have M:Da p=Lib.join ([Lib.itoa p.1,o,Lib.itoa p.2.2.num]++p.2.2.hits.map HQ) [32]:=by simp_all
  all_goals
   have a0:o.length<=21:=by rw[r];decide
   have s8:AC w E:=a6 f8;have X8:=a5 f8;have H8:=hO f8;refine rX X8 rfl (cO 41 [7] 5 40 p.2.2.hits.length (λk v u=>AD w.heap.size 9 u v (Ej ([Lib.itoa p.1,o,Lib.itoa p.2.2.num]++(p.2.2.hits.take k).map HQ))/\Bh 142 u (.slice x.a.s.a x.a.s.n x.a.s.c) p.2.2.hits/\AC w u) ?_ ?_)
   ·exact⟨by rw[Xa,JP,QE];exact S,H8,s8⟩
   rintro k v G2 u hk ⟨T,Hu,su⟩;have zu:=su.e.size;refine ite (λAY=>?_) (λc7=>?_)
   ·have a1:k<p.2.2.hits.length:=by omega
    have q:∃y,y=p.2.2.hits[k]:=⟨_,rfl⟩;obtain⟨y,hy⟩:=q;have a9:y∈p.2.2.hits:=by simp_all
    have q:=h8 y a9;obtain⟨y1,y2,y3,y4⟩:=q;have i1:=Mj (n:=y.v) (by omega);have i2:=Mj (n:=y.d) (by omega);refine Bv Hu.1 (i:=k) (x:=y) (by rw[hy];simp) λb9 o9 A9=>Ai A9 rfl (Ap λbh w9 n9 Y9=>?_);have c8:=n9.lo (u:=u);refine rE Y9 y λa4 F b0 _=>?_;have F:Bk a4 bh (enc y) 142:=F;have b1:AC u a4:=⟨Fr.st (lE u w9) b0 λi hi=>by omega⟩;have c9:=b1.e.size;refine dD (AV w.heap.size v) [0,1,2,5,6,3,4,7,8,9,10,11] λH d0=>?_;have hD:¬AV w.heap.size v bh:=λh=>by have:=T.wr h;omega
    refine Nf (B:=F) (v:=.int .i64 y.v) rfl hD (Nf (B:=F) (v:=.int .i64 y.d) rfl hD ?_);refine AA (TD (G.up (w':=H)) (n:=y.v) (by omega)) ?_;rintro _ b2 ⟨rfl,b3⟩;refine⟨Fr.fr b3.e,?_⟩;refine TZ (b:=⟨[58].toArray⟩) (by simp only[AM,QA,QZ];omega) ?_;rw[SE];refine AA (TD (G.up (w':=b2)) (n:=y.d) (by omega)) ?_;rintro _ J ⟨rfl,b4⟩;refine⟨Fr.fr b4.e,?_⟩;refine TZ (by simp only[AM,Qb,QA,QZ];omega) ?_;rw[SE];refine bS (⟨(HQ y).toArray⟩:ByteArray) λd1 z b5 _ b6=>⟨Fr.fr b5.e,?_⟩;have d2:=lz u z;refine PV ⟨rfl,rfl⟩ (((T.up (w':=H)).up (w':=J)).up (w':=z)) b6 (by simp) (by omega) (by rw[Qr,Qb,Qr,Qm];simp only[QA,QZ];omega) λd3 d4 b7 K c1=>⟨K,?_⟩;refine rA ⟨rfl,a1,?_,Bh.fro (Bh.up (w':=z) (Bh.up (w':=J) (Bh.up (w':=H) Hu))) (((T.up (w':=H)).up (w':=J)).up (w':=z)) K (by decide),⟨Fr.st (lE w z) K λi hi=>hi.1⟩⟩
    have e:Ej ([Lib.itoa p.1,o,Lib.itoa p.2.2.num]++(p.2.2.hits.take (k+1)).map HQ)=Ej ([Lib.itoa p.1,o,Lib.itoa p.2.2.num]++(p.2.2.hits.take k).map HQ)++[(⟨(HQ y).toArray⟩:ByteArray)]:=by
     rw[Cs a1,QB,<-Qp,Ug,<-hy];rfl
    rw[e];exact b7
   ·have b8:k=p.2.2.hits.length:=by omega
    rw[b8,Qg]at T;have q:=T.shape;obtain⟨aa,ac,rfl⟩:=q;have hj:=a7 o a0;refine AA (vH (sep:=[32]) T.sl (by simp) (by omega) (by simp only[Qb,QA,QZ,Qr];omega)) ?_;rintro _ u1 ⟨rfl,e1⟩;rw[M];exact⟨rfl,stp⟩
def LV (s:Tx) (y:UInt8):Tx×Bool:=if s.getLast? = some y then(s.dropLast,true) else(s,false)
theorem lO{s:Tx}{y:UInt8}:[y] <:+ s↔s.getLast? = some y:=by
 constructor
 ·rintro⟨t,rfl⟩;simp
 ·intro h;have b:=List.getLast?_eq_some_iff.1 h;obtain⟨t,rfl⟩:=b;exact⟨t,rfl⟩
theorem tK(s:Tx)(y:UInt8):(LV s y).1.length<=s.length:=by
 unfold LV;split
 ·rw[List.length_dropLast];exact Nat.sub_le _ _
 ·exact Qe _
theorem sL{s t:Tx}{y:UInt8}{b:Bool}(f:s.length<=1000000)(d:LV s y=(t,b)):Sp PP 67 #[Ag s,Ag [y]] w λv w'=>v=.tuple #[Ag t,.bool b]/\w'=w:=
 (zER f).mono λv w' ⟨h,e⟩=>⟨by
  rcases h with⟨h,rfl⟩|⟨h,rfl⟩
  ·have:LV s y=(s.dropLast,true):=if_pos (lO.1 h);rw[this]at d;injection d with h1 c;subst h1 c;rw[XO];rfl
  ·have:LV s y=(s,false):=if_neg λc=>h (lO.2 c);rw[this]at d;injection d with h1 c;subst h1 c;rfl,e⟩
theorem YC(least:Tx)(b:Bool)(i:Nat)(s:Tx)(r:List Tx):BJ least b i (s::r) =
  if(i<least.length/\least[i]? = some 116)\/(least.length<=i/\b=true) then(BJ least b (i+1) r).map λp=>(p.1,s::p.2)
  else match (if least.length<=i then Do s else Bx s) with
   |none=>none
   |some x=>(BJ least b (i+1) r).map λp=>(x::p.1,p.2):=rfl
def Iy (ns:List Int) (ts:List Tx) (o:Option (List Int×List Tx)):Option (List Int×List Tx):=o.map λp=>(ns++p.1,ts++p.2)
theorem zPf(ns:List Int)(ts:List Tx)(s:Tx)(o:Option (List Int×List Tx)):Iy ns ts (o.map λp=>(p.1,s::p.2))=Iy ns (ts++[s]) o:=by cases o<;>simp[Iy]
theorem zPe(ns:List Int)(ts:List Tx)(x:Int)(o:Option (List Int×List Tx)):Iy ns ts (o.map λp=>(x::p.1,p.2))=Iy (ns++[x]) ts o:=by cases o<;>simp[Iy]
theorem zPd(o:Option (List Int×List Tx)):Iy [] [] o=o:=by cases o<;>simp[Iy]
def Sz (B:Nat) (o:Option (List Int×List Tx)) (v:Value) (w':World):Prop:=match o with
 |none=>v=.tuple #[.slice none 0 0,.slice none 0 0,.bool false]
 |some p=>∃va vb,v=.tuple #[va,vb,.bool true]/\AD B 3 w' va p.1/\AD B 9 w' vb (Ej p.2)
theorem zJI{form f1 least:Tx}{texts picks:Bool}{c:Nat}{l:List Tx}(G:HY w)(hf:form.length<=100)(h1:LV form 43=(f1,texts))(h2:LV f1 42=(least,picks))(S:AQ w (.slice a n c) (Ej l))(hl:∀s∈l,s.length<=1000000)(hn:l.length<=1000000):
  Sp PP 38 #[Ag form,.slice a n c] w λv w'=>Sz w.heap.size (Bf least texts picks l) v w'/\AC w w':=by
 have hlen:n=l.length:=by rw[S.len];simp
 have hl1:f1.length<=100:=by
  have:=tK form 43
  rw[h1]at this
  dsimp only at this;omega
 have hll:least.length<=100:=by
  have:=tK f1 42
  rw[h2]at this
  dsimp only at this;omega
 have hsz:=AM least
 refine en Aa rfl ?_
 refine AA (sL (by omega) h1) ?_
 rintro _ _ ⟨rfl,rfl⟩
 refine AA (sL (by omega) h2) ?_
 rintro _ w' ⟨rfl,rfl⟩
 have no:l.length<least.length\/(least.length<l.length/\texts=false/\picks=false)->Sz w'.heap.size (Bf least texts picks l) (.tuple #[.slice none 0 0,.slice none 0 0,.bool false]) w':=λh=>by
  have:Bf least texts picks l=none:=if_pos h
  rw[this];rfl
 have q_:∃tx,tx=texts:=⟨_,rfl⟩
 obtain⟨tx,htx⟩:=q_
 have loop:¬(l.length<least.length\/(least.length<l.length/\texts=false/\picks=false))->Bf least texts picks l=BJ least tx 0 l:=λh=>by rw[htx];exact if_neg h
 cases texts
 all_goals
  refine ite (λAY=>⟨no (.inl (by omega)),stp⟩) (λhge=>?_)
  refine ite (λKw=>?_) (λhle=>?_)
 case' false.refine_1 =>
  cases picks
  case' false=>exact⟨no (.inr ⟨by omega,rfl,rfl⟩),stp⟩
 all_goals
  have hL:=loop (by
   rintro(h|⟨h,h3,h4⟩)
   ·omega
   ·first|omega|exact absurd h3 (by decide)|exact absurd h4 (by decide))
  refine fX Aa 48 [6,10,11,12,13,14] 4 5 47 l.length (λk v1 v2 u=>∃ns ts,AD w'.heap.size 3 u v1 ns/\AD w'.heap.size 9 u v2 (Ej ts)/\ns.length+ts.length<=k/\BJ least tx 0 l=Iy ns ts (BJ least tx k (l.drop k))/\AC w' u) rfl rfl ?_ ?_
  ·exact⟨[],[],AD.nil _ _ _,AD.nil _ _ _,Nat.zero_le _,(zPd _).symm,stp⟩
  rintro k v1 v2 G2 u hk ⟨ns,ts,On,Ot,hnt,hw,su⟩
  refine ite (λhkl=>?_) (λhkg=>?_)
  case' refine_2 =>
   have hke:k=l.length:=by omega
   have hfin:BJ least tx 0 l=some (ns,ts):=by
    rw[hw,hke,List.drop_length]
    show some (ns++[],ts++[])=_
    rw[List.append_nil,List.append_nil]
   have hW:∀o,o=BJ least tx 0 l->Sz w'.heap.size o (.tuple #[v1,v2,.bool true]) u:=λo ho=>by
    rw[ho,hfin];exact⟨_,_,rfl,On,Ot⟩
   exact⟨hW _ hL,su⟩
  have hk1:k<l.length:=by omega
  have q_:∃s,s=l[k]:=⟨_,rfl⟩
  obtain⟨s,hs⟩:=q_
  have hsl:=hl s (by rw[hs];exact List.getElem_mem _)
  have hd:l.drop k=s::l.drop (k+1):=by rw[hs];exact List.drop_eq_getElem_cons hk1
  rw[hd,YC]at hw
  have hT:((k<least.length/\least[k]? = some 116)\/(least.length<=k/\tx=true))->BJ least tx 0 l=Iy ns (ts++[s]) (BJ least tx (k+1) (l.drop (k+1))):=λh=>by rw[hw,if_pos h,zPf]
  have hN:¬((k<least.length/\least[k]? = some 116)\/(least.length<=k/\tx=true))->∀x,(if least.length<=k then Do s else Bx s)=some x->BJ least tx 0 l=Iy (ns++[x]) ts (BJ least tx (k+1) (l.drop (k+1))):=λh x hx=>by rw[hw,if_neg h,hx];exact zPe ..
  have hZ:¬((k<least.length/\least[k]? = some 116)\/(least.length<=k/\tx=true))->(if least.length<=k then Do s else Bx s)=none->∀o,o=BJ least tx 0 l->∀u5,Sz w'.heap.size o (.tuple #[.slice none 0 0,.slice none 0 0,.bool false]) u5:=λh hx o ho u5=>by
   rw[ho,hw,if_neg h,hx];rfl
  clear hw
  refine Bv (S.up (w':=u)) (i:=k) (x:=(⟨s.toArray⟩:ByteArray)) (by rw[List.getElem?_map,List.getElem?_eq_getElem hk1,hs];rfl) λb4 o4 A4=>AF (A4.cell0 rfl) ?_
  refine ite (λhi=>?_) (λhi=>?_)
  ·have hi1:k<least.length:=by omega
   refine FT (i:=k) (c:=least[k]) (by simp) ?_
   refine ite (λhc=>?_) (λhc=>?_)
   ·have hc1:least[k]? = some 116:=by
     rw[List.getElem?_eq_getElem hi1]
     congr 1
     exact UInt8.toNat_inj.1 (by have h:((least[k].toNat:Nat):Int)=116:=hc;have h2:(116:UInt8).toNat=116:=rfl;omega)
    refine HS (⟨s.toArray⟩:ByteArray) rfl rfl (by decide) λb5 u5 e5 _ S5=>?_
    refine Ax (u:=w') ⟨rfl,rfl⟩ (Ot.up (w':=u5)) S5 (by rw[List.length_map];omega) λv6 u6 O6 f6 s6=>?_
    have O6':AD w'.heap.size 9 u6 v6 (Ej (ts++[s])):=by rw[Ug];exact O6
    have hl6:ns.length+(ts++[s]).length<=k+1:=by rw[List.length_append,List.length_singleton];omega
    have On6:=(On.up (w':=u5)).fro (Ot.up (w':=u5)) f6 (by decide)
    have s6:AC w' u6:=stp
    exact rA ⟨rfl,hk1,ns,ts++[s],On6,O6',hl6,hT (.inl ⟨hi1,hc1⟩),s6⟩
   ·have hno:¬((k<least.length/\least[k]? = some 116)\/(least.length<=k/\tx=true)):=by
     rintro(⟨_,h⟩|⟨h,_⟩)
     ·rw[List.getElem?_eq_getElem hi1]at h
      have:=Option.some.inj h
      exact hc (by rw[this];rfl)
     ·omega
    refine iF (by omega) ?_
    refine iF (by omega) ?_
    refine AA (fP (G.up (w':=u)) hsl) ?_
    rintro _ u5 ⟨⟨x,b,rfl,hb1,hb2⟩,e5⟩
    cases b with
    |false=>exact⟨hZ hno (by rw[if_neg (by omega)];exact hb2 rfl) _ hL _,stp⟩
    |true =>
     refine HS (x:Int) rfl rfl (by decide) λb6 u6 e6 _ S6=>?_
     refine Ax (u:=w') ⟨rfl,rfl⟩ ((On.up (w':=u5)).up (w':=u6)) S6 (by omega) λv7 u7 O7 f7 s7=>?_
     have hl7:(ns++[x]).length+ts.length<=k+1:=by rw[List.length_append,List.length_singleton];omega
     have Ot7:=((Ot.up (w':=u5)).up (w':=u6)).fro ((On.up (w':=u5)).up (w':=u6)) f7 (by decide)
     have s7:AC w' u7:=stp
     exact rA ⟨rfl,hk1,ns++[x],ts,O7,Ot7,hl7,hN hno x (by rw[if_neg (by omega)];exact hb1 rfl),s7⟩
  ·refine iT (by omega) ?_
   have hge1:least.length<=k:=by omega
   first
   |
    have htx1:tx=true:=htx
    refine HS (⟨s.toArray⟩:ByteArray) rfl rfl (by decide) λb5 u5 e5 _ S5=>?_
    refine Ax (u:=w') ⟨rfl,rfl⟩ (Ot.up (w':=u5)) S5 (by rw[List.length_map];omega) λv6 u6 O6 f6 s6=>?_
    have O6':AD w'.heap.size 9 u6 v6 (Ej (ts++[s])):=by rw[Ug];exact O6
    have hl6:ns.length+(ts++[s]).length<=k+1:=by rw[List.length_append,List.length_singleton];omega
    have On6:=(On.up (w':=u5)).fro (Ot.up (w':=u5)) f6 (by decide)
    have s6:AC w' u6:=stp
    exact rA ⟨rfl,hk1,ns,ts++[s],On6,O6',hl6,hT (.inr ⟨hge1,htx1⟩),s6⟩
   |
    have htx1:tx=false:=htx
    have hno:¬((k<least.length/\least[k]? = some 116)\/(least.length<=k/\tx=true)):=by
     rintro(⟨h,_⟩|⟨_,h⟩)
     ·omega
     ·rw[htx1]at h;exact absurd h (by decide)
    refine iT (by omega) ?_
    refine AA (zKl (G.up (w':=u)) hsl) ?_
    rintro _ u5 ⟨⟨x,b,rfl,hb1,hb2⟩,e5⟩
    cases b with
    |false=>exact⟨hZ hno (by rw[if_pos hge1];exact hb2 rfl) _ hL _,stp⟩
    |true =>
     refine HS (x:Int) rfl rfl (by decide) λb6 u6 e6 _ S6=>?_
     refine Ax (u:=w') ⟨rfl,rfl⟩ ((On.up (w':=u5)).up (w':=u6)) S6 (by omega) λv7 u7 O7 f7 s7=>?_
     have hl7:(ns++[x]).length+ts.length<=k+1:=by rw[List.length_append,List.length_singleton];omega
     have Ot7:=((Ot.up (w':=u5)).up (w':=u6)).fro ((On.up (w':=u5)).up (w':=u6)) f7 (by decide)
     have s7:AC w' u7:=stp
     exact rA ⟨rfl,hk1,ns++[x],ts,O7,Ot7,hl7,hN hno x (by rw[if_pos hge1];exact hb1 rfl),s7⟩
theorem xD{x:CP}{r:List BP}{l v:Nat}{w0:World}[Le w0 w](o:Bb g)(e:Bk w0 l (enc x) 82)(R:IF w0 x g r)(H:v<g.n):
  Sp PP 137 #[.int .i64 (v:Int),.pointer (some ⟨l,0,none⟩)] w λu w'=>(∃a c,u=.slice a (Aj g 0 v).length c/\AQ w' (.slice a (Aj g 0 v).length c) (AH (Aj g 0 v))/\∀b,Aj g 0 v≠[]->Value.blk (.slice a (Aj g 0 v).length c)=some b->b<w0.heap.size)/\AC w w':=by
 have I:=R.off.len;have J:=R.to.len;have K:=Mk g.n g.es;have L:=PL g.es;have M:=o.rowI.n2;refine eN ?_;refine dQ 15 λf O=>?_;have p:=SQ g.es v;have y:=Eh g.es (v+1);refine tX e rfl nf (tX e rfl nf ?_);refine CL (R.off.up (w':=f)) (KY (v:=v) (by omega)) λQ S z _=>AP (z.cell0 rfl) nf (tX e rfl nf (rF (v+1) (CL (R.off.up (w':=f)) (KY (v:=v+1) (by omega)) λT U A _=>AP (A.cell0 rfl) nf ?_)));have q:=R.to.up (w':=f);refine Nl (Be g.es v) (Be g.es (v+1)) q p (by omega) ?_;have d:=q.part (Be g.es v) (Be g.es (v+1)) p (by omega);rw[U0 o.rowI.ris v]at d;have C:Dc (Fk g.es v)=AH (Aj g 0 v):=by rw[jK];unfold Dc AH Ht;rw[VM];rfl
 rw[C]at d
 have s:Be g.es (v+1) - Be g.es v=(Aj g 0 v).length:=by
  have:=d.len;rw[this];simp[AH]
 rw[s]at d;refine⟨⟨_,_,congrArg (λn=>Value.slice _ n _) s,d,λb h hb=>?_⟩,stp⟩;have t:=(ZP x.to.a x.to.n _ x.to.c _ _ _).symm.trans hb;have V:0<(Aj g 0 v).length:=JI.2 h
 have E:Dc g.es≠[]:=by
  intro h0;have W:(Dc g.es).length=0:=by rw[h0];rfl
  omega
 have F:=R.to.lt E;obtain⟨X,G,h5⟩:=F;rw[G]at t;have:=QL t;omega
theorem yI{x:CP}{r:List BP}{l v:Nat}{w0:World}[Le w0 w](o:Bb g)(e:Bk w0 l (enc x) 82)(R:IF w0 x g r)(I:v<g.n):
  Sp PP 138 #[.int .i64 (v:Int),.pointer (some ⟨l,0,none⟩)] w λy w'=>(∃a c,y=.slice a (Aj g 1 v).length c/\AQ w' (.slice a (Aj g 1 v).length c) (AH (Aj g 1 v))/\∀b,Aj g 1 v≠[]->Value.blk (.slice a (Aj g 1 v).length c)=some b->b<w0.heap.size)/\AC w w':=by
 have J:=R.rof.len;have K:=R.rev.len;have L:=Mk g.n r;have M:=PL r;have p:=o.rowR R.rev';have O:=p.n2;refine eN ?_;refine dQ 15 λf Q=>?_;have q:=SQ r v;have z:=Eh r (v+1);refine tX e rfl nf (tX e rfl nf ?_);refine CL (R.rof.up (w':=f)) (KY (v:=v) (by omega)) λS T A _=>AP (A.cell0 rfl) nf (tX e rfl nf (rF (v+1) (CL (R.rof.up (w':=f)) (KY (v:=v+1) (by omega)) λU V C _=>AP (C.cell0 rfl) nf ?_)));have s:=R.rev.up (w':=f);refine Nl (Be r v) (Be r (v+1)) s q (by omega) ?_;have d:=s.part (Be r v) (Be r (v+1)) q (by omega);rw[U0 p.ris v]at d;have E:Dc (Fk r v)=AH (Aj g 1 v):=by rw[eU o.er R.rev'];unfold Dc AH Ht;rw[VM];rfl
 rw[E]at d
 have t:Be r (v+1) - Be r v=(Aj g 1 v).length:=by
  have:=d.len;rw[this];simp[AH]
 rw[t]at d;refine⟨⟨_,_,congrArg (λn=>Value.slice _ n _) t,d,λb h hb=>?_⟩,stp⟩;have u:=(ZP x.rev.a x.rev.n _ x.rev.c _ _ _).symm.trans hb;have W:0<(Aj g 1 v).length:=JI.2 h
 have F:Dc r≠[]:=by
  intro h0;have X:(Dc r).length=0:=by rw[h0];rfl
  omega
 have G:=R.rev.lt F;obtain⟨Y,H,h5⟩:=G;rw[H]at u;have:=QL u;omega
def TH (B:Nat) (w:World) (bs:Nat) (fn:FuncId) (br:Nat) (la:OA) (lc:Nat) (lev:List Int) (fa:OA) (fc:Nat) (fr:List Nat):Prop:=
 Bk w bs [.func (.func fn) #[] #[.pointer (some ⟨br,0,none⟩)],.slice la lev.length lc,.slice fa fr.length fc] 132/\AD B 3 w (.slice la lev.length lc) lev/\AQ w (.slice fa fr.length fc) (AH fr) /\
  (∀b,Value.blk (.slice fa fr.length fc)=some b->Value.blk (.slice la lev.length lc)≠some b/\B<=b)/\Value.blk (.slice la lev.length lc)≠some bs/\B<=bs
def Fe (B:Nat) (w:World) (bs:Nat) (fn:FuncId) (br:Nat) (la:OA) (lc:Nat) (lev:List Int) (fr:List Nat):Prop:=
 ∃fa fc,TH B w bs fn br la lc lev fa fc fr
theorem Fe.up[L:Le w w']{bs:Nat}{fn:FuncId}{c:Nat}{la:OA}{d:Nat}{b:List Int}{fr:List Nat}(h:Fe B w bs fn c la d b fr):Fe B w' bs fn c la d b fr:=by
 obtain⟨e,f,l,o,p,q⟩:=h;exact⟨e,f,l.mv (w:=w'),o.up,p.up,q⟩
theorem rK{p:Nat}{fn:FuncId}{r:Nat}(hn:n<=200)(hp:p<n):
  Sp PP 139 #[.int .i64 (n:Int),.int .i64 (p:Int),.func (.func fn) #[] #[.pointer (some ⟨r,0,none⟩)]] w λv w'=>(∃bs la lc,v=.pointer (some ⟨bs,0,none⟩)/\Fe w.heap.size w' bs fn r la lc ((List.replicate n (-1:Int)).set p 0) [p])/\AC w w':=by
 refine eN ?_;refine Id (0:Int) rfl rfl (by omega) λc w1 W s1 a0=>?_
 have a1:c<w1.heap.size:=by
  have C:=W.lt (by intro h;have:=congrArg List.length h;rw[List.length_replicate]at this;simp at this;omega);obtain⟨b',s,_,t⟩:=C;cases s;exact t
 refine LE (vs:=[.int .i64 (p:Int)]) [(p:Int)] rfl rfl rfl (by decide) λl X n2 S2=>?_;have s2:AC w1 X:=⟨n2.ext⟩;have a4:=n2.lo;have z2:=s2.e.size;refine AJ (cs:=[.func (.func fn) #[] #[.pointer (some ⟨r,0,none⟩)],.slice (some ⟨c,0,none⟩) n n,.slice (some ⟨l,0,none⟩) 1 1]) rfl (BM λbs E n3 z=>?_);have z:Bk E bs [.func (.func fn) #[] #[.pointer (some ⟨r,0,none⟩)],.slice (some ⟨c,0,none⟩) n n,.slice (some ⟨l,0,none⟩) 1 1] 132:=z;have a5:=n3.lo (u:=X);have F:=n3.lo (u:=w);refine rX z rfl ?_
 refine cN 21 [8] 21 n (λk u=>∃L:List Int,L.length=n/\(∀v,v<k->L[v]? = some (-1))/\AD w.heap.size 3 u (.slice (some ⟨c,0,none⟩) n n) L/\Bk u bs [.func (.func fn) #[] #[.pointer (some ⟨r,0,none⟩)],.slice (some ⟨c,0,none⟩) n n,.slice (some ⟨l,0,none⟩) 1 1] 132/\AQ u (.slice (some ⟨l,0,none⟩) 1 1) [(p:Int)]/\AC w u)
  ⟨List.replicate n 0,by simp,λv Y=>absurd Y (by omega),W.up (w':=E),z,S2.up (w':=E),stp⟩ ?_
 rintro k G u hk ⟨L,hL,Z,O,K,S,su⟩;refine ite (λAY=>?_) (λa6=>?_)
 ·have H:k<n:=by omega
  refine rX K rfl (Fs rfl O (x:=L[k]'(by omega)) (by simp) λI d hB A=>?_);have o:c=I:=QL d;subst o;refine Kk rfl (-1:Int) O d (by omega) rfl λJ M q s4 z4=>?_;have f:∀b,AV w.heap.size (.slice (some ⟨c,0,none⟩) n n) b->b=c:=λb h=>(QL h.2.1).symm;have Q:=K.fr q λh=>by have:=f _ h;omega
  have T:=S.fr q λb hb h=>by
   have s:=f _ h;have t:l=b:=QL hb;omega
  have U:AC w J:=⟨Fr.st su.e q λi hi=>hi.1⟩
  exact rA ⟨rfl,H,L.set k (-1),by simp[hL],λv Y=>by
   rw[Vw];by_cases e:k=v
   ·subst e;simp;omega
   ·rw[if_neg e];exact Z v (by omega),M,Q,T,U⟩
 ·have a7:k=n:=by omega
  have V:L=List.replicate n (-1:Int):=by
   apply Vl;intro v;have C:=QH v n;rcases C with h|h
   ·rw[Z v (by omega),Vk,if_pos h]
   ·rw[Jg (by omega),Jg (by simp;omega)]
  refine rX K rfl (Fs rfl O (x:=L[p]'(by omega)) (by simp) λI d hB A=>?_);have o:c=I:=QL d;subst o;refine Kk rfl (0:Int) O d (by omega) rfl λJ M q s4 z4=>?_;have f:∀b,AV w.heap.size (.slice (some ⟨c,0,none⟩) n n) b->b=c:=λb h=>(QL h.2.1).symm;have Q:=K.fr q λh=>by have:=f _ h;omega
  have T:=S.fr q λb hb h=>by
   have s:=f _ h;have t:l=b:=QL hb;omega
  have U:AC w J:=⟨Fr.st su.e q λi hi=>hi.1⟩;have y:((List.replicate n (-1:Int)).set p 0).length=n:=by simp
  refine⟨⟨bs,some ⟨c,0,none⟩,n,rfl,some ⟨l,0,none⟩,1,?_,?_,T,λb hb=>⟨λh=>?_,?_⟩,λh=>?_,F⟩,U⟩
  ·rw[y];exact Q
  ·rw[y,<-V];exact M
  ·have s:l=b:=QL hb;have t:c=b:=QL h;omega
  ·have s:l=b:=QL hb;have:=lz w w1;omega
  ·have t:c=bs:=QL h;omega
theorem Py{kt:TypeId}{κ:Type}[DecidableEq κ][M:Em P kt κ]{k:KW}{f:PW}{t e:TypeId}{z:Value}{sz c:Nat}[o:EL P t kt e][p:AX P e z sz c]{b:Nat}{m:List (κ×Value)}{d:Value}(h:BO P kt w b m)(x:κ)(l:d=M.val x){y:Value}(q:(Au m x).getD z=y)(r:k y w):AI P (Instr.lookup t (.map (some b)) d false) k f w:=
 Hk h x l (by simp_all)
theorem YS(a b:List Nat):AH (a++b)=AH a++AH b:=QB
theorem PQ(a:List Nat):(AH a).length=a.length:=Qr ..
theorem WN{l:List Nat}(h:k<l.length):(AH l)[k]? = some ((l[k]:Nat):Int):=by simp[AH,h]
theorem AQ.frM{kt:TypeId}{κ:Type}[DecidableEq κ][M:Em P kt κ]{α:Type}[AK α]{v:Value}{l:List α}{s:Nat}{m:List (κ×Value)}(h:AQ w v l)(u:BO P kt w s m)(f:Fr (λi=>i=s) w w'):AQ w' v l:=by
 by_cases h0:l=[]
 ·subst h0;have y:=h.shape;obtain⟨a,c,rfl⟩:=y;exact AQ.nil' w' a c
 ·refine h.fr f λb hb e=>?_;subst e;obtain⟨a,c,rfl,_,d⟩:=h;rcases d with d|⟨z,o,rfl,p⟩
  ·exact h0 d
  ·have q:z=b:=QL hb;subst q;obtain⟨⟨es,E,A,_⟩,_⟩:=u
   cases l with
   |nil=>exact h0 rfl
   |cons x r =>
    have:=AK.len x;have F:=AK.pos (α:=α)
    have C:(Ac (x::r))[0]? = some ((enc x)[0]'(by omega)):=by
     rw[DS,VL (by omega)];simp
    have t:=p 0 _ C;unfold World.cell? at t;simp[A]at t
theorem Ny.len{b:List Int}{P l:List Nat}{m:List (Int×Value)}(A:Ny b P l m):l.length<=b.length:=SU A.nd λx c=>by
 have d:=((A.mem x).1 c).2;obtain⟨y,e,_⟩:=d;exact(Qy.1 e).1
theorem zJK{bs:Nat}{fn:FuncId}{br:Nat}{la:OA}{lc:Nat}{d:List Int}{fr:List Nat}{nb:Nat->List Nat}(Q:Fe B w bs fn br la lc d fr)(a8:d.length<=200)(a9:fr.length<=1000)(I:∀v∈fr,(nb v).length<=1000000/\∀x∈nb v,x<d.length)
  (hN:∀v∈fr,∀u,AC w u->Sp PP fn #[.int .i64 (v:Int),.pointer (some ⟨br,0,none⟩)] u λrv w'=>(∃a c,rv=.slice a (nb v).length c/\AQ w' (.slice a (nb v).length c) (AH (nb v))/\∀b,nb v≠[]->Value.blk (.slice a (nb v).length c)=some b->b<w.heap.size)/\AC u w'):
  Sp PP 80 #[.pointer (some ⟨bs,0,none⟩)] w λv w'=>(∃l m,Ny d (fr.flatMap nb) l m/\AD w.heap.size 3 w' v (AH l))/\AC w w':=by
 obtain⟨fa,fc,K,OL,SF,b0,b1,hB⟩:=Q;refine eN ?_;refine K0 (kt:=3) (κ:=Int) rfl λbm w1 n1 M1=>?_;have J:=n1.lo (u:=w);refine rX K rfl (cO 15 [5,6,7,8] 3 15 fr.length (λk v u=>∃l m,Ny d ((fr.take k).flatMap nb) l m/\AD w.heap.size 3 u v (AH l)/\Cy PP 3 u bm m/\AC w u) ⟨[],[],Ny.nil,AD.nil _ _ _,M1,stp⟩ ?_);rintro k v G u hk ⟨l,m,A,O,M,su⟩;refine ite (λAY=>?_) (λb3=>?_)
 ·have o:k<fr.length:=by omega
  have F:fr[k]∈fr:=Qa o;refine Bv (SF.up (w':=u)) (WN o) λb2 o2 A2=>AF (A2.cell0 rfl) (rX K rfl (AA (hN fr[k] F u su) ?_));rintro _ w3 ⟨⟨na,nc,rfl,SN,L⟩,e3⟩;have a4:=I fr[k] F;have hP:(fr.take (k+1)).flatMap nb=(fr.take k).flatMap nb++nb fr[k]:=by rw[Cs o,Jl];simp
  refine cO 26 [7,8] 3 26 (nb fr[k]).length (λj v u=>∃l m,Ny d ((fr.take k).flatMap nb++(nb fr[k]).take j) l m/\AD w.heap.size 3 u v (AH l)/\Cy PP 3 u bm m/\AC w u/\AQ u (.slice na (nb fr[k]).length nc) (AH (nb fr[k]))) ⟨l,m,by simpa using A,O.up (w':=w3),M.up (w':=w3),stp,SN⟩ ?_;clear A O M;rintro j v4 G4 u4 hj ⟨l,m,A,O,M,p,q⟩;refine ite (λa5=>?_) (λa6=>?_)
  ·have r:j<(nb fr[k]).length:=by omega
   have S:∃z,z=(nb fr[k])[j]:=⟨_,rfl⟩;obtain⟨z,hz⟩:=S;have T:(AH (nb fr[k]))[j]? = some (z:Int):=by rw[hz];exact WN r
   have U:z<d.length:=by simp_all
   have C:(fr.take k).flatMap nb++(nb fr[k]).take (j+1)=((fr.take k).flatMap nb++(nb fr[k]).take j)++[z]:=by simp_all
   have a7:=A.len;have b4:(AH l).length=l.length:=PQ l;refine Bv q T λb5 o5 A5=>AF (A5.cell0 rfl) (rX K rfl (Bv (OL.sl.up (w':=u4)) (x:=d[z]) (by simp) λb6 o6 A6=>AF (A6.cell0 rfl) (ite (λs=>?_) (λs=>?_))))
   ·have hx:∃x,d[z]? = some x/\x<0:=⟨d[z],by simp,s⟩;have S:=Xw (z∈l);rcases S with f|f
    ·refine Py M.l (z:Int) rfl (y:=.bool true) (by rw[A.map,if_pos f];rfl) ?_;have t:=A.skip (w:=z) (.inl f);rw[<-C]at t;exact rA ⟨rfl,r,l,m,t,O,M,p,q⟩
    ·refine Py M.l (z:Int) rfl (y:=.bool false) (by rw[A.map,if_neg f];rfl) ?_;have t:=A.add f hx;rw[<-C]at t;refine Cv M (z:Int) rfl λw7 M7 V z7=>?_;have t7:AC w w7:=⟨Fr.st p.e V λi hi=>by omega⟩;have W:=q.frM M.l V;have O7:=O.kept (M.l.wrote (es:=[Fh]) V J (by simp)) (by decide);refine bS (z:Int) λb8 E e8 _ S8=>Ax (u:=w) ⟨rfl,rfl⟩ (O7.up (w':=E)) S8 (by omega) λv9 X O9 H s9=>?_;have H:Fr (AV w.heap.size v4) E X:=H;have M9:=(M7.up (w':=E)).fr H ((M7.up (w':=E)).notOwn (O7.up (w':=E)))
     have Y:=(W.up (w':=E)).fr H λb hb h=>by
      have:=L b (λh0=>by simp_all) hb;have:=h.1;omega
     have Z:AD w.heap.size 3 X v9 (AH (l++[z])):=by rw[YS];exact O9
     have t9:AC w X:=stp;exact rA ⟨rfl,r,l++[z],_,t,Z,M9,t9,Y⟩
   ·have t:=A.skip (w:=z) (.inr λ⟨x,h1,h2⟩=>by
     rw[Qd U]at h1;have:=QL h1;omega)
    rw[<-C]at t;exact rA ⟨rfl,r,l,m,t,O,M,p,q⟩
  ·have a0:j=(nb fr[k]).length:=by omega
   rw[a0,Qg,<-hP]at A;exact rA ⟨rfl,o,l,m,A,O,M,p⟩
 ·have a1:k=fr.length:=by omega
  rw[a1,Qg]at A;exact⟨⟨l,m,A,O⟩,su⟩
theorem zKt{bs:Nat}{fn:FuncId}{br:Nat}{la:OA}{o:Nat}{c:List Int}{fr l:List Nat}{q:Nat}{E:List Nat}{x:Int}{c2:Nat}(Q:Fe B w bs fn br la o c fr)(a0:c.length<=200)(F:fr=q::E)(hx:c[q]? = some x)(a1:-1<=x/\x<=1000)
  (hl:∀v∈l,v<c.length)(h0:q∉l)(a4:l.length<=1000)(S:AQ w (.slice a2 n2 c2) (AH l))(t:∀b,Value.blk (.slice a2 n2 c2)=some b->Value.blk (.slice la c.length o)≠some b/\b≠bs/\B<=b):
  Sp PP 81 #[.pointer (some ⟨bs,0,none⟩),.slice a2 n2 c2] w λ_ w'=>TH B w' bs fn br la o (CT (x+1) l c) a2 c2 l/\Fr (λi=>i=bs\/Value.blk (.slice la c.length o)=some i) w w':=by
 have H:n2=l.length:=by rw[S.len,PQ]
 subst H;obtain⟨fa,fc,K,OL,SF,r,f,hB⟩:=Q;have I:q<c.length:=(Qy.1 hx).1;refine eN ?_;refine cN 8 [4,5] 8 l.length (λk u=>AD B 3 u (.slice la c.length o) (CT (x+1) (l.take k) c)/\Fr (λi=>Value.blk (.slice la c.length o)=some i) w u) ⟨OL,Fr.refl _ _⟩ ?_;rintro k G u hk ⟨O,s⟩;have A:=K.fr s f;have J:=SF.fr s λb hb=>(r b hb).1;have Su:=S.fr s λb hb=>(t b hb).1;refine ite (λAY=>?_) (λa5=>?_)
 ·have p:k<l.length:=by omega
  have L:∃z,z=l[k]:=⟨_,rfl⟩;obtain⟨z,hz⟩:=L;have M:(AH l)[k]? = some (z:Int):=by rw[hz];exact WN p
  have a6:z<c.length:=by simp_all
  have d:=ZM (x+1) (l.take k) c
  have T:(CT (x+1) (l.take k) c)[q]? = some x:=by
   rw[iD _ _ _ _ I,if_neg (λh=>h0 (Vu h))];exact hx
  have U:(AH fr)[0]? = some (q:Int):=by rw[F];rfl
  refine Bv Su M λb5 o5 A5=>AF (A5.cell0 rfl) (dT (λi=>Value.blk (.slice la c.length o)=some i) (oL [0,1,2,3,4,5,6,7,8,9,10,11,12,13,14,15] (.lone 16 (oL [17,18,19] .nil))) λC e1=>tX A rfl f (tX A rfl f (tX A rfl f ?_)));refine CL (J.up (w':=C)) U λb6 o6 A6 V=>AP (A6.cell0 rfl) (λh=>(r b6 V).1 h) (CL (O.sl.up (w':=C)) T λb7 o7 A7 _=>AF (A7.cell0 rfl) ⟨Fr.refl _ _,?_⟩);refine rA ?_;have L:∃y,(CT (x+1) (l.take k) c)[z]? = some y:=⟨_,Qd (by omega)⟩;obtain⟨y,hy⟩:=L;refine ET rfl (O.up (w':=C)) hy λg8 W a7 A8=>CZ rfl (x+1) (O.up (w':=C)) W (by omega) rfl λw9 O9 f9 z9=>⟨f9.mono λi _ hi=>hi.2.1,?_⟩;have X:AD B 3 w9 (.slice la c.length o) (CT (x+1) (l.take (k+1)) c):=by rw[Cs p,zL3,<-hz];exact O9
  exact rA ⟨rfl,p,X,(s.trans (Fr.fr e1.e)).trans (f9.mono λi _ hi=>hi.2.1)⟩
 ·refine rS A [.slice a2 l.length c2] (by intro u hu;simp at hu;subst hu;rfl) λw4 K4 Y _=>?_;have Z:k=l.length:=by omega
  rw[Z,Qg]at O;have d:=ZM (x+1) l c;refine⟨⟨?_,?_,?_,λb hb=>?_,?_,hB⟩,(s.mono λi _ hi=>.inr hi).trans (Y.mono λi _ hi=>.inl hi)⟩
  ·rw[d];exact K4
  ·rw[d];exact O.fr Y λb _ hb h=>f (h ▸ hb)
  ·exact Su.fr Y λb hb h=>(t b hb).2.1 h
  ·rw[d];exact⟨(t b hb).1,(t b hb).2.2⟩
  ·rw[d];exact f
def EU (n p:Nat):List Int:=(List.replicate n (-1:Int)).set p 0
theorem Tg(n p:Nat):(EU n p).length=n:=by simp[EU]
theorem Fe.blk{bs:Nat}{fn:FuncId}{e:Nat}{la:OA}{d:Nat}{c:List Int}{fr:List Nat}(h:Fe B w bs fn e la d c fr)(f:c≠[]):(B<=bs/\bs<w.heap.size)/\∃b,Value.blk (.slice la c.length d)=some b/\B<=b/\b<w.heap.size:=by
 obtain⟨o,p,K,O,S,q,r,l⟩:=h;exact⟨⟨l,K.lt⟩,O.lt f⟩
theorem Fe.lax{B':Nat}{bs:Nat}{fn:FuncId}{d:Nat}{la:OA}{e:Nat}{c:List Int}{fr:List Nat}(h:Fe B w bs fn d la e c fr)(l:B'<=B):Fe B' w bs fn d la e c fr:=by
 obtain⟨o,p,K,O,S,f,q,r⟩:=h;exact⟨o,p,K,O.mono l,S,λb hb=>⟨(f b hb).1,by have:=(f b hb).2;omega⟩,q,by omega⟩
def Zd (x:CP) (n f t:Nat) (w:World) (v:Value) (w':World):Prop:=
 ∃ba bb br laa lca lab lcb fa fc B1 B2,v=.tuple #[.agg #[.pointer (some ⟨ba,0,none⟩),.pointer (some ⟨bb,0,none⟩)],.int .i64 0]/\TH B1 w' ba 137 br laa lca (EU n f) fa fc [f]/\Fe B2 w' bb 138 br lab lcb (EU n t) [t]/\Bk w' br (enc x) 82 /\
  w.heap.size<=br/\br<B1/\B1<=B2/\ba<B2/\(∀b,Value.blk (.slice laa (EU n f).length lca)=some b->b<B2)/\∀b,Value.blk (.slice fa 1 fc)=some b->b<B2
theorem zKs{x:CP}{r:List BP}{f t:Nat}(hg:Bb g)(R:IF w x g r)(hf:f<g.n)(ht:t<g.n):
  Sp PP 79 #[agg x,.int .i64 (f:Int),.int .i64 (t:Int)] w λv w'=>Zd x g.n f t w v w'/\AC w w':=by
 have l1:=R.off.len;have q1:=Mk g.n g.es;have z:=hg.ok.n2;refine eN ?_;refine BM λs w1 n1 A=>?_;have A:Bk w1 s (enc x) 82:=A;have T:=n1.lo (u:=w);have a7:=A.lt;refine Ap λbp U n2 P2=>rX A rfl (rI (g.n:Int) (rG A x (AA (Tv hg (R.up (w':=U))) ?_)));rintro _ J ⟨rfl,e3⟩;refine iF (by omega) (iF (by omega) (iF (by omega) (iF (by omega) (AA (rK (n:=g.n) (p:=f) z hf) ?_))));rintro _ C ⟨⟨E,c,d,rfl,L⟩,e4⟩;refine AA (rK (n:=g.n) (p:=t) z ht) ?_;rintro _ y ⟨⟨bb,lab,lcb,rfl,M⟩,e5⟩;refine AJ (cs:=[.pointer (some ⟨E,0,none⟩),.pointer (some ⟨bb,0,none⟩)]) rfl ?_;have a8:=n2.lo (u:=w);have a9:=P2.lt;have z2:=lz w1 U;have z3:=lz U J;have z4:=e4.e.size;have z5:=e5.e.size;have V:EU g.n f≠[]:=λh=>by have:=congrArg List.length h;rw[Tg]at this;simp at this;omega
 have W:EU g.n t≠[]:=λh=>by have:=congrArg List.length h;rw[Tg]at this;simp at this;omega
 have L:Fe J.heap.size C E 137 s c d (EU g.n f) [f]:=L;have M:Fe C.heap.size y bb 138 s lab lcb (EU g.n t) [t]:=M;have F:=L.blk V;obtain⟨b0,pa,l,a1⟩:=F;have F:=M.blk W;obtain⟨b1,pb,o,a4⟩:=F;refine rS (P2.mv (w:=y)) [.pointer (some ⟨E,0,none⟩),.pointer (some ⟨bb,0,none⟩)] (by intro u hu;simp at hu;rcases hu with rfl|rfl<;>rfl) λQ P6 q _=>?_;have t6:AC w Q:=⟨Fr.st (lE w y) q λi hi=>by omega⟩;refine AR (B:=P6) rfl ?_;obtain⟨G,H,K,O,S,I,z,X⟩:=L;have F:=S.lt (by intro h;cases h);obtain⟨bf,a5,a6⟩:=F;have b2:∀b,Value.blk (.slice G 1 H)=some b->b<C.heap.size:=λb hb=>by simp_all
 have Y:TH J.heap.size Q E 137 s c d (EU g.n f) G H [f]:=by
  refine⟨(K.mv (w:=y)).fr q (by omega),(O.up (w':=y)).fr q λb _ hb e=>?_,(S.up (w':=y)).fr q λb hb e=>?_,I,z,X⟩
  ·rw[hb]at l;have:=QL l;omega
  ·have:=(I b hb).2;omega
 have Z:Fe C.heap.size Q bb 138 s lab lcb (EU g.n t) [t]:=by
  obtain⟨G,H,K,O,S,I,z,X⟩:=M;refine⟨G,H,K.fr q (by omega),O.fr q λb _ hb e=>?_,S.fr q λb hb e=>?_,I,z,X⟩
  ·rw[hb]at o;have:=QL o;omega
  ·have:=(I b hb).2;omega
 have a0:Bk Q s (enc x) 82:=(A.mv (w:=y)).fr q (by have:=n2.b;omega);have b3:∀b,Value.blk (.slice c (EU g.n f).length d)=some b->b=pa:=λb h=>by simp_all
 exact⟨⟨E,bb,s,c,d,lab,lcb,G,H,J.heap.size,C.heap.size,rfl,Y,Z,a0,T,by omega,by simp_all⟩,t6⟩
theorem NE(b:Bb g)(dir:Int)(v:Nat):(Aj g dir v).length<=1000000:=by
 have:=b.rowI.len;unfold Aj;split
 ·rw[Qr];have:=Qv (λe=>e.t==v) g.es;omega
 ·rw[Qr];have:=Qv (λe=>e.f==v) g.es;omega
theorem AQ.blt{α:Type}[AK α]{v:Value}{l:List α}(h:AQ w v l)(c:l≠[]){g:Nat}(d:Value.blk v=some g):g<w.heap.size:=by
 have e:=h.lt c;obtain⟨o,b,f⟩:=e;rw[d]at b;cases b;exact f
theorem zPB{seen:List Bool}{z:Nat}(c:z<seen.length):∃b,seen[z]? = some b:=⟨_,Qd c⟩
structure KT (g:An) (t:Nat) (d:Nat) (lev:List Int) (fr l S:List Nat):Prop where
 len:lev.length=g.n
 nd:S.Nodup
 sn:∀v,v<g.n->(v∈S↔∃x,lev[v]? = some x/\0<=x)
 lt:∀v∈S,v<g.n
 rng:∀(v:Nat) x,lev[v]? = some x->-1<=x/\x<=(d:Int)
 fl:∀v∈fr,v∈S/\lev[v]? = some (d:Int)
 frn:fr.Nodup
 ne:fr≠[]
 cnt:d+1<=S.length
 le:l=IU lev (fr.flatMap (Aj g 1))
 lnd:l.Nodup
 neg:∀w∈l,w<g.n/\∃x,lev[w]? = some x/\x<0
 eq:∃k,KD (Aj g 1) (k+1) d lev fr=ME g t/\g.n<=k+d
section
variable {g:An} {t d:Nat} {lev:List Int} {fr l S:List Nat}
theorem KT.dn(I:KT g t d lev fr l S):d<g.n:=by
 have:=SU I.nd I.lt;have:=I.cnt;omega
theorem KT.done(I:KT g t d lev fr [] S):lev=ME g t:=by
 have b:=I.eq;obtain⟨k,h,_⟩:=b;rw[<-h];unfold KD;rw[if_pos I.le.symm]
theorem KT.next{s:List Nat}(I:KT g t d lev fr l S)(u:l≠[])(H:s=IU (CT ((d:Int)+1) l lev) (l.flatMap (Aj g 1)))(A:s.Nodup)(J:∀w∈s,w<g.n/\∃x,(CT ((d:Int)+1) l lev)[w]? = some x/\x<0):
  KT g t (d+1) (CT ((d:Int)+1) l lev) l s (S++l):=by
 have C:=I.len;have f:∀v,v<g.n->(CT ((d:Int)+1) l lev)[v]? = if v∈l then some ((d:Int)+1) else lev[v]?:=λv c=>iD _ _ _ _ (by omega)
 have p:∀v∈l,v∉S:=λv c K=>by
  have o:=I.neg v c;obtain⟨E,x,z,L⟩:=o;have o:=(I.sn v E).1 K;obtain⟨y,G,h5⟩:=o;rw[z]at G;cases G;omega
 refine⟨by rw[ZM,C],?_,λv c=>?_,λv c=>?_,λv x q=>?_,λv c=>?_,I.lnd,u,?_,H,A,J,?_⟩
 ·rw[JU];exact⟨I.nd,I.lnd,λa F b hb e=>p b hb (e ▸ F)⟩
 ·rw[f v c,Qf];by_cases h:v∈l
  ·rw[if_pos h];exact⟨λ_=>⟨_,rfl,by omega⟩,λ_=>.inr h⟩
  ·rw[if_neg h,<-I.sn v c];exact⟨λz=>z.resolve_right h,.inl⟩
 ·have o:=Qf.1 c;rcases o with c|c
  ·exact I.lt v c
  ·exact(I.neg v c).1
 ·have c:v<g.n:=by have:=(Qy.1 q).1;rw[ZM]at this;omega
  rw[f v c]at q;split at q
  ·cases q;omega
  ·have:=I.rng v x q;omega
 ·refine⟨JJ _ c,?_⟩;rw[f v (I.neg v c).1,if_pos c];rfl
 ·have:=JI.2 u;have:=I.cnt;rw[Qb];omega
 ·have o:=I.eq;obtain⟨k,E,z⟩:=o;have L:=I.dn;have M:=SU (l:=S++l) (n:=g.n) (by rw[JU];exact⟨I.nd,I.lnd,λa F b hb e=>p b hb (e ▸ F)⟩) (λx q=>(Qf.1 q).elim (I.lt x) λh=>(I.neg x h).1);rw[Qb]at M;have:=JI.2 u;have:=I.cnt;have o:∃r,k=r+1:=⟨k - 1,by omega⟩;obtain⟨r,rfl⟩:=o;refine⟨r,?_,by omega⟩
  have e:KD (Aj g 1) (r+1+1) d lev fr=KD (Aj g 1) (r+1) (d+1) (CT ((d:Int)+1) l lev) l:=by
   rw[KD,if_neg (by rw[<-I.le];exact u),<-I.le]
  rw[<-E];exact e.symm
theorem KT.first(p:t<g.n)(q:l=IU (EU g.n t) ([t].flatMap (Aj g 1)))(f:l.Nodup)(r:∀w∈l,w<g.n/\∃x,(EU g.n t)[w]? = some x/\x<0):KT g t 0 (EU g.n t) [t] l [t]:=by
 have o:∀v,v<g.n->(EU g.n t)[v]? = if t=v then some 0 else some (-1):=λv b=>by
  unfold EU;rw[Vw,Vk];by_cases e:t=v
  ·subst e;simp[b]
  ·rw[if_neg e,if_neg e,if_pos b]
 refine⟨Tg _ _,by simp,λv b=>?_,λv b=>?_,λv x c=>?_,λv b=>?_,by simp,by simp,by simp,q,f,r,g.n,rfl,by omega⟩
 ·rw[o v b,Qc];by_cases e:t=v
  ·rw[if_pos e];exact⟨λ_=>⟨0,rfl,Vr _⟩,λ_=>e.symm⟩
  ·rw[if_neg e];refine⟨λh=>absurd h.symm e,λ⟨x,s,u⟩=>?_⟩;cases s;omega
 ·rw[Qc.1 b];exact p
 ·have b:v<g.n:=by have:=(Qy.1 c).1;rw[Tg]at this;exact this
  rw[o v b]at c;split at c<;>cases c<;>omega
 ·rw[Qc.1 b,o t p,if_pos rfl];exact⟨by simp,rfl⟩
end
theorem wO{x:CP}{r:List BP}{bb h:Nat}{lab:OA}{lcb:Nat}{b:List Int}{fr:List Nat}(d:Bb g)(R:IF w x g r)(q:Bk w h (enc x) 82)(c:b.length=g.n)(f:∀v∈fr,v<g.n)(s:fr.length<=200)
  (Q:Fe B w bb 138 h lab lcb b fr):Sp PP 80 #[.pointer (some ⟨bb,0,none⟩)] w λv w'=>(∃l,l=IU b (fr.flatMap (Aj g 1))/\l.Nodup/\(∀w∈l,w<g.n/\∃x,b[w]? = some x/\x<0)/\AD w.heap.size 3 w' v (AH l))/\AC w w':=
 (zJK (nb:=Aj g 1) Q (by rw[c];exact d.ok.n2) (by omega) (λv o=>⟨NE d 1 v,λy t=>by rw[c];exact IX d.ok t⟩) (λv o u e=>by
  have:=yI (w0:=w) (w:=u) d q R (f v o)
  exact this)).mono λv w' ⟨⟨l,m,A,O⟩,e⟩=>⟨⟨l,A.eq,A.nd,λw p=>⟨by
   have z:=((A.mem w).1 p).2;obtain⟨x,C,_⟩:=z;have:=(Qy.1 C).1;omega,((A.mem w).1 p).2⟩,O⟩,e⟩
theorem xI{α:Type}{p:α->Bool}{l:List α}(b:j<l.length)(c:p l[j]=true)(d:∀i (hi:i<l.length),i<j->p l[i]=false):l.find? p=some l[j]:=by
 rw[List.find?_eq_some_iff_getElem];exact⟨c,j,b,rfl,λi hi=>by rw[d i (by omega) hi];rfl⟩
structure kW (g:An) (t B bb br:Nat) (lab:OA) (lcb:Nat) (i:Nat) (v:Value) (u:World) (d:Nat) (lev:List Int) (fr l S:List Nat):Prop where
 i:i=g.n - d
 I:KT g t d lev fr l S
 m:Fe B u bb 138 br lab lcb lev fr
 v:∃a c,v=.slice a l.length c/\AQ u (.slice a l.length c) (AH l)/\(l≠[]->∀b,Value.blk (.slice a l.length c)=some b->b≠bb/\Value.blk (.slice lab g.n lcb)≠some b/\B<=b)
theorem pY{v:Value}{l:List Nat}{bb:Nat}{lab:OA}{lcb:Nat}(O:AD w.heap.size 3 w' v (AH l))(s:bb<w.heap.size)(q:∀b,Value.blk (.slice lab n lcb)=some b->b<w.heap.size)(t:B<=w.heap.size):
  ∃a c,v=.slice a l.length c/\AQ w' (.slice a l.length c) (AH l)/\(l≠[]->∀b,Value.blk (.slice a l.length c)=some b->b≠bb/\Value.blk (.slice lab n lcb)≠some b/\B<=b):=by
 have d:=PQ l;have f:=O.shape;obtain⟨a,c,rfl⟩:=f;have e:=O.sl;rw[d]at e;refine⟨a,c,by rw[d],e,λr b hb=>?_⟩;have o:AH l≠[]:=λh=>r (List.map_eq_nil_iff.1 h);have f:=O.lt o;obtain⟨u,p,x,h5⟩:=f;rw[d]at p;rw[p]at hb;have:=QL hb;subst this;exact⟨by omega,λh=>by have:=q _ h;omega,by omega⟩
theorem zJJ{x:CP}{r:List BP}{f t:Nat}(hg:Bb g)(R:IF w x g r)(hf:f<g.n)(ht:t<g.n):
  Sp PP 46 #[agg x,.int .i64 (f:Int),.int .i64 (t:Int)] w λv w'=>(∃a c b,v=.tuple #[.slice a (DC g f t).length c,.bool b,.int .i64 0]/\AQ w' (.slice a (DC g f t).length c) (AH (DC g f t))/\(DC g f t).length<=1000)/\AC w w':=by
 have h2:=hg.ok.n2;refine eN ?_;refine BM λbo w1 n1 B1=>?_;have B1:Bk w1 bo (enc x) 82:=B1;refine Cq (B:=B1) rfl rfl ?_;refine AA (zKs hg (R.up (w':=w1)) hf ht) ?_;rintro _ w2 ⟨⟨ba,bb,br,b5,b8,lab,lcb,fa,fc,d2,B2,rfl,Sa,Sb,Br,h7,g3,d3,h8,a5,_⟩,e2⟩;have d4:EU g.n f≠[]:=λh=>by have:=congrArg List.length h;rw[Tg]at this;simp at this;omega
 have d5:EU g.n t≠[]:=λh=>by have:=congrArg List.length h;rw[Tg]at this;simp at this;omega
 have Sa:Fe d2 w2 ba 137 br b5 b8 (EU g.n f) [f]:=⟨_,_,Sa⟩;have C:=Sb.blk d5;obtain⟨h9,pb,E,g4⟩:=C;have C:=Sa.blk d4;obtain⟨i0,pa,g5,g6⟩:=C
 have J:∀b,Value.blk (.slice lab (EU g.n t).length lcb)=some b->ba<b/\Value.blk (.slice b5 (EU g.n f).length b8)≠some b:=λb h=>by
  rw[h]at E;have:=QL E;exact⟨by omega,λh2=>by have:=a5 b h2;omega⟩
 have M:∀b,Value.blk (.slice lab (EU g.n t).length lcb)=some b->br<b:=λb h=>by have:=(J b h).1;omega
 have i1:ba<bb:=by omega
 have g7:br<ba:=by omega
 have Sb:=Sb.lax (B':=w1.heap.size) (by omega);rw[Tg]at J M E;have T:∀b,Value.blk (.slice lab g.n lcb)=some b->b=pb:=λb h=>by rw[h]at E;exact QL E
 have z1:=lz w w1;refine Ap λbp w3 n3 P3=>?_;have i2:=n3.lo (u:=w2);refine rS P3 [.pointer (some ⟨ba,0,none⟩),.pointer (some ⟨bb,0,none⟩)] (by intro u hu;simp at hu;rcases hu with rfl|rfl<;>rfl) λw4 P4 f4 _=>?_;have P4:Bk w4 bp [.pointer (some ⟨ba,0,none⟩),.pointer (some ⟨bb,0,none⟩)] 126:=P4;have s4:AC w2 w4:=⟨Fr.st (lE w2 w3) f4 λi hi=>by omega⟩;have z4:=s4.e.size;refine iF (· rfl) (rX P4 rfl (AA (wO hg (R.up (w':=w4)) (Br.mv (w:=w4)) (Tg _ _) (by simp[ht]) (by simp) (Sb.up (w':=w4))) ?_));rintro v5 w5 ⟨⟨l0,d6,b9,a6,O5⟩,e5⟩;have I0:=KT.first ht d6 b9 a6;have z5:=e5.e.size
 have Ka:∃vs,Bk w5 ba (Value.func (.func 137) #[] #[.pointer (some ⟨br,0,none⟩)]::vs) 132:=by
  obtain⟨fa,fc,K,_⟩:=Sa;exact⟨_,K.mv (w:=w5)⟩
 obtain⟨i3,Ka⟩:=Ka;have g8:w1.heap.size<=w5.heap.size:=by omega
 have d7:=pY (B:=w1.heap.size) (bb:=bb) (n:=g.n) (lab:=lab) (lcb:=lcb) O5 (by omega) (λb h=>by have:=T b h;omega) (by omega)
 refine IG Aa 12 [] 11 (λi v u=>∃d o fr l S,kW g t w1.heap.size bb br lab lcb i v u d o fr l S/\Fr (λi=>i=bb\/Value.blk (.slice lab g.n lcb)=some i) w5 u) rfl
  ⟨g.n - 0,0,EU g.n t,[t],l0,[t],⟨rfl,I0,(Sb.up (w':=w5)),d7⟩,Fr.refl _ _⟩ ?_
 rintro i v G u ⟨d,o,fr,l,S,⟨hi,I,Q,hv⟩,fu⟩;obtain⟨va,vc,rfl,SL,a7⟩:=hv;have U:=I.len;have zu:=fu.size;have hdn:=I.dn
 have g9:fr.length<=200:=by
  have:=SU I.frn (λv hv=>I.lt v (I.fl v hv).1);omega
 have a1:∀i,(i=bb\/Value.blk (.slice lab g.n lcb)=some i)->w1.heap.size<=i:=λi h=>by
  rcases h with h|h
  ·omega
  ·have:=T i h;omega
 have su:Gl w1 w5 u:=⟨fu.mono λi _ hi=>a1 i hi⟩
 have Pu:=(P4.mv (w:=w5)).fr fu λh=>by
  rcases h with h|h
  ·omega
  ·have:=T _ h;omega
 have c0:=(Br.mv (w:=w5)).fr fu λh=>by
  rcases h with h|h
  ·omega
  ·have:=M _ h;omega
 have d8:=Ka.fr fu λh=>by
  rcases h with h|h
  ·omega
  ·have:=J _ h;omega
 refine ite (λV=>?_) (λV=>?_)
 ·have a4:l≠[]:=λh=>by rw[h]at V;simp at V
  have a7:=a7 a4;have h0:l.length<=g.n:=SU I.lnd λv hv=>(I.neg v hv).1
  obtain⟨f0,i4,c1⟩:∃a b,fr=a::b:=by
   cases fr with
   |nil=>exact absurd rfl I.ne
   |cons a b=>exact⟨a,b,rfl⟩
  have hx:o[f0]? = some (d:Int):=(I.fl f0 (by rw[c1];exact Qs)).2;refine rX Pu rfl ?_
  have D7:=zKt (l:=l) (a2:=va) (c2:=vc) Q (by omega) c1 hx (by omega) (λy hy=>by rw[U];exact(I.neg y hy).1) (λh=>by
   have C:=I.neg f0 h;obtain⟨_,y,h1,h2⟩:=C
   rw[hx]at h1;cases h1;omega) (by omega) SL (λb hb=>by
   have h3:=a7 b hb;rw[U];exact⟨h3.2.1,h3.1,h3.2.2⟩)
  rw[U]at D7;refine AA D7 ?_;rintro _ w7 ⟨Q7,f7⟩;have Q7:Fe w1.heap.size w7 bb 138 br lab lcb (CT ((d:Int)+1) l o) l:=⟨_,_,Q7⟩;have z7:=f7.size
  have P7:=Pu.fr f7 λh=>by
   rcases h with h|h
   ·omega
   ·have:=T _ h;omega
  have d9:=c0.fr f7 λh=>by
   rcases h with h|h
   ·omega
   ·have:=M _ h;omega
  have s7:Gl w1 u w7:=⟨f7.mono λi _ hi=>a1 i hi⟩;refine rX P7 rfl (AA (wO hg (R.up (w':=w7)) d9 (by rw[ZM,U]) (λv hv=>(I.neg v hv).1) (by omega) Q7) ?_);rintro v8 w8 ⟨⟨l8,e0,c3,a9,O8⟩,e8⟩;have c4:=pY (B:=w1.heap.size) (bb:=bb) (n:=g.n) (lab:=lab) (lcb:=lcb) O8 (by omega) (λb h=>by have:=T b h;omega) (by omega);exact⟨g.n - (d+1),by omega,d+1,_,l,l8,S++l,⟨rfl,I.next a4 e0 c3 a9,Q7.up (w':=w8),c4⟩,(fu.trans f7).trans (Fr.fr e8.e)⟩
 ·have e1:l=[]:=Qn (by omega);subst e1;have e3:=I.done;have e4:∃y,o[f]? = some y:=⟨_,Qd (by omega)⟩;obtain⟨y,hy⟩:=e4;have i5:=I.rng f y hy
  have W:DC g f t=if y<0 then[] else f::Hb (Aj g 0) o y.toNat f:=by
   unfold DC;rw[<-e3,Qk,hy];rfl
  obtain⟨fa,fc,K,O,SF,i6,h5,hB⟩:=Q;rw[U]at K O;refine rX Pu rfl (rX K rfl (Bv O.sl hy λb6 o6 A6=>AF (A6.cell0 rfl) (ite (λX=>?_) (λX=>?_))))
  ·rw[if_pos X]at W;rw[W];exact⟨⟨none,0,false,rfl,AQ.nil _,by simp⟩,stp⟩
  rw[if_neg X]at W;have C:=QU (show(0:Int)<=y by omega);obtain⟨L,rfl⟩:=C;rw[QW]at W;refine LE (vs:=[.int .i64 (f:Int)]) [(f:Int)] rfl rfl rfl (by decide) λb7 w7 n7 S7=>?_;have s7:AC u w7:=⟨n7.ext⟩;have O7:AD u.heap.size 3 w7 (.slice (some ⟨b7,0,none⟩) 1 1) (AH [f]):=n7.own rfl rfl (by decide) (Qe _)
  refine Tp Aa 15 [] 12 13 14 (λv1 v2 v3 y=>∃k s:Nat,v1=.int .i64 (k:Int)/\v3=.int .i64 (s:Int)/\s<g.n/\∃Z:List Nat,Z++Hb (Aj g 0) o k s=DC g f t/\Z.length+k<=L+1/\AD u.heap.size 3 y v2 (AH Z)/\AC u y) (λv1 _ _ _=>(Go.RowKit.intOf v1).toNat) rfl
   ⟨L,f,rfl,rfl,hf,[f],W.symm,by simp;omega,O7,s7⟩ ?_
  rintro _ v2 _ G8 w8 ⟨k,s,rfl,rfl,c5,Z,F,h6,O8,s8⟩;refine ite (λhk=>?_) (λhk=>?_)
  ·have C:∃A,k=A+1:=⟨k - 1,by omega⟩;obtain⟨A,rfl⟩:=C;refine rX Pu rfl (rX d8 rfl (AA (xD (w0:=w8) (w:=w8) hg (c0.mv (w:=w8)) (R.up (w':=w8)) c5) ?_));rintro _ w9 ⟨⟨na,nc,rfl,SN,_⟩,e9⟩;have i7:=NE hg 0 s;refine cP 65 [15,16] 13 14 65 (Aj g 0 s).length (λj p q y=>p=v2/\q=.int .i64 (s:Int)/\(∀i (hi:i<(Aj g 0 s).length),i<j->o.getD (Aj g 0 s)[i] 0≠(A:Int))/\AC w9 y) ⟨rfl,rfl,λi hi h=>absurd h (by omega),stp⟩ ?_;rintro j _ _ i8 b0 hj ⟨rfl,rfl,Y,i9⟩;refine ite (λAY=>?_) (λj0=>?_)
   ·have a0:j<(Aj g 0 s).length:=by omega
    have C:∃z,z=(Aj g 0 s)[j]:=⟨_,rfl⟩;obtain⟨z,hz⟩:=C;have e6:(AH (Aj g 0 s))[j]? = some (z:Int):=by rw[hz];exact WN a0
    have e7:z<g.n:=by rw[hz];exact IX hg.ok (Qa a0)
    have f1:∃y,o[z]? = some y:=⟨_,Qd (by omega)⟩;obtain⟨y,hy⟩:=f1;have c6:o.getD z 0=y:=by rw[Qk,hy];rfl
    refine Bv (SN.up (w':=b0)) e6 λj1 j2 f2=>AF (f2.cell0 rfl) (rX Pu rfl (rX K rfl (Bv (O.sl.up (w':=b0)) hy λj3 j4 f3=>AF (f3.cell0 rfl) (rI (A:Int) (ite (λb1=>?_) (λb1=>?_))))))
    ·have b2:(Aj g 0 s).find? (λw=>decide (o.getD w 0=(A:Int)))=some z:=by
      rw[hz];exact xI a0 (by rw[<-hz,c6,b1];simp) λi hi h=>by simpa using Y i hi h
     have H:Hb (Aj g 0) o (A+1) s=z::Hb (Aj g 0) o A z:=by
      rw[Hb,b2]
     refine bS (z:Int) λj5 f5 j6 _ f6=>Ax (u:=u) ⟨rfl,rfl⟩ (O8.up (w':=f5)) f6 (by rw[PQ];omega) λf8 c7 f9 j7 j8=>?_;have c9:AD u.heap.size 3 c7 f8 (AH (Z++[z])):=by rw[YS];exact f9
     have g0:AC u c7:=stp;refine rI (A:Int) ?_;refine⟨⟨A,z,rfl,rfl,e7,Z++[z],?_,by rw[Qb];simp only[QA,QZ];omega,c9,g0⟩,?_⟩
     ·rw[Qp];rw[H]at F;exact F
     show((A:Int)).toNat<(((A+1:Nat):Int)).toNat;omega
    ·refine rA ⟨rfl,a0,rfl,rfl,λi hi h=>?_,stp⟩;have C:=QH i j;rcases C with h3|h3
     ·exact Y i hi h3
     ·have h4:i=j:=by omega
      subst h4;rw[<-hz,c6];exact b1
   ·have b3:(Aj g 0 s).find? (λw=>decide (o.getD w 0=(A:Int)))=none:=by
     rw[List.find?_eq_none];intro z hz;have C:=QI.1 hz;obtain⟨i,hi,rfl⟩:=C;simpa using Y i hi (by omega)
    have H:Hb (Aj g 0) o (A+1) s=Hb (Aj g 0) o A s:=by
     rw[Hb,b3]
    refine rI (A:Int) ?_;refine⟨⟨A,s,rfl,rfl,c5,Z,by rw[<-F,H],by omega,O8.up (w':=b0),stp⟩,?_⟩;show((A:Int)).toNat<(((A+1:Nat):Int)).toNat;omega
  ·have g1:k=0:=by omega
   subst g1;have F:Z=DC g f t:=by rw[<-F];simp[Hb]
   have d0:=PQ Z;have C:=O8.shape;obtain⟨a8,c8,rfl⟩:=C;have b4:=O8.sl;rw[d0]at b4;have g2:Value.tuple #[.slice a8 (AH Z).length c8,.bool true,.int .i64 0]=.tuple #[.slice a8 (DC g f t).length c8,.bool true,.int .i64 0]:=by rw[d0,F]
   have d1:(DC g f t).length<=1000:=by rw[<-F];omega
   rw[F]at b4;exact⟨⟨a8,c8,true,g2,b4,d1⟩,stp⟩
def WD (g:An) (dir:Int) (k h v:Nat):Prop:=if dir=1 then HC g k v h else HC g k h v
section
variable {g:An} {dir:Int} {h:Nat}
theorem WD.zero{v:Nat}:WD g dir 0 h v↔h=v:=by
 unfold WD;split
 ·exact⟨λe:v=h=>e.symm,λe=>e.symm⟩
 ·exact Iff.rfl
theorem WD.step{v w:Nat}(hd:dir=0\/dir=1)(e:WD g dir k h v)(b:w∈Aj g dir v):WD g dir (k+1) h w:=by
 unfold WD at *;rcases hd with rfl|rfl
 ·rw[if_neg (by decide)]at *;exact e.app (HC.one.2 (tY.1 b))
 ·rw[if_pos rfl]at *;rw[Xv];exact(HC.one.2 (uG.1 b)).app e
def Gd (g:An) (dir:Int) (h:Nat) (P:Nat->Nat->Prop):Nat->Nat->Prop
 |v,0=>h=v/\¬P v 0
 |v,k+1=>WD g dir (k+1) h v/\(∀j,j<k+1->¬WD g dir j h v)/\¬P v (k+1)/\∃u,v∈Aj g dir u/\Gd g dir h P u k
theorem Gd.wd{P:Nat->Nat->Prop}{v:Nat}(G:Gd g dir h P v k):WD g dir k h v/\(∀j,j<k->¬WD g dir j h v)/\¬P v k:=by
 cases k with
 |zero=>exact⟨WD.zero.2 G.1,λj b=>by omega,G.2⟩
 |succ k=>exact⟨G.1,G.2.1,G.2.2.1⟩
structure PS (g:An) (dir:Int) (h:Nat) (P:Nat->Nat->Prop) (d:Nat) (seen:List Bool) (fr:List Nat) (A:Nat->Option Nat) (Sl:List Nat):Prop where
 len:seen.length=g.n
 sl:∀v,v<g.n->(seen[v]? = some true↔v∈Sl)
 nd:Sl.Nodup
 lt:∀v∈Sl,v<g.n
 fnd:fr.Nodup
 fs:∀v∈fr,v∈Sl/\WD g dir d h v/\A v=none
 wd:∀v∈Sl,∃j,j<=d/\WD g dir j h v
 add:∀v j,A v=some j->j<d/\j<g.n/\v∈Sl/\WD g dir j h v
 cnt:d+fr.length<=Sl.length
 cmp:∀v k,Gd g dir h P v k->(k<d->A v=some k)/\(k=d->v∈fr)
structure SrM (g:An) (dir:Int) (h:Nat) (P:Nat->Nat->Prop) (d:Nat) (seen:List Bool) (fr:List Nat) (A0:Nat->Option Nat) (Sl Q l:List Nat) (A:Nat->Option Nat):Prop where
 len:seen.length=g.n
 sl:∀v,v<g.n->(seen[v]? = some true↔v∈Sl\/v∈l)
 lnd:l.Nodup
 lo:∀w∈l,w∉Sl/\w<g.n/\WD g dir (d+1) h w
 at':∀v,(v∈Q->¬P v d->A v=some d)/\(v∈Q->P v d->A v=A0 v)/\(v∉Q->A v=A0 v)
 nb:∀v∈Q,¬P v d->∀w∈Aj g dir v,w∈Sl\/w∈l
variable {P:Nat->Nat->Prop} {d:Nat} {seen:List Bool} {fr Sl Q l:List Nat} {A A0:Nat->Option Nat}
theorem PS.first(f:h<g.n):PS g dir h P 0 ((List.replicate g.n false).set h true) [h] (λ_=>none) [h]:=by
 refine⟨by simp,λv b=>?_,by simp,λv b=>?_,by simp,λv b=>?_,λv b=>?_,(λv j e=>(by cases e)),by simp,λv k G=>⟨λc=>by omega,λc=>?_⟩⟩
 ·rw[Vw,Qc];by_cases e:h=v
  ·subst e;simp[b]
  ·rw[if_neg e,Vk,if_pos b];exact⟨(λh=>(by cases h)),λo=>absurd o.symm e⟩
 ·rw[Qc.1 b];exact f
 ·rw[Qc.1 b];exact⟨by simp,WD.zero.2 rfl,rfl⟩
 ·rw[Qc.1 b];exact⟨0,Qe _,WD.zero.2 rfl⟩
 ·subst c;rw[Qc];exact G.1.symm
theorem PS.begin(I:PS g dir h P d seen fr A Sl):SrM g dir h P d seen fr A Sl [] [] A:=
 ⟨I.len,λv b=>by rw[I.sl v b];simp,List.nodup_nil,(λw c=>(by cases c)),λv=>⟨(λb=>(by cases b)),(λb=>(by cases b)),λ_=>rfl⟩,(λv b=>(by cases b))⟩
theorem PS.small(I:PS g dir h P d seen fr A Sl)(b:fr≠[]):d<g.n:=by
 have c:=SU I.nd I.lt;have e:=I.cnt;have f:=JI.2 b;omega
theorem SrM.skip(M:SrM g dir h P d seen fr A0 Sl Q l A){v:Nat}(p:v∉Q)(o:P v d):SrM g dir h P d seen fr A0 Sl (Q++[v]) l A:=by
 refine⟨M.len,M.sl,M.lnd,M.lo,λu=>?_,λu b c w q=>?_⟩
 ·have e:=M.at' u;obtain⟨r,s,f⟩:=e;refine⟨λb c=>?_,λb c=>?_,λb=>f λh=>b (QN _ h)⟩
  ·have e:=Qf.1 b;rcases e with b|b
   ·exact r b c
   ·rw[Qc.1 b]at c;exact absurd o c
  ·have e:=Qf.1 b;rcases e with b|b
   ·exact s b c
   ·rw[Qc.1 b]at f ⊢;exact f p
 ·have e:=Qf.1 b;rcases e with b|b
  ·exact M.nb u b c w q
  ·rw[Qc.1 b]at c;exact absurd o c
structure Rz (g:An) (dir:Int) (h:Nat) (P:Nat->Nat->Prop) (d:Nat) (seen:List Bool) (fr:List Nat) (A0:Nat->Option Nat) (Sl Q R l:List Nat) (A:Nat->Option Nat):Prop extends SrM g dir h P d seen fr A0 Sl Q l A where
 r:∀w∈R,w∈Sl\/w∈l
theorem SrM.on(M:SrM g dir h P d seen fr A0 Sl Q l A):Rz g dir h P d seen fr A0 Sl Q [] l A:=⟨M,λw b=>(by cases b)⟩
theorem Rz.old{R:List Nat}(N:Rz g dir h P d seen fr A0 Sl Q R l A){w:Nat}(c:w<g.n)(e:seen[w]? = some true):Rz g dir h P d seen fr A0 Sl Q (R++[w]) l A:=
 ⟨N.toSrM,λu b=>by
  have f:=Qf.1 b;rcases f with b|b
  ·exact N.r u b
  ·rw[Qc.1 b];exact(N.sl w c).1 e⟩
theorem Rz.new{R:List Nat}(N:Rz g dir h P d seen fr A0 Sl Q R l A){w:Nat}(o:w<g.n)(q:seen[w]?≠some true)(hd:WD g dir (d+1) h w):Rz g dir h P d (seen.set w true) fr A0 Sl Q (R++[w]) (l++[w]) A:=by
 have h0:=λs=>q ((N.sl w o).2 s);refine⟨⟨by rw[Jc];exact N.len,λv c=>?_,?_,λv c=>?_,N.at',λv c t u f=>?_⟩,λu f=>?_⟩
 ·rw[Vw,Qf];by_cases e:w=v
  ·subst e;rw[if_pos rfl,if_pos (by rw[N.len];exact o)];simp
  ·rw[if_neg e,N.sl v c];have:¬v=w:=λh=>e h.symm;simp[this]
 ·rw[JU];refine⟨N.lnd,by simp,λa x b hb e=>?_⟩;rw[Qc.1 hb]at e;exact h0 (.inr (e ▸ x))
 ·have p:=Qf.1 c;rcases p with c|c
  ·exact N.lo v c
  ·rw[Qc.1 c];exact⟨λh=>h0 (.inl h),o,hd⟩
 ·exact(N.nb v c t u f).imp id (QN _)
 ·have p:=Qf.1 f;rcases p with f|f
  ·exact(N.r u f).imp id (QN _)
  ·rw[Qc.1 f];exact .inr (by simp)
theorem Rz.done{v:Nat}{B:Nat->Option Nat}(N:Rz g dir h P d seen fr A0 Sl Q (Aj g dir v) l A)(z:v∉Q)(p:¬P v d)(q:∀u,B u=if u=v then some d else A u):SrM g dir h P d seen fr A0 Sl (Q++[v]) l B:=by
 refine⟨N.len,N.sl,N.lnd,N.lo,λu=>?_,λu b c w f=>?_⟩
 ·have o:=N.at' u;obtain⟨s,t,x⟩:=o;rw[q];by_cases e:u=v
  ·subst e;rw[if_pos rfl];exact⟨λ_ _=>rfl,λ_ c=>absurd c p,λb=>absurd (JJ _ (by simp)) b⟩
  ·rw[if_neg e];have y:u∈Q++[v]↔u∈Q:=by simp_all
   rw[y];exact⟨s,t,x⟩
 ·have o:=Qf.1 b;rcases o with b|b
  ·exact N.nb u b c w f
  ·rw[Qc.1 b]at f;exact N.r w f
theorem SrM.next{r:List Bool}(I:PS g dir h P d r fr A0 Sl)(M:SrM g dir h P d seen fr A0 Sl fr l A)(z:fr≠[]):PS g dir h P (d+1) seen l A (Sl++l):=by
 have hdn:=I.small z;refine⟨M.len,λv f=>by rw[M.sl v f,Qf],?_,λv f=>?_,M.lnd,λv f=>?_,λv f=>?_,λv j e=>?_,?_,λv k G=>⟨λC=>?_,λC=>?_⟩⟩
 ·rw[JU];exact⟨I.nd,M.lnd,λa H b hb e=>(M.lo b hb).1 (e ▸ H)⟩
 ·have o:=Qf.1 f;rcases o with f|f
  ·exact I.lt v f
  ·exact(M.lo v f).2.1
 ·have o:=M.lo v f;obtain⟨q,p,s⟩:=o;refine⟨JJ _ f,s,?_⟩;have c:v∉fr:=λh=>q (I.fs v h).1;rw[(M.at' v).2.2 c]
  cases e:A0 v with
  |none=>rfl
  |some j=>exact absurd (I.add v j e).2.2.1 q
 ·have o:=Qf.1 f;rcases o with f|f
  ·have o:=I.wd v f;obtain⟨j,q,p⟩:=o;exact⟨j,by omega,p⟩
  ·exact⟨d+1,Qe _,(M.lo v f).2.2⟩
 ·by_cases c:v∈fr
  ·have o:=I.fs v c;obtain⟨q,p,s⟩:=o;by_cases E:P v d
   ·rw[(M.at' v).2.1 c E,s]at e;cases e
   ·rw[(M.at' v).1 c E]at e;cases e;exact⟨by omega,hdn,QN _ q,p⟩
  ·rw[(M.at' v).2.2 c]at e;have o:=I.add v j e;obtain⟨q,p,s,x⟩:=o;exact⟨by omega,p,QN _ s,x⟩
 ·have q:=I.cnt;have p:=JI.2 z;rw[Qb];omega
 ·have F:=I.cmp v k G;have o:=QH k d;rcases o with q|q
  ·have p:=F.1 q;have c:v∉fr:=λh=>by rw[(I.fs v h).2.2]at p;cases p
   rw[(M.at' v).2.2 c];exact p
  ·have y:k=d:=by omega
   subst y;exact(M.at' v).1 (F.2 rfl) G.wd.2.2
 ·subst C;obtain⟨q,p,s,u,x,h5⟩:=G;have J:=(I.cmp u d h5).2 rfl;have t:=M.nb u J h5.wd.2.2 v x;rcases t with t|t
  ·have o:=I.wd v t;obtain⟨j,L,K⟩:=o;exact absurd K (p j (by omega))
  ·exact t
structure dS (g:An) (dir:Int) (h:Nat) (P:Nat->Nat->Prop) (A:Nat->Option Nat):Prop where
 add:∀v j,A v=some j->v<g.n/\j<g.n/\WD g dir j h v
 cmp:∀v k,Gd g dir h P v k->A v=some k
theorem Gd.down{v:Nat}:∀{k:Nat},Gd g dir h P v k->∀j,j<=k->∃u,Gd g dir h P u j
 |0,G,j,b=>⟨v,by simp_all⟩
 |k+1,G,j,b=>by
  have c:=QH j (k+1);rcases c with e|e
  ·obtain⟨_,_,_,u,_,h5⟩:=G;exact Gd.down h5 j (by omega)
  ·have:j=k+1:=by omega
   subst this;exact⟨v,G⟩
theorem PS.done(I:PS g dir h P d seen [] A Sl):dS g dir h P A:=by
 refine⟨λv j e=>?_,λv k G=>?_⟩
 ·have b:=I.add v j e;obtain⟨_,f,o,p⟩:=b;exact⟨I.lt v o,f,p⟩
 ·have b:=QH k d;rcases b with c|c
  ·exact(I.cmp v k G).1 c
  ·have b:=G.down d c;obtain⟨u,q⟩:=b;exact absurd ((I.cmp u d q).2 rfl) (by simp)
end
structure Sr (a b:List AG) (n:Int) (ok:Bool):Prop where
 no:ok=false->n=0/\∀x∈a,∀y∈b,x.v≠y.v
 yes:ok=true->(∃x∈a,∃y∈b,x.v=y.v/\n=x.d+y.d)/\∀x∈a,∀y∈b,x.v=y.v->n<=x.d+y.d
def Mi (a b:List AG) (d:Nat):Prop:=∃x∈a,∃y∈b,x.v=y.v/\x.d+y.d<=(d:Int)
theorem Sr.iff{a b:List AG}{n:Int}{ok:Bool}(h:Sr a b n ok)(d:Nat):(ok=true/\n<=(d:Int))↔Mi a b d:=by
 constructor
 ·rintro⟨l,q⟩;have o:=h.yes l;obtain⟨⟨x,c,y,f,e,p⟩,_⟩:=o;exact⟨x,c,y,f,e,by omega⟩
 ·rintro⟨x,c,y,f,e,p⟩
  cases ok with
  |false=>exact absurd e ((h.no rfl).2 x c y f)
  |true=>exact⟨rfl,by have:=(h.yes rfl).2 x c y f e;omega⟩
def W9 (g:An) (u x v:Nat):Prop:=∃a b,HC g a u x/\HC g b x v/\LS g u v (a+b)
structure H9 (g:An) (hs:List Nat) (Out In:Nat->List AG):Prop where
 so:∀u,∀e∈Out u,∃m d:Nat,e=⟨(m:Int),(d:Int)⟩/\m∈hs/\m<g.n/\d<g.n/\HC g d u m
 si:∀v,∀e∈In v,∃m d:Nat,e=⟨(m:Int),(d:Int)⟩/\m∈hs/\m<g.n/\d<g.n/\HC g d m v
 no:∀u,((Out u).map (·.v)).Nodup
 ni:∀v,((In v).map (·.v)).Nodup
 co:∀pre m post,hs=pre++m::post->∀u D,LS g u m D->(∀x∈pre,¬W9 g u x m)->(⟨(m:Int),(D:Int)⟩:AG)∈Out u
 ci:∀pre m post,hs=pre++m::post->∀v D,LS g m v D->(∀x∈pre,¬W9 g m x v)->(⟨(m:Int),(D:Int)⟩:AG)∈In v
def Iq (h:Nat) (A:Nat->Option Nat) (F:Nat->List AG) (v:Nat):List AG:=match A v with
 |some d=>F v++[⟨(h:Int),(d:Int)⟩]
 |none=>F v
section
variable {g:An} {hs:List Nat} {Out In:Nat->List AG} {h:Nat}
theorem W0{A:Nat->Option Nat}{F:Nat->List AG}{v:Nat}{e:AG}:e∈Iq h A F v↔e∈F v\/∃d:Nat,A v=some d/\e=⟨(h:Int),(d:Int)⟩:=by
 unfold Iq
 cases A v with
 |none=>simp
 |some d=>simp
theorem tF{u v a b D:Nat}(c:HC g a u m)(d:HC g b m v)(f:LS g u v D)(p:a+b<=D):LS g u m a/\LS g m v b/\a+b=D:=by
 have e:a+b=D:=by
  have q:=QH (a+b) D;rcases q with o|o
  ·exact absurd (c.app d) (f.2 _ o)
  ·omega
 refine⟨⟨c,λj r l=>f.2 (j+b) (by omega) (l.app d)⟩,⟨d,λj r l=>f.2 (a+j) (by omega) (c.app l)⟩,e⟩
theorem lK(I:H9 g hs Out In){u v d:Nat}(h:Mi (Out u) (In v) d):∃m a b,m∈hs/\HC g a u m/\HC g b m v/\a+b<=d:=by
 obtain⟨x,f,y,l,e,o⟩:=h;have c:=I.so u x f;obtain⟨m,a,rfl,p,_,_,h5⟩:=c;have c:=I.si v y l;obtain⟨q,b,rfl,_,_,_,r⟩:=c;have:m=q:=by dsimp only at e;omega
 subst this;exact⟨m,a,b,p,h5,r,by dsimp only at o;omega⟩
theorem Z0(I:H9 g hs Out In):∀{D v:Nat},LS g h v D->(∀x∈hs,¬W9 g h x v)->Gd g 0 h (λv d=>Mi (Out h) (In v) d) v D:=by
 have r:∀{v j:Nat},LS g h v j->(∀x∈hs,¬W9 g h x v)->¬Mi (Out h) (In v) j:=λc e t=>by
  have f:=lK I t;obtain⟨m,a,b,o,l,p,q⟩:=f;have f:=tF l p c q;obtain⟨_,_,F⟩:=f;exact e m o ⟨a,b,l,p,by simp_all⟩
 intro D
 induction D with
 |zero=>intro v c e;exact⟨c.1,r c e⟩
 |succ k y =>
  intro v c e;have s:∀j,WD g 0 j h v↔HC g j h v:=λj=>by unfold WD;rw[if_neg (by decide)]
  refine⟨(s _).2 c.1,λj z A=>c.2 j z ((s j).1 A),r c e,?_⟩;have f:=LS.mid (a:=k) (b:=1) c;obtain⟨u,o,l⟩:=f;refine⟨u,tY.2 (HC.one.1 l.1),y o λx C=>?_⟩;rintro⟨a,b,p,q,h5⟩;have E:=h5.uniq o;exact e x C ⟨a,b+1,p,q.app l.1,by rw[show a+(b+1)=k+1 by omega];exact c⟩
theorem V3(I:H9 g hs Out In):∀{D u:Nat},LS g u h D->(∀x∈hs,¬W9 g u x h)->Gd g 1 h (λu d=>Mi (Out u) (In h) d) u D:=by
 have r:∀{v j:Nat},LS g v h j->(∀x∈hs,¬W9 g v x h)->¬Mi (Out v) (In h) j:=λc e t=>by
  have p:=lK I t;obtain⟨m,a,b,l,f,o,q⟩:=p;have p:=tF f o c q;obtain⟨_,_,F⟩:=p;exact e m l ⟨a,b,f,o,by simp_all⟩
 intro D
 induction D with
 |zero=>intro v c e;exact⟨c.1.symm,r c e⟩
 |succ k y =>
  intro v c e;have s:∀j,WD g 1 j h v↔HC g j v h:=λj=>by unfold WD;rw[if_pos rfl]
  refine⟨(s _).2 c.1,λj z A=>c.2 j z ((s j).1 A),r c e,?_⟩;obtain⟨u,l,f⟩:=LS.mid (a:=1) (b:=k) (by rw[Xv];exact c);refine⟨u,uG.2 (HC.one.1 l.1),y f λx C=>?_⟩;rintro⟨a,b,o,q,h5⟩;have E:=h5.uniq f;exact e x C ⟨1+a,b,l.1.app o,q,by rw[show 1+a+b=k+1 by omega];exact c⟩
theorem H9.nil:H9 g [] (λ_=>[]) (λ_=>[]):=⟨(λu e c=>(by cases c)),(λu e c=>(by cases c)),λu=>List.nodup_nil,λu=>List.nodup_nil,(λpre m b e=>by simp at e),(λpre m b e=>by simp at e)⟩
theorem vT{pre b:List Nat}(e:hs++[h]=pre++m::b):(pre=hs/\m=h)\/∃c,hs=pre++m::c:=by
 have d:=List.eq_nil_or_concat b;rcases d with rfl|⟨p,z,rfl⟩
 ·have:=List.append_inj' e rfl;exact .inl ⟨this.1.symm,by simp_all⟩
 ·right;refine⟨p,?_⟩;have f:hs++[h]=(pre++m::p)++[z]:=by rw[e];simp
  exact(List.append_inj' f rfl).1
theorem H9.add(I:H9 g hs Out In)(E:h∉hs)(J:h<g.n){A B:Nat->Option Nat}(G:dS g 0 h (λv d=>Mi (Out h) (In v) d) A)(H:dS g 1 h (λu d=>Mi (Out u) (In h) d) B):H9 g (hs++[h]) (Iq h B Out) (Iq h A In):=by
 have mem:∀{m:Nat},m∈hs->m∈hs++[h]:=λh=>QN _ h
 have r:∀(F:Nat->List AG) (A:Nat->Option Nat),(∀v,((F v).map (·.v)).Nodup)->(∀v,∀e∈F v,e.v≠(h:Int))->∀v,((Iq h A F v).map (·.v)).Nodup:=λF A q l v=>by
  unfold Iq
  cases A v with
  |none=>exact q v
  |some d =>
   dsimp only;rw[QB,JU];refine⟨q v,by simp,λa K b hb e=>?_⟩;have c:=Qq.1 K;obtain⟨x,L,rfl⟩:=c;simp only[QS,JP,Qc]at hb;exact l v x L (e.trans hb)
 refine⟨λu e o=>?_,λv e o=>?_,r _ _ I.no λv e o=>?_,r _ _ I.ni λv e o=>?_,λpre m s e u D t y=>?_,λpre m s e v D t y=>?_⟩
 ·have c:=W0.1 o;rcases c with o|⟨d,hd,rfl⟩
  ·have c:=I.so u e o;obtain⟨m,d,q,l,p⟩:=c;exact⟨m,d,q,mem l,p⟩
  ·have c:=H.add u d hd;obtain⟨q,l,p⟩:=c;unfold WD at p;rw[if_pos rfl]at p;exact⟨h,d,rfl,by simp_all⟩
 ·have c:=W0.1 o;rcases c with o|⟨d,hd,rfl⟩
  ·have c:=I.si v e o;obtain⟨m,d,q,l,p⟩:=c;exact⟨m,d,q,mem l,p⟩
  ·have c:=G.add v d hd;obtain⟨q,l,p⟩:=c;unfold WD at p;rw[if_neg (by decide)]at p;exact⟨h,d,rfl,by simp_all⟩
 ·have c:=I.so v e o;obtain⟨m,d,rfl,l,_⟩:=c;intro z;have:m=h:=by dsimp only at z;omega
  exact E (this ▸ l)
 ·have c:=I.si v e o;obtain⟨m,d,rfl,l,_⟩:=c;intro z;have:m=h:=by dsimp only at z;omega
  exact E (this ▸ l)
 ·have c:=vT e;rcases c with⟨rfl,rfl⟩|⟨f,C⟩
  ·exact W0.2 (.inr ⟨D,H.cmp u D (V3 I t y),rfl⟩)
  ·exact W0.2 (.inl (I.co pre m f C u D t y))
 ·have c:=vT e;rcases c with⟨rfl,rfl⟩|⟨f,C⟩
  ·exact W0.2 (.inr ⟨D,G.cmp v D (Z0 I t y),rfl⟩)
  ·exact W0.2 (.inl (I.ci pre m f C v D t y))
end
structure EZ (B bl n:Nat) (gb:Bool->Nat) (X:Bool->List SV) (L:Bool->Nat->List AG) (w:World):Prop where
 lo:B<=bl
 cell:Bk w bl [.slice (some ⟨gb true,0,none⟩) n n,.slice (some ⟨gb false,0,none⟩) n n] 88
 row:∀s,AD B 137 w (.slice (some ⟨gb s,0,none⟩) n n) (X s)
 len:∀s,(X s).length=n
 gne:gb true≠gb false
 own:∀s (v:Nat) (z:SV),(X s)[v]? = some z->AD B 142 w z.v (L s v)
 lt:∀s (v:Nat) (z:SV) b,(X s)[v]? = some z->Value.blk z.v=some b->b<w.heap.size
 apart:∀s (v:Nat) (z:SV) s' (v':Nat) (z':SV),(X s)[v]? = some z->(X s')[v']? = some z'->(s,v)≠(s',v')->∀b,Value.blk z.v=some b->Value.blk z'.v≠some b
abbrev gX (gb:Bool->Nat):Nat->Prop:=λi=>i=gb true\/i=gb false
abbrev hE:List TypeId:=[142]
section
variable {B bl n:Nat} {gb:Bool->Nat} {X:Bool->List SV} {L:Bool->Nat->List AG} {w w':World}
theorem EZ.kept{C:Nat}{es:List TypeId}(M:EZ B bl n gb X L w)(f:BQ C es w w')(c:88∉es)(d:137∉es)(e:142∉es):EZ B bl n gb X L w':=
 ⟨M.lo,M.cell.kept f c,λs=>(M.row s).kept f d,M.len,M.gne,λs v z h=>(M.own s v z h).kept f e,λs v z b h hb=>QJ (M.lt s v z b h hb) f.size,M.apart⟩
theorem EZ.up[Le w w'](M:EZ B bl n gb X L w):EZ B bl n gb X L w':=M.kept (C:=0) (es:=[]) (BQ.ext Le.e) (by simp) (by simp) (by simp)
theorem EZ.gx(M:EZ B bl n gb X L w)(s:Bool)(f:0<n):gb s<w.heap.size/\B<=gb s:=by
 obtain⟨b,c,d,e⟩:=(M.row s).lt (by intro h;have:=M.len s;rw[h]at this;simp at this;omega);have:=QL c;simp only at this;subst this;exact⟨e,d⟩
structure KQ (X:Bool->List SV) (s:Bool) (h:Nat) (c:SV) (l:List AG) (w:World):Prop where
 sl:Bh 142 w c.v l
 ap:l≠[]->∀b,Value.blk c.v=some b->∀s' (v':Nat) (z':SV),(X s')[v']? = some z'->(s',v')≠(s,h)->Value.blk z'.v≠some b
theorem KQ.kept{C:Nat}{es:List TypeId}{s:Bool}{h:Nat}{c:SV}{l:List AG}(M:KQ X s h c l w)(f:BQ C es w w')(b:142∉es):KQ X s h c l w':=⟨M.sl.kept f b,M.ap⟩
theorem EZ.cap(M:EZ B bl n gb X L w){s:Bool}{v:Nat}{z:SV}(h:(X s)[v]? = some z):KQ X s v z (L s v) w:=
 ⟨(M.own s v z h).y,λ_ b hb s' d f l c=>M.apart s v z s' d f h l (λe=>c e.symm) b hb⟩
def If (X:Bool->List SV) (s:Bool) (v:Nat) (z:SV):Bool->List SV:=λs'=>if s'=s then(X s).set v z else X s'
def Ol (L:Bool->Nat->List AG) (s:Bool) (v:Nat) (l:List AG):Bool->Nat->List AG:=λs' v'=>if(s',v')=(s,v) then l else L s' v'
theorem Xo{s:Bool}{v:Nat}{z:SV}(b:v<(X s).length):(If X s v z s)[v]? = some z:=by unfold If;rw[if_pos rfl];simp[b]
theorem Ts{s s':Bool}{v b:Nat}{z:SV}(h:(s',b)≠(s,v)):(If X s v z s')[b]? = (X s')[b]?:=by
 unfold If;by_cases e:s'=s
 ·subst e;rw[if_pos rfl,Vw,if_neg (λe=>h (by rw[e]))]
 ·rw[if_neg e]
theorem zNj(M:EZ B bl n gb X L w)(hB:B<=w.heap.size){s:Bool}{v:Nat}(hv:v<n)(hn:n<=200)(x:AG)(hl:(L s v).length<=1000){fn:FuncId}(b0:s=false/\fn=87\/s=true/\fn=89):
  Sp PP fn #[.int .i64 (v:Int),agg x,.pointer (some ⟨bl,0,none⟩)] w λ_ w'=>(∃z,EZ B bl n gb (If X s v z) (Ol L s v (L s v++[x])) w' /\
   ∀U h0 (c:SV) V,KQ X U h0 c V w->((U,h0)=(s,v)->(X s)[v]? = some c/\V=L s v)->KQ (If X s v z) U h0 c V w')/\Cm (gX gb) B hE w w':=by
 have A:v<(X s).length:=by rw[M.len];exact hv
 have f:(X s)[v]? = some (X s)[v]:=by simp
 have F:∃z,z=(X s)[v]:=⟨_,rfl⟩;obtain⟨z,hz⟩:=F;rw[<-hz]at f;have O:=M.own s v z f;have c3:=M.gx s (by omega)
 have fin:∀(u r G I:World) (J:Value),AC w u->AC u r->AD B 142 G J (L s v++[x])->Fr (AV B z.v) r G->(Value.blk J=Value.blk z.v\/(Value.blk J=some r.heap.size/\Bp r G)) ->
   AD B 137 I (.slice (some ⟨gb s,0,none⟩) n n) ((X s).set v (Fi J))->Fr (AV B (.slice (some ⟨gb s,0,none⟩) n n)) G I->I.heap.size=G.heap.size ->
   (∃z,EZ B bl n gb (If X s v z) (Ol L s v (L s v++[x])) I /\
    ∀U h0 (c:SV) V,KQ X U h0 c V w->((U,h0)=(s,v)->(X s)[v]? = some c/\V=L s v)->KQ (If X s v z) U h0 c V I)/\Cm (gX gb) B hE w I:=by
  intro u r G I J e e6 Y K H O8 W z8;have M6:=(M.up (w':=u)).up (w':=r);have z6:=lz w r;have z7:=K.size;have O6:=M6.own s v z f;have Q:(Fi J).v=J:=NL Y.sl;have a4:∀i,AV B (.slice (some ⟨gb s,0,none⟩) n n) i->i=gb s:=λi h=>(QL h.2.1).symm
  have kp:∀(C:Nat) (y:Value) (l:List AG),AD C 142 r y l->(∀b,Value.blk y=some b->Value.blk z.v≠some b)->AD C 142 I y l:=λC y l o t=>by
   have d:=o.fr K λb _ hb h=>t b hb h.2.1;have b1:AD B 137 G (.slice (some ⟨gb s,0,none⟩) n n) (X s):=(M6.row s).fro O6 K;exact d.fro b1 W
  have R7:∀s',AD B 137 G (.slice (some ⟨gb s',0,none⟩) n n) (X s'):=λs'=>(M6.row s').fro O6 K;refine⟨⟨Fi J,⟨M.lo,(M6.cell.fro O6 K).fro (R7 s) W,λs'=>?_,λs'=>?_,M.gne,λs' S y T=>?_,λs' S y b T hb=>?_,λs1 v1 y1 s2 v2 y2 o t E b hb=>?_⟩,λU h0 c V C hc=>⟨?_,?_⟩⟩,?_⟩
  ·by_cases es:s'=s
   ·subst es;unfold If;rw[if_pos rfl];exact O8
   ·unfold If;rw[if_neg es];refine(R7 s').fr W λb _ hb h=>?_;have o:=a4 b h;have t:gb s'=b:=QL hb;have d:gb s'=gb s:=by omega
    cases s<;>cases s'<;>first|exact es rfl|exact M.gne d|exact M.gne d.symm
  ·unfold If;by_cases es:s'=s
   ·subst es;rw[if_pos rfl,Jc];exact M.len _
   ·rw[if_neg es];exact M.len _
  ·by_cases q:(s',S)=(s,v)
   ·injection q with e3 e4;subst e3 e4;rw[Xo A]at T;have:=QL T;subst this;unfold Ol;rw[if_pos rfl,Q];exact Y.fro (R7 _) W
   ·rw[Ts q]at T;unfold Ol;rw[if_neg q];exact kp _ _ _ (M6.own s' S y T) λb hb=>M.apart s' S y s v z T f q b hb
  ·by_cases q:(s',S)=(s,v)
   ·injection q with e3 e4;subst e3 e4;rw[Xo A]at T;have:=QL T;subst this;rw[Q]at hb;have F:=Y.lt (by simp);obtain⟨b',o,_,d⟩:=F;rw[hb]at o;have:=QL o;omega
   ·rw[Ts q]at T;have:=M.lt s' S y b T hb;omega
  ·by_cases e1:(s1,v1)=(s,v)
   ·injection e1 with e3 e4;subst e3 e4;have q:(s2,v2)≠(s1,v1):=λe=>E e.symm;rw[Xo A]at o;have:=QL o;subst this;rw[Ts q]at t;rw[Q]at hb;intro p;rcases H with d|⟨d,_⟩
    ·rw[d]at hb;exact M.apart s2 v2 y2 s1 v1 z t f q b p hb
    ·rw[hb]at d;have h4:=QL d;have h5:=M.lt s2 v2 y2 b t p;omega
   ·rw[Ts e1]at o;by_cases q:(s2,v2)=(s,v)
    ·injection q with e3 e4;subst e3 e4;rw[Xo A]at t;have:=QL t;subst this;rw[Q];intro p;rcases H with d|⟨d,_⟩
     ·rw[d]at p;exact M.apart s1 v1 y1 s2 v2 z o f e1 b hb p
     ·rw[p]at d;have h4:=QL d;have h5:=M.lt s1 v1 y1 b o hb;omega
    ·rw[Ts q]at t;exact M.apart s1 v1 y1 s2 v2 y2 o t E b hb
  ·have C6:=(C.sl.up (w':=u)).up (w':=r)
   have S7:Bh 142 G c.v V:=by
    by_cases q:(U,h0)=(s,v)
    ·have F:=hc q;obtain⟨o,t⟩:=F;rw[f]at o;have b2:=QL o;subst b2;rw[t]at C6 ⊢;rcases H with d|⟨_,d⟩
     ·by_cases h0:L s v=[]
      ·rw[h0]at C6 ⊢;exact⟨by obtain⟨a,c,e⟩:=C6.1.shape;rw[e];exact AQ.nil' _ _ _,.inl rfl⟩
      ·have F:=O6.shape;obtain⟨a,c,e⟩:=F;have a5:=O6;rw[e]at a5;have F:=a5.blk h0;obtain⟨g,b3,h4,_,_,h5,h6,_⟩:=F;have a0:=Y;have F:=Y.shape;obtain⟨a7,c7,e7⟩:=F;rw[e7]at a0;have F:=a0.blk (by simp);obtain⟨g7,c2,h8,_,_,h9,c4,_,_,c5⟩:=F;rw[e,e7,h4,h8]at d;have b5:g7=g:=QL d;subst b5;rw[e,h4];refine⟨⟨_,c,rfl,h6,.inr ⟨g7,0,rfl,?_⟩⟩,.inr ⟨g7,_,_,rfl,h9⟩⟩;intro j u hj;have a6:=a0.sl;rw[h8]at a6;obtain⟨a',c',b7,_,a1⟩:=a6;injection b7 with i1 i2 i3;rcases a1 with a1|⟨b',o',a8,b8⟩
       ·simp at a1
       ·rw[<-i1]at a8;have b9:=QL a8;injection b9 with i4 i5;subst i4 i5;exact b8 j u (by rw[Ew,VL (Qy.1 hj).1];exact hj)
     ·exact C6.fr d λ_ _ _ _ _ h=>h
    ·refine C6.frN K λb E hb h=>?_;exact C.ap E b hb s v z f (λe=>q e.symm) h.2.1
   exact S7.fro (R7 s) W
  ·intro E b hb s' S z' h' Z;by_cases q:(s',S)=(s,v)
   ·injection q with e3 e4;subst e3 e4;rw[Xo A]at h';have:=QL h';subst this;rw[Q];intro p;rcases H with d|⟨d,_⟩
    ·rw[d]at p;exact C.ap E b hb s' S z f Z p
    ·rw[p]at d;have h4:=QL d;have h5:=C.sl.1.blt E hb;omega
   ·rw[Ts q]at h';exact C.ap E b hb s' S z' h' Z
  ·have g1:Cm (gX gb) B hE w r:=(Cm.ext e.e).trans (Cm.ext e6.e);have g2:Cm (gX gb) B hE r G:=(O6.wrote K (Qe _) (show 142∈hE by decide)).x (Qe _) λ_ h=>h;have g3:Cm (gX gb) B hE G I:=W.mono λi _ hi=>.inl (by have:=a4 i hi;subst this;cases s;exact .inr rfl;exact .inl rfl);exact(g1.trans g2).trans g3
 have a9:¬(bl=gb s\/AV B z.v bl):=by
  rintro(h|h)
  ·have o:=M.cell.h;obtain⟨g,b3,t,_,_,d,_⟩:=(M.row s).blk (by intro h0;rw[h0]at A;cases A);injection t with t;injection t with t;subst t;rw[h,d]at o;injection o with o;injection o with _ o;exact absurd o (by decide)
  ·exact M.cell.notOwn O (by decide) h
 have row:∀u,AC w u->AD B 137 u (.slice (some ⟨gb s,0,none⟩) n n) (X s):=λu e=>(M.row s).up;have c0:z.v=.slice z.a z.n z.c:=rfl;have c6:z.n=(L s v).length:=by rw[c0]at O;exact O.sl.len
 rcases b0 with⟨hs,rfl⟩|⟨hs,rfl⟩
 all_goals
  refine eN ?_;refine BM λbx w1 n1 B1=>?_;have c8:=n1.lo (u:=w);have B1:Bk w1 bx (enc x) 142:=B1;refine dT (λi=>i=gb s\/AV B z.v i) (oL [0,1,2,3,4,5,6,8] (.duo 7 (oL [9,10,11,12] .nil) 9 (.lone 7 (oL [10,11,12] .nil)))) λu e=>?_;have su:AC w u:=stp;refine Nf (B:=M.cell) (v:=.slice (some ⟨gb s,0,none⟩) n n) (by rw[hs];rfl) a9 (Nf (B:=M.cell) (v:=.slice (some ⟨gb s,0,none⟩) n n) (by rw[hs];rfl) a9 (CL (i:=v) ((row u su).sl) f λb4 o4 A4 _=>?_))
  refine tG B1 x (by
   rintro(h|h)
   ·omega
   ·have:=O.wr h;omega) ?_
  have Ou:=O.up (w':=u);refine⟨AF (A4.cell0 rfl) ⟨Fr.refl _ _,bS x λb6 r e6 _ S6=>⟨Fr.fr e6.e,?_⟩⟩,bS x λb6 r e6 _ S6=>⟨Fr.fr e6.e,AF ((A4.up (w':=r)).cell0 rfl) ⟨Fr.refl _ _,?_⟩⟩⟩
  all_goals
   have z6:=e6.e.size;have zu:=su.e.size;refine PV ⟨rfl,rfl⟩ (Ou.up (w':=r)) S6 (by simp) (by omega) (by simp only[QA,QZ];omega) λJ G Y K H=>⟨K.mono λi _ hi=>.inr hi,?_⟩;have R7:=((row u su).up (w':=r)).fro (Ou.up (w':=r)) K;refine ET rfl R7 (i:=v) f λg5 c1 _ A5=>CZ rfl (Fi J) R7 c1 A (by obtain⟨a7,c7,rfl⟩:=Y.shape;rfl) λI O8 W z8=>⟨W.mono λi _ h=>.inl (QL h.2.1).symm,?_⟩;exact fin u r G I J su e6 Y K H O8 W z8
end
structure Ip (ps:List (AG×AG)) (n:Int) (ok:Bool):Prop where
 no:ok=false->n=0/\∀p∈ps,p.1.v≠p.2.v
 yes:ok=true->(∃p∈ps,p.1.v=p.2.v/\n=p.1.d+p.2.d)/\∀p∈ps,p.1.v=p.2.v->n<=p.1.d+p.2.d
theorem Ip.skip{ps:List (AG×AG)}{n:Int}{ok:Bool}(h:Ip ps n ok){p:AG×AG}(c:p.1.v≠p.2.v\/ok=true/\n<=p.1.d+p.2.d):Ip (ps++[p]) n ok:=by
 refine⟨λh0=>⟨(h.no h0).1,λq b=>?_⟩,λl=>⟨?_,λq b e=>?_⟩⟩
 ·have f:=Qf.1 b;rcases f with b|b
  ·exact(h.no h0).2 q b
  ·rw[Qc.1 b];rcases c with c|⟨c,_⟩
   ·exact c
   ·rw[h0]at c;cases c
 ·have f:=(h.yes l).1;obtain⟨q,b,o⟩:=f;exact⟨q,QN _ b,o⟩
 ·have f:=Qf.1 b;rcases f with b|b
  ·exact(h.yes l).2 q b e
  ·rw[Qc.1 b]at e ⊢;rcases c with c|⟨_,c⟩
   ·exact absurd e c
   ·exact c
theorem Ip.take{ps:List (AG×AG)}{n:Int}{ok:Bool}(h:Ip ps n ok){p:AG×AG}(f:p.1.v=p.2.v)(c:ok=false\/p.1.d+p.2.d<n):Ip (ps++[p]) (p.1.d+p.2.d) true:=by
 refine⟨(λh0=>(by cases h0)),λ_=>⟨⟨p,by simp,f,rfl⟩,λq b e=>?_⟩⟩;have l:=Qf.1 b;rcases l with b|b
 ·rcases c with c|c
  ·exact absurd e ((h.no c).2 q b)
  ·cases ok with
   |false=>exact absurd e ((h.no rfl).2 q b)
   |true=>have:=(h.yes rfl).2 q b e;omega
 ·rw[Qc.1 b];exact Vr _
theorem Ip.all{a b:List AG}{n:Int}{ok:Bool}(h:Ip (a.flatMap λx=>b.map λy=>(x,y)) n ok):Sr a b n ok:=by
 have m:∀{x y:AG},(x,y)∈(a.flatMap λx=>b.map λy=>(x,y))↔x∈a/\y∈b:=λ{x y}=>by simp
 refine⟨λh0=>⟨(h.no h0).1,λx c y d=>(h.no h0).2 (x,y) (m.2 ⟨c,d⟩)⟩,λf=>⟨?_,λx c y d e=>(h.yes f).2 (x,y) (m.2 ⟨c,d⟩) e⟩⟩;have l:=(h.yes f).1;obtain⟨⟨x,y⟩,o,p,q⟩:=l;have:=m.1 o;exact⟨x,this.1,y,this.2,p,q⟩
def KX (l:List AG):Prop:=l.length<=1000/\∀x∈l,0<=x.d/\x.d<=1000
theorem sR{c c2:Nat}{la lb:List AG}(Q:AQ w (.slice a n c) la)(S:AQ w (.slice a2 n2 c2) lb)(T:KX la)(hb:KX lb):
  Sp PP 92 #[.slice a n c,.slice a2 n2 c2] w λv w'=>(∃m ok,v=.tuple #[.int .i64 m,.bool ok]/\Sr la lb m ok)/\AC w w':=by
 have f:=Q.len;obtain rfl:=f;have f:=S.len;obtain rfl:=f;have a0:=T.1;have a1:=hb.1;refine eN ?_;refine cP 15 [8,9,10,11] 6 7 14 la.length (λk A C u=>∃m ok,A=.int .i64 m/\C=.bool ok/\Ip ((la.take k).flatMap λx=>lb.map λy=>(x,y)) m ok/\AC w u) ⟨0,false,rfl,rfl,⟨λ_=>⟨rfl,by simp⟩,(λh=>(by cases h))⟩,stp⟩ ?_;rintro k A C G u hk ⟨m,ok,rfl,rfl,P,su⟩;refine ite (λAY=>?_) (λa4=>?_)
 ·have l:k<la.length:=by omega
  have E:=T.2 la[k] (Qa l);have f:∃x,x=la[k]:=⟨_,rfl⟩;obtain⟨x,F⟩:=f;rw[<-F]at E;refine Bv (Q.up (w':=u)) (i:=k) (x:=x) (by rw[F];simp) λb1 o1 A1=>Ai A1 rfl (Ap λbx w1 n1 X1=>?_);have a5:=n1.lo (u:=w);refine rE X1 x λU V f2 _=>?_;have V:Bk U bx (enc x) 142:=V;have t2:AC w U:=⟨Fr.st (lE w w1) f2 λi hi=>by omega⟩;have hP:((la.take (k+1)).flatMap λx=>lb.map λy=>(x,y))=((la.take k).flatMap λx=>lb.map λy=>(x,y))++lb.map λy=>(x,y):=by rw[Cs l,Jl,F];simp
  refine cP 21 [10,11] 6 7 20 lb.length (λj A C o=>∃m ok,A=.int .i64 m/\C=.bool ok/\Ip (((la.take k).flatMap λx=>lb.map λy=>(x,y))++(lb.take j).map λy=>(x,y)) m ok/\Bk o bx (enc x) 142/\AC w o) ⟨m,ok,rfl,rfl,by simp_all⟩ ?_;clear P;rintro j v3 v4 G2 o hj ⟨m,ok,rfl,rfl,P,X3,H⟩;refine ite (λW=>?_) (λX=>?_)
  ·have b:j<lb.length:=by omega
   have I:=hb.2 lb[j] (Qa b);have f:∃y,y=lb[j]:=⟨_,rfl⟩;obtain⟨y,J⟩:=f;rw[<-J]at I;have t:(((la.take k).flatMap λx=>lb.map λy=>(x,y))++(lb.take (j+1)).map λy=>(x,y))=(((la.take k).flatMap λx=>lb.map λy=>(x,y))++(lb.take j).map λy=>(x,y))++[(x,y)]:=by rw[Cs b,QB,<-Qp,J];rfl
   refine Bv (S.up (w':=o)) (i:=j) (x:=y) (by rw[J];simp) λb4 o4 A4=>Ai A4 rfl (Ap λK w4 n4 X4=>?_);have a6:=n4.lo (u:=o);refine rE X4 y λq r f5 _=>?_;have r:Bk q K (enc y) 142:=r;have t5:AC o q:=⟨Fr.st (lE o w4) f5 λi hi=>by omega⟩;have s:=X3.mv (w:=q);refine rX s rfl (rX r rfl ?_)
   have skip:(x.v≠y.v\/ok=true/\m<=x.d+y.d)->∃z e,Value.int .i64 m=.int .i64 z/\Value.bool ok=.bool e/\Ip (((la.take k).flatMap λx=>lb.map λy=>(x,y))++(lb.take (j+1)).map λy=>(x,y)) z e/\Bk q bx (enc x) 142/\AC w q:=λh =>
    ⟨m,ok,rfl,rfl,by rw[t];exact P.skip h,s,stp⟩
   have take:x.v=y.v->(ok=false\/x.d+y.d<m)->∃z e,Value.int .i64 (x.d+y.d)=.int .i64 z/\Value.bool true=.bool e/\Ip (((la.take k).flatMap λx=>lb.map λy=>(x,y))++(lb.take (j+1)).map λy=>(x,y)) z e/\Bk q bx (enc x) 142/\AC w q:=λh h' =>
    ⟨x.d+y.d,true,rfl,rfl,by rw[t];exact P.take (p:=(x,y)) h h',s,stp⟩
   refine ite (λY=>?_) (λL=>?_)
   ·cases ok with
    |false =>
     refine rX s rfl (rX r rfl ?_);refine rA ?_;exact rA ⟨rfl,b,take Y (.inl rfl)⟩
    |true =>
     refine rX s rfl (rX r rfl ?_);refine rA (ite (λZ=>?_) (λZ=>?_))
     ·refine rX s rfl (rX r rfl ?_);refine rA ?_;exact rA ⟨rfl,b,take Y (.inr Z)⟩
     ·exact rA ⟨rfl,b,skip (.inr ⟨rfl,by omega⟩)⟩
   ·exact rA ⟨rfl,b,skip (.inl L)⟩
  ·have M:j=lb.length:=by omega
   rw[M,Qg,<-hP]at P;exact rA ⟨rfl,l,m,ok,rfl,rfl,P,H⟩
 ·have O:k=la.length:=by omega
  rw[O,Qg]at P;exact⟨⟨m,ok,rfl,P.all⟩,su⟩
section
variable {B bl n:Nat} {gb:Bool->Nat} {X:Bool->List SV} {L:Bool->Nat->List AG} {w w':World}
theorem qE(M:EZ B bl n gb X L w)(Q:n<=200){s:Bool}{v d bo:Nat}(A:v<n)(hd:d<=200){h:Nat}{cs:SV}{o:List AG}(C:KQ X (!s) h cs o w)(l:Bk w bo [cs.v] 137)(x:KX (L s v))(y:KX o){fn:FuncId}{cap:List Value}
  (p:s=false/\fn=91/\cap=[.pointer (some ⟨bo,0,none⟩),.pointer (some ⟨bl,0,none⟩)]\/s=true/\fn=93/\cap=[.pointer (some ⟨bl,0,none⟩),.pointer (some ⟨bo,0,none⟩)]):
  Sp PP fn ([Value.int .i64 (v:Int),Value.int .i64 (d:Int)]++cap).toArray w λr w'=>(∃b:Bool,r=.bool b/\(b=true↔if s then Mi (L s v) o d else Mi o (L s v) d))/\AC w w':=by
 have E:v<(X s).length:=by rw[M.len];exact A
 have c:(X s)[v]? = some (X s)[v]:=by simp
 have F:∃z,z=(X s)[v]:=⟨_,rfl⟩;obtain⟨z,G⟩:=F;rw[<-G]at c;have O:=M.own s v z c;rcases p with⟨rfl,rfl,rfl⟩|⟨rfl,rfl,rfl⟩
 ·refine eN ?_;refine dQ 12 λu e=>tX l rfl nf (tX M.cell rfl nf (CL (i:=v) (((M.row false).up (w':=u)).sl) c λH J q _=>AP (q.cell0 rfl) nf (AA (sR (C.sl.1.up (w':=u)) (O.sl.up (w':=u)) y x) ?_)));rintro _ K ⟨⟨m,ok,rfl,R⟩,t⟩;refine⟨t.e,?_⟩;have I:=R.iff d
  cases ok with
  |false=>exact⟨⟨false,rfl,⟨(λh=>(by cases h)),λh=>by simp_all⟩⟩,stp⟩
  |true =>
   refine ite (λf=>?_) (λf=>?_)
   ·exact⟨⟨true,rfl,⟨λ_=>I.1 ⟨rfl,f⟩,λ_=>rfl⟩⟩,stp⟩
   ·exact⟨⟨false,rfl,⟨(λh=>(by cases h)),λh=>absurd (I.2 h).2 f⟩⟩,stp⟩
 ·refine eN ?_;refine dQ 12 λu e=>tX M.cell rfl nf (CL (i:=v) (((M.row true).up (w':=u)).sl) c λH J q _=>AP (q.cell0 rfl) nf (tX l rfl nf (AA (sR (O.sl.up (w':=u)) (C.sl.1.up (w':=u)) x y) ?_)));rintro _ K ⟨⟨m,ok,rfl,R⟩,t⟩;refine⟨t.e,?_⟩;have I:=R.iff d
  cases ok with
  |false=>exact⟨⟨false,rfl,⟨(λh=>(by cases h)),λh=>by simp_all⟩⟩,stp⟩
  |true =>
   refine ite (λf=>?_) (λf=>?_)
   ·exact⟨⟨true,rfl,⟨λ_=>I.1 ⟨rfl,f⟩,λ_=>rfl⟩⟩,stp⟩
   ·exact⟨⟨false,rfl,⟨(λh=>(by cases h)),λh=>absurd (I.2 h).2 f⟩⟩,stp⟩
end
structure cQ (g:An) (dir:Int) (h:Nat) (P:Nat->Nat->Prop) (fN fA fT:FuncId) (cN cA cT:List Value) (B:Nat) (Y:Nat->Prop) (W:World) (St:(Nat->Option Nat)->World->Prop):Prop where
 next:∀A u v,St A u->v<g.n->Sp PP fN ([Value.int .i64 (v:Int)]++cN).toArray u λrv w'=>(∃a c,rv=.slice a (Aj g dir v).length c/\AQ w' (.slice a (Aj g dir v).length c) (AH (Aj g dir v))/\∀b,Aj g dir v≠[]->Value.blk (.slice a (Aj g dir v).length c)=some b->b<W.heap.size)/\AC u w'
 test:∀A u (v d:Nat),St A u->v<g.n->d<=200->A v=none->Sp PP fT ([Value.int .i64 (v:Int),Value.int .i64 (d:Int)]++cT).toArray u λr w'=>(∃b:Bool,r=.bool b/\(b=true↔P v d))/\AC u w'
 add:∀A u (v d:Nat),St A u->v<g.n->d<g.n->A v=none->Sp PP fA ([Value.int .i64 (v:Int),agg (⟨(h:Int),(d:Int)⟩:AG)]++cA).toArray u λ_ w'=>(∃A',(∀u,A' u=if u=v then some d else A u)/\St A' w')/\Cm Y B hE u w'
 kept:∀A u u',St A u->BQ W.heap.size [4,3] u u'->St A u'
 lo:∀i,Y i->i<W.heap.size
theorem zNE{add:List (Nat×Nat)}{v d:Nat}(h:Ke add v=none)(u:Nat):Ke (add++[(v,d)]) u=if u=v then some d else Ke add u:=by
 unfold Ke at *;rw[List.find?_append];by_cases e:u=v
 ·subst e;rw[if_pos rfl];rw[Option.map_eq_none_iff]at h;rw[h];simp
 ·rw[if_neg e];have:([(v,d)]:List (Nat×Nat)).find? (λp=>decide (p.1=u))=none:=by simp;exact λh=>e h.symm
  rw[this];cases add.find? (λp=>decide (p.1=u))<;>rfl
theorem zX{seen:List Bool}{l:List Nat}{w:Nat}(h:seen[w]? = some true):NG (seen,l) w=(seen,l):=by
 unfold NG;rw[Qk,h];rfl
theorem zPz{seen:List Bool}{l:List Nat}{w:Nat}(h:seen[w]? = some false):NG (seen,l) w=(seen.set w true,l++[w]):=by
 unfold NG;rw[Qk,h];rfl
theorem pG{l:List Nat}(h:l.Nodup)(d:k<l.length):l[k]∉l.take k:=λb=>by
 have c:=QI.1 b;obtain⟨i,hi,e⟩:=c;rw[VI]at e;rw[Qm]at hi;have:=(VQ h).1 e;omega
theorem rR{dir:Int}{h:Nat}{P:Nat->Nat->Prop}{fN fA fT:FuncId}{cN cA cT:List Value}{Y:Nat->Prop}{St:(Nat->Option Nat)->World->Prop}(hg:Bb g)(hd:dir=0\/dir=1)(hh:h<g.n)(C:cQ g dir h P fN fA fT cN cA cT B Y w St)(S0:St (λ_=>none) w)(hB:B<=w.heap.size){p:Nat->Nat->Bool}(hp:∀v d,P v d↔p v d=true):
  Sp PP 90 #[.agg #[.func (.func fN) #[] cN.toArray,.func (.func fA) #[] cA.toArray],.int .i64 (g.n:Int),.int .i64 (h:Int),.func (.func fT) #[] cT.toArray] w λ_ w'=>(∃A,dS g dir h P A/\A=Ke (MJ (Aj g dir) p g.n h)/\St A w')/\Cm Y B hE w w':=by
 have h2:=hg.ok.n2
 have stk:∀A u u',St A u->Bp u u'->St A u':=λA u u' S e=>C.kept A u u' S (BQ.ext e)
 refine en Aa rfl ?_
 refine BM λbs w1 n1 B1=>?_
 have B1:Bk w1 bs [.func (.func fN) #[] cN.toArray,.func (.func fA) #[] cA.toArray] 145:=B1
 have hbs:=n1.lo (u:=w)
 refine Id false rfl rfl (by omega) λgb w2 O2 s2 hgb=>?_
 have z1:=Le.size (a:=w) (b:=w1)
 refine Fs rfl O2 (x:=false) (i:=h) (by simp_all) λg' hg' hB' A=>?_
 have hgg:gb=g':=Option.some.inj hg'
 subst hgg
 refine Kk rfl true O2 hg' (by simp;omega) rfl λw3 O3 f3 s3 z3=>?_
 have t3:AC w w3:=⟨Fr.st (Le.e (a:=w) (b:=w2)) f3 λi hi=>by have:=hi.1;omega⟩
 refine LE (vs:=[.int .i64 (h:Int)]) [(h:Int)] rfl rfl rfl (by decide) λbf w5 n5 S5=>?_
 have t5:AC w3 w5:=⟨n5.ext⟩
 have hbf:=n5.lo
 have O5:=(O3.mono (B':=w.heap.size) z1).up (w':=w5)
 have B5:Bk w5 bs [.func (.func fN) #[] cN.toArray,.func (.func fA) #[] cA.toArray] 145:=(B1.mv (w:=w2)).fro O2 f3 (by decide) |>.mv
 have S5':Bh 3 w5 (.slice (some ⟨bf,0,none⟩) 1 1) (AH [h]):=⟨S5,.inr ⟨bf,_,_,rfl,n5.blk⟩⟩
 have tw5:AC w w5:=stp
 refine HG Aa 23 [11,12,13,14,15] 9 10 (λv9 v10 u=>∃d seen fr A Sl fa fc,v9=.slice fa (List.length fr) fc/\v10=.int .i64 ((d:Nat):Int)/\PS g dir h P d seen fr A Sl/\St A u/\AD w.heap.size 4 u (.slice (some ⟨gb,0,none⟩) g.n g.n) seen /\
   Bh 3 u (.slice fa fr.length fc) (AH fr)/\(fr≠[]->∀b,Value.blk (.slice fa fr.length fc)=some b->w.heap.size<=b)/\Bk u bs [.func (.func fN) #[] cN.toArray,.func (.func fA) #[] cA.toArray] 145/\Cm Y B hE w u/\∃adds,A=Ke adds/\TN (Aj g dir) p (g.n+1 - d) d seen adds fr=MJ (Aj g dir) p g.n h) (λ_ v _=>g.n+1 - (Go.RowKit.intOf v).toNat) rfl
  ⟨0,_,[h],_,_,some ⟨bf,0,none⟩,1,rfl,rfl,PS.first hh,stk _ _ _ S0 tw5.e,O5,S5',λ_ b hb=>?_,B5,Cm.ext tw5.e,[],rfl,rfl⟩ ?_
 ·have:=Option.some.inj hb
  simp only at this
  have:=Le.size (a:=w) (b:=w3)
  omega
 rintro v9 v10 G u ⟨d,seen,fr,A,Sl,fa,fc,rfl,rfl,I,S,O,SY,hSY,Bs,F0,adds,hA0,hrs⟩
 have zu:=F0.size
 refine ite (λKw=>?_) (λhle=>?_)
 ·have hfn:fr≠[]:=λh=>by simp_all
  have hdn:=I.small hfn
  have hfl:fr.length<=g.n:=SU I.fnd λv hv=>I.lt v (I.fs v hv).1
  have hfb:∀b,Value.blk (.slice fa fr.length fc)=some b->b<u.heap.size:=λb hb=>SY.1.blt (by intro h;apply hfn;simpa[AH]using h) hb
  refine jX Aa 31 [12,13,14,15] 11 30 fr.length (λk v u2=>∃seen2 l A2,SrM g dir h P d seen2 fr A Sl (fr.take k) l A2/\St A2 u2/\AD w.heap.size 4 u2 (.slice (some ⟨gb,0,none⟩) g.n g.n) seen2/\AD u.heap.size 3 u2 v (AH l) /\
    Bh 3 u2 (.slice fa fr.length fc) (AH fr)/\Bk u2 bs [.func (.func fN) #[] cN.toArray,.func (.func fA) #[] cA.toArray] 145/\Cm Y B hE w u2/\u.heap.size<=u2.heap.size/\∃adds2,A2=Ke adds2/\(fr.take k).foldl (MX (Aj g dir) p d) ⟨seen,[],adds⟩=⟨seen2,l,adds2⟩) rfl rfl
   ⟨seen,[],A,I.begin,S,O,AD.nil _ _ _,SY,Bs,F0,Nat.le_refl _,adds,hA0,rfl⟩ ?_
  rintro k v11 G2 u2 hk ⟨seen2,l,A2,M,S2,O2,L2,SY2,Bs2,F2,z2,adds2,hA2f,hfo⟩
  refine ite (λAY=>?_) (λhge=>?_)
  ·have hk1:k<fr.length:=by omega
   have q_:∃v,v=fr[k]:=⟨_,rfl⟩
   obtain⟨v,hv⟩:=q_
   have hvm:v∈fr:=by simp_all
   have hvn:v<g.n:=I.lt v (I.fs v hvm).1
   have hvq:v∉fr.take k:=by rw[hv];exact pG I.fnd hk1
   have hA2:A2 v=none:=by rw[(M.at' v).2.2 hvq];exact(I.fs v hvm).2.2
   have htk:fr.take (k+1)=fr.take k++[v]:=by simp_all
   have hvi:(AH fr)[k]? = some (v:Int):=by rw[hv];exact WN hk1
   refine Bv SY2.1 hvi λb4 o4 A4=>AF (A4.cell0 rfl) ?_
   refine AA (C.test A2 u2 v d S2 hvn (by omega) hA2) ?_
   rintro _ u3 ⟨⟨b,rfl,hb⟩,e3⟩
   cases b with
   |true =>
    have M':=M.skip hvq (hb.1 rfl)
    rw[<-htk]at M'
    have z3:=e3.e.size
    exact rA ⟨rfl,hk1,seen2,l,A2,M',stk _ _ _ S2 e3.e,O2.up,L2.up,SY2.up,Bs2.mv,F2.trans (Cm.ext e3.e),by omega,adds2,hA2f,by rw[htk,List.foldl_append,hfo];show MX _ _ _ _ _=_;unfold MX;rw[if_pos ((hp v d).1 (hb.1 rfl))]⟩
   |false =>
    have hnp:¬P v d:=λh=>by simp_all
    refine Cx (B:=Bs2) rfl ?_
    refine AJ (cs:=enc (⟨(h:Int),(d:Int)⟩:AG)) rfl ?_
    refine AA (C.add A2 u3 v d (stk _ _ _ S2 e3.e) hvn hdn hA2) ?_
    rintro _ u4 ⟨⟨A3,hA3,S4⟩,f4⟩
    have z3:=e3.e.size
    have z4:=f4.size
    have O4:=(O2.up (w':=u3)).keptX f4 (λi hi _ h=>by have:=C.lo i h;omega) (by decide)
    have L4:=(L2.up (w':=u3)).keptX f4 (λi hi _ h=>by have:=C.lo i h;omega) (by decide)
    have SY4:=(SY2.up (w':=u3)).keptX f4 (λi hi h=>by have:=C.lo i h;have:=hSY hfn i hi;omega) (by decide)
    have Bs4:=(Bs2.mv (w:=u3)).keptX f4 (λh=>by have:=C.lo _ h;omega) (by decide)
    have F4:=(F2.trans (Cm.ext e3.e)).trans f4
    refine Cx (B:=Bs4) rfl ?_
    refine AA (C.next A3 u4 v S4 hvn) ?_
    rintro _ u5 ⟨⟨na,nc,rfl,SN,hna⟩,e5⟩
    have z5:=e5.e.size
    have hnl:=NE hg dir v
    refine jX Aa 51 [14,15] 11 50 (Aj g dir v).length (λj v6 u6=>∃seen6 l6,Rz g dir h P d seen6 fr A Sl (fr.take k) ((Aj g dir v).take j) l6 A2/\St A3 u6/\AD w.heap.size 4 u6 (.slice (some ⟨gb,0,none⟩) g.n g.n) seen6/\AD u.heap.size 3 u6 v6 (AH l6) /\
      Bh 3 u6 (.slice fa fr.length fc) (AH fr)/\Bk u6 bs [.func (.func fN) #[] cN.toArray,.func (.func fA) #[] cA.toArray] 145/\Cm Y B hE w u6/\u.heap.size<=u6.heap.size/\AQ u6 (.slice na (Aj g dir v).length nc) (AH (Aj g dir v))/\((Aj g dir v).take j).foldl NG (seen2,l)=(seen6,l6)) rfl rfl
     ⟨seen2,l,M.on,stk _ _ _ S4 e5.e,O4.up (w':=u5),L4.up (w':=u5),SY4.up (w':=u5),Bs4.mv (w:=u5),F4.trans (Cm.ext e5.e),by omega,SN,rfl⟩ ?_
    clear M S2 O2 L2 SY2 Bs2 F2 S4 O4 L4 SY4 Bs4 F4 SN
    rintro j v6 G6 u6 hj ⟨seen6,l6,N,S6,O6,L6,SY6,Bs6,F6,z6,SN6,hfs⟩
    refine ite (λhlt2=>?_) (λhge2=>?_)
    ·have hj1:j<(Aj g dir v).length:=by omega
     have q_:∃y,y=(Aj g dir v)[j]:=⟨_,rfl⟩
     obtain⟨y,hy⟩:=q_
     have hyi:(AH (Aj g dir v))[j]? = some (y:Int):=by rw[hy];exact WN hj1
     have hym:y∈Aj g dir v:=by simp_all
     have hyn:y<g.n:=IX hg.ok hym
     have hty:(Aj g dir v).take (j+1)=(Aj g dir v).take j++[y]:=by simp_all
     have hlen:l6.length<=g.n:=SU N.lnd λw hw=>(N.lo w hw).2.1
     have hil:(AH l6).length=l6.length:=PQ l6
     have q_:=zPB (seen:=seen6) (z:=y) (by rw[N.len];exact hyn)
     obtain⟨sb,hsb⟩:=q_
     refine Bv SN6 hyi λb7 o7 A7=>AF (A7.cell0 rfl) ?_
     refine Bv (i:=y) O6.sl hsb λb8 o8 A8=>AF (A8.cell0 rfl) ?_
     cases sb with
     |true =>
      have N':=N.old hyn hsb
      rw[<-hty]at N'
      exact rA ⟨rfl,hj1,seen6,l6,N',S6,O6,L6,SY6,Bs6,F6,z6,SN6,by rw[hty,List.foldl_append,hfs];exact zX hsb⟩
     |false =>
      have N':=N.new hyn (by rw[hsb];simp) ((I.fs v hvm).2.1.step hd hym)
      rw[<-hty]at N'
      refine Fs rfl O6 (i:=y) hsb λg9 hg9 hB9 A9=>?_
      have hgg:gb=g9:=Option.some.inj hg9
      subst hgg
      refine CZ rfl true O6 hg9 (by rw[N.len];exact hyn) rfl λw9 O9 f9 z9=>?_
      have q9:BQ w.heap.size [4,3] u6 w9:=O6.wrote f9 (Nat.le_refl _) (by decide)
      have L9:=L6.fro O6 f9 (by decide)
      have SY9:=SY6.fro O6 f9 (by decide)
      have Bs9:=Bs6.fro O6 f9 (by decide)
      have SN9:=SN6.kept q9 λb hb=>hna b (λh0=>by simp_all) hb
      refine HS (y:Int) rfl rfl (by decide) λb10 w10 e10 _ S10=>?_
      have z10:=e10.e.size
      refine FR ⟨rfl,rfl⟩ (L9.up (w':=w10)) S10 (by omega) (by simp only[List.length_cons,List.length_nil];omega) λv11 w11 O11 f11=>?_
      have q11:BQ w.heap.size [4,3] w10 w11:=(L9.up (w':=w10)).wrote f11 zu (by decide)
      have z11:=f11.size
      have O11':AD u.heap.size 3 w11 v11 (AH (l6++[y])):=by rw[YS];exact O11
      have S11:=C.kept _ _ _ S6 ((q9.trans (BQ.ext e10.e)).trans q11)
      have SY11:=(SY9.up (w':=w10)).frN f11 λb _ hb h=>by have:=hfb b hb;have:=h.1;omega
      have F11:Cm Y B hE w w11:=Fr.new (Fr.trans (Fr.new F6 f9 λi hi=>hi.1) (Fr.fr e10.e)) f11 λi hi=>by have:=hi.1;omega
      exact rA ⟨rfl,hj1,_,l6++[y],N',S11,(O9.up (w':=w10)).fro (L9.up (w':=w10)) f11 (by decide),O11',SY11,(Bs9.mv (w:=w10)).fro (L9.up (w':=w10)) f11 (by decide),F11,by omega,
       (SN9.up (w':=w10)).kept q11 λb hb=>hna b (λh0=>by simp_all) hb,by rw[hty,List.foldl_append,hfs];exact zPz hsb⟩
    ·have hjl:j=(Aj g dir v).length:=by omega
     rw[hjl,List.take_length]at N
     have M':=N.done hvq hnp hA3
     rw[<-htk]at M'
     refine rA ⟨rfl,hk1,seen6,l6,A3,M',S6,O6,L6,SY6,Bs6,F6,z6,adds2++[(v,d)],?_,?_⟩
     ·funext u
      rw[hA3,zNE (by simp_all),hA2f]
     ·rw[hjl,List.take_length]at hfs
      rw[htk,List.foldl_append,hfo]
      show MX _ _ _ _ _=_
      unfold MX
      rw[if_neg (λh=>hnp ((hp v d).2 h))]
      dsimp only
      rw[hfs]
  ·have hkl:k=fr.length:=by omega
   rw[hkl,List.take_length]at M hfo
   have I':=M.next I hfn
   have q_:=L2.shape
   obtain⟨aa,ac,rfl⟩:=q_
   rw[PQ]at L2 ⊢
   refine rA ⟨⟨d+1,seen2,l,A2,_,aa,ac,rfl,rfl,I',S2,O2,L2.y,λhl b hb=>?_,Bs2,F2,adds2,hA2f,?_⟩,?_⟩
   ·obtain⟨b',h1,h3,_⟩:=L2.lt (by intro h;apply hl;simpa[AH]using h)
    rw[hb]at h1
    have:=Option.some.inj h1
    omega
   ·rw[<-hrs,show g.n+1 - d=(g.n+1 - (d+1))+1 by omega]
    conv=>rhs;unfold TN
    rw[if_neg hfn,hfo]
   ·show g.n+1 - (((d:Nat):Int)+1).toNat<g.n+1 - (((d:Nat):Int)).toNat
    omega
 ·have hfe:fr=[]:=by simp_all
  subst hfe
  have hlast:A=Ke (MJ (Aj g dir) p g.n h):=by
   rw[hA0,<-hrs]
   generalize g.n+1 - d=m
   cases m<;>rfl
  exact⟨⟨A,I.done,hlast,S⟩,F0⟩
theorem zLY{x:CP}{r:List BP}(U:Bb g)(R:IF w x g r):
  Sp PP 85 #[agg x] w λv w'=>(∃v' L,v=.tuple #[v',.int .i64 0]/\L=No g/\AD w.heap.size 3 w' v' (AH L))/\AC w w':=by
 have h2:=U.ok.n2;have l1:=R.off.len;have Y:=R.rof.len;have q1:=Mk g.n g.es;have q3:=Mk g.n r;have hI:=U.rowI.len;have hJ:=(U.rowR R.rev').len;refine eN ?_;refine BM λC w1 n1 o=>?_;have o:Bk w1 C (enc x) 82:=o;refine rG o x (AA (Tv U (R.up (w':=w1))) ?_);rintro _ w2 ⟨rfl,e2⟩;refine LE (α:=AG) (vs:=[]) [] rfl rfl rfl (by decide) λZ w4 n4 S4=>?_;have t4:AC w2 w4:=⟨n4.ext⟩;have OH:AD w.heap.size 212 w4 (.slice (some ⟨Z,0,none⟩) 0 0) ([]:List AG):=AD.nil' _ _ _ _;refine BM λb w5 n5 B5=>?_;have a0:=n5.lo (u:=w);have B5:Bk w5 b [.slice (some ⟨Z,0,none⟩) 0 0] 207:=B5;have N5:NQ w.heap.size w5 b (some ⟨Z,0,none⟩) 0 []:=⟨a0,B5,OH.up (w':=w5),by simp⟩;refine Hm (rX o rfl (rI (g.n:Int) ?_))
 refine cN 20 [5] 19 g.n (λk u=>∃l:List AG,SM w.heap.size b l u/\Dq MK l l.length/\l.Perm ((List.range k).map (NJ g))/\Bk u C (enc x) 82/\AC w u)
  ⟨[],⟨_,_,N5⟩,λc c0 cn=>absurd cn (by simp),.refl _,o.mv,stp⟩ ?_
 ·rintro k G u hk ⟨l,S,hh,E,o,su⟩;have a1:=E.length_eq;rw[Qr,Vm]at a1;refine ite (λAY=>?_) (λb3=>?_)
  ·have a4:k<g.n:=by omega
   have m1:=SQ g.es k;have m2:=Eh g.es (k+1);have m3:=SQ r k;have m4:=Eh r (k+1)
   have F:∀p,Value.blk (.slice x.off.a x.off.n x.off.c)=some p->¬(p≠C/\w.heap.size<=p):=λp h h'=>by
    have:=R.off.blt (by intro h0;rw[h0]at q1;cases q1) h;omega
   have H:∀p,Value.blk (.slice x.rof.a x.rof.n x.rof.c)=some p->¬(p≠C/\w.heap.size<=p):=λp h h'=>by
    have:=R.rof.blt (by intro h0;rw[h0]at q3;cases q3) h;omega
   refine dD (λi=>i≠C/\w.heap.size<=i) (Hn 30 0) λs e1=>tX o rfl (λh=>h.1 rfl) (rF (k+1) (CL (R.off.up (w':=s)) (KY (v:=k+1) (by omega)) λb7 o7 A7 h7=>AP (A7.cell0 rfl) (F _ h7) (tX o rfl (λh=>h.1 rfl) (CL (R.off.up (w':=s)) (KY (v:=k) (by omega)) λb6 o6 A6 h6=>AP (A6.cell0 rfl) (F _ h6) (IV (y:=(Be g.es (k+1):Int) - Be g.es k) rfl (by omega) (tX o rfl (λh=>h.1 rfl) (rF (k+1) (CL (R.rof.up (w':=s)) (KY (v:=k+1) (by omega)) λb7 o7 A7 h7=>AP (A7.cell0 rfl) (H _ h7) (IV (y:=(Be g.es (k+1):Int) - Be g.es k+Be r (k+1)) rfl (by omega) (tX o rfl (λh=>h.1 rfl) (CL (R.rof.up (w':=s)) (KY (v:=k) (by omega)) λb6 o6 A6 h6=>AP (A6.cell0 rfl) (H _ h6) ?_)))))))))));have I:=U4 R.rev' k;have⟨y,z⟩:∃y:AG,y=⟨(k:Int),(Be g.es (k+1):Int) - Be g.es k+Be r (k+1) - Be r k⟩:=⟨_,rfl⟩;have a5:y=NJ g k:=by rw[z,I];rfl
   refine IV (y:=y.d) (by rw[z]) (by rw[z];show _/\_;dsimp only;omega) (As (cs:=enc y) (by rw[z];rfl) (UR ?_));have S1:=S.up (w':=s);refine AA (lM (t8 w.heap.size b) (y:=y) S1 (by omega) hh (zO8 S1 (by omega))) ?_;rintro _ u2 ⟨⟨l2,a6,S2,q⟩,f2⟩;have t2:AC w u2:=⟨BQ.st (lE w s) f2 (Qe _)⟩;refine⟨Fr.mono f2 λi _ hi=>⟨λh=>by subst h;exact absurd (hi.cells (o.mv (w:=s)).h) (by decide),hi.1⟩,?_⟩;refine rA ⟨rfl,a4,l2,S2,q,?_,(o.mv (w:=s)).kept f2 (by decide),t2⟩;rw[Jm,QB,QS,JP,<-a5];exact a6.trans (E.append_right _)
  ·have a7:k=g.n:=by omega
   rw[a7]at E
   refine IG Aa 53 [7,8] 6 (λn v u=>∃(out:List Nat) (l':List AG),l'.length=n/\SM w.heap.size b l' u/\Dq MK l' l'.length/\PH g out l'/\AD w.heap.size 3 u v (AH out)/\AC w u) rfl
    ⟨l.length,[],l,rfl,S,hh,⟨λy z=>by obtain⟨v,_,e⟩:=Qq.1 (E.mem_iff.1 z);exact⟨v,e.symm⟩,E,.nil,λa ha=>(by cases ha)⟩,AD.nil _ _ _,su⟩ ?_
   rintro n v G2 u2 ⟨out,l',rfl,S2,q,I2,O2,J⟩;have a8:=I2.perm.length_eq;rw[Qb,Qr,Qr,Vm]at a8;obtain⟨a,c,Q⟩:=S2;refine(Hq.v (P := PP) (t := 205) (name := "Len") (vs := []) (f := 471) Q.ld oY).out rfl rfl rfl rfl ?_
   rintro _ _ ⟨rfl,rfl⟩;refine ite (λKw=>?_) (λb2=>?_)
   ·have K:l'≠[]:=λh=>by simp_all
    refine AA (RG (t8 w.heap.size b) (RX:=λx v=>v=.iface 212 (agg x)) (zQo w.heap.size b) ⟨a,c,Q⟩ K q) ?_;rintro v2 V ⟨⟨rfl,Y,M,S3,a9⟩,f3⟩;have t3:AC w V:=⟨BQ.st J.e f3 (Qe _)⟩;have O3:=O2.kept f3 (by decide);have⟨k0,O,I3⟩:=I2.pop K M (tI oA q);have b0:(CA l' 0).v=(k0:Int):=by rw[O];rfl
    refine Tu (Ap λbx u4 n4 X4=>?_);have b4:=n4.lo (u:=V);refine rE X4 (CA l' 0) λA X5 f5 _=>?_;have t5:AC V A:=⟨Fr.st (lE V u4) f5 λi hi=>by omega⟩;have X5:Bk A bx (enc (CA l' 0)) 212:=X5;refine Cx (B:=X5) (v:=.int .i64 (k0:Int)) (by rw[<-b0];rfl) (bS (k0:Int) λb6 W e6 _ S6=>Ax (u:=w) ⟨rfl,rfl⟩ ((O3.up (w':=A)).up (w':=W)) S6 (by rw[PQ];omega) λv7 u7 O7 f7 s7=>?_);have T:=M.length_eq;rw[QA]at T;refine⟨Y.length,by omega,out++[k0],Y,rfl,?_,a9,I3,by rw[YS];exact O7,stp⟩
    ·obtain⟨a3,c3,Q3⟩:=S3;have X:=(Q3.up (w':=A)).up (w':=W);exact⟨a3,c3,X.lo,X.cell.fro ((O3.up (w':=A)).up (w':=W)) f7 (by decide),X.row.fro ((O3.up (w':=A)).up (w':=W)) f7 (by decide),X.size⟩
   ·have b1:l'=[]:=Qn (by omega);subst b1;exact⟨⟨v,out,rfl,I2.done,O2⟩,J⟩
theorem zKI{x:CP}{r:List BP}{l v:Nat}{w0:World}[Le w0 w][Le w1 w](o:Bb g)(e:Bk w1 l (enc x) 82)(R:IF w0 x g r)(H:v<g.n):
  Sp PP 86 #[.int .i64 (v:Int),.pointer (some ⟨l,0,none⟩)] w λu w'=>(∃a c,u=.slice a (Aj g 0 v).length c/\AQ w' (.slice a (Aj g 0 v).length c) (AH (Aj g 0 v))/\∀b,Aj g 0 v≠[]->Value.blk (.slice a (Aj g 0 v).length c)=some b->b<w0.heap.size)/\AC w w':=by
 have I:=R.off.len;have J:=R.to.len;have K:=Mk g.n g.es;have L:=PL g.es;have M:=o.rowI.n2;refine eN ?_;refine dQ 15 λf O=>?_;have p:=SQ g.es v;have y:=Eh g.es (v+1);refine tX e rfl nf (tX e rfl nf ?_);refine CL (R.off.up (w':=f)) (KY (v:=v) (by omega)) λQ S z _=>AP (z.cell0 rfl) nf (tX e rfl nf (rF (v+1) (CL (R.off.up (w':=f)) (KY (v:=v+1) (by omega)) λT U A _=>AP (A.cell0 rfl) nf ?_)));have q:=R.to.up (w':=f);refine Nl (Be g.es v) (Be g.es (v+1)) q p (by omega) ?_;have d:=q.part (Be g.es v) (Be g.es (v+1)) p (by omega);rw[U0 o.rowI.ris v]at d;have C:Dc (Fk g.es v)=AH (Aj g 0 v):=by rw[jK];unfold Dc AH Ht;rw[VM];rfl
 rw[C]at d
 have s:Be g.es (v+1) - Be g.es v=(Aj g 0 v).length:=by
  have:=d.len;rw[this];simp[AH]
 rw[s]at d;refine⟨⟨_,_,congrArg (λn=>Value.slice _ n _) s,d,λb h hb=>?_⟩,stp⟩;have t:=(ZP x.to.a x.to.n _ x.to.c _ _ _).symm.trans hb;have V:0<(Aj g 0 v).length:=JI.2 h
 have E:Dc g.es≠[]:=by
  intro h0;have W:(Dc g.es).length=0:=by rw[h0];rfl
  omega
 have F:=R.to.lt E;obtain⟨X,G,h5⟩:=F;rw[G]at t;have:=QL t;omega
theorem zKJ{x:CP}{r:List BP}{l v:Nat}{w0:World}[Le w0 w][Le w1 w](o:Bb g)(e:Bk w1 l (enc x) 82)(R:IF w0 x g r)(I:v<g.n):
  Sp PP 88 #[.int .i64 (v:Int),.pointer (some ⟨l,0,none⟩)] w λy w'=>(∃a c,y=.slice a (Aj g 1 v).length c/\AQ w' (.slice a (Aj g 1 v).length c) (AH (Aj g 1 v))/\∀b,Aj g 1 v≠[]->Value.blk (.slice a (Aj g 1 v).length c)=some b->b<w0.heap.size)/\AC w w':=by
 have J:=R.rof.len;have K:=R.rev.len;have L:=Mk g.n r;have M:=PL r;have p:=o.rowR R.rev';have O:=p.n2;refine eN ?_;refine dQ 15 λf Q=>?_;have q:=SQ r v;have z:=Eh r (v+1);refine tX e rfl nf (tX e rfl nf ?_);refine CL (R.rof.up (w':=f)) (KY (v:=v) (by omega)) λS T A _=>AP (A.cell0 rfl) nf (tX e rfl nf (rF (v+1) (CL (R.rof.up (w':=f)) (KY (v:=v+1) (by omega)) λU V C _=>AP (C.cell0 rfl) nf ?_)));have s:=R.rev.up (w':=f);refine Nl (Be r v) (Be r (v+1)) s q (by omega) ?_;have d:=s.part (Be r v) (Be r (v+1)) q (by omega);rw[U0 p.ris v]at d;have E:Dc (Fk r v)=AH (Aj g 1 v):=by rw[eU o.er R.rev'];unfold Dc AH Ht;rw[VM];rfl
 rw[E]at d
 have t:Be r (v+1) - Be r v=(Aj g 1 v).length:=by
  have:=d.len;rw[this];simp[AH]
 rw[t]at d;refine⟨⟨_,_,congrArg (λn=>Value.slice _ n _) t,d,λb h hb=>?_⟩,stp⟩;have u:=(ZP x.rev.a x.rev.n _ x.rev.c _ _ _).symm.trans hb;have W:0<(Aj g 1 v).length:=JI.2 h
 have F:Dc r≠[]:=by
  intro h0;have X:(Dc r).length=0:=by rw[h0];rfl
  omega
 have G:=R.rev.lt F;obtain⟨Y,H,h5⟩:=G;rw[H]at u;have:=QL u;omega
section
variable {P:Program} {T:Ce} {n:Nat} {Q:KS} {F0:Nat->Value} {w:World}
theorem Zv{ops:Array Oper}(m:Nat)(b:List Nat)(d:Nat)(I:KW)(e:Kb m b [d] (.region i ops true)=true)(h:BI P T n (.region i ops true) { Q with nrm:=λl w'=>I (l d) w' } F0 w)
  (o:∀f g w',I f w'->Q.nrm (IH m b [(d,f)] g F0) w'):BI P T n (.region i ops true) Q F0 w:=
 kT (c:=.seq (.region i ops true) .skip) (y:=.skip) m b d I rfl e h o
theorem Yw{ops:Array Oper}(m:Nat)(b:List Nat)(d e:Nat)(I:Value->KW)(f:Kb m b [d,e] (.region i ops true)=true)(p:BI P T n (.region i ops true) { Q with nrm:=λh w'=>I (h d) (h e) w' } F0 w)
  (q:∀l o g w',I l o w'->Q.nrm (IH m b [(d,l),(e,o)] g F0) w'):BI P T n (.region i ops true) Q F0 w:=
 lB (c:=.seq (.region i ops true) .skip) (y:=.skip) m b d e I rfl f p q
end
section
variable {B bl n:Nat} {gb:Bool->Nat} {X:Bool->List SV} {L:Bool->Nat->List AG} {w w':World}
theorem EZ.ne(M:EZ B bl n gb X L w)(p:0<n){b:Nat}{cs:Array Value}{e:TypeId}{z:Nat×Nat}(h:w.heap[b]? = some (.cells cs e z))(d:e≠137):¬gX gb b:=by
 have f:∀s,b≠gb s:=λs hb=>by
  obtain⟨g,l,c,_,_,o,_⟩:=(M.row s).blk (by intro h0;have:=M.len s;rw[h0]at this;simp at this;omega);injection c with c;injection c with c;subst c hb;rw[o]at h;injection h with h;injection h with _ h;exact d h.symm
 rintro(h|h)
 ·exact f true h
 ·exact f false h
def GI (L:Bool->Nat->List AG) (s:Bool) (h:Nat) (A:Nat->Option Nat):Bool->Nat->List AG:=λs' v=>if s'=s then Iq h A (L s) v else L s' v
theorem sV(s:Bool)(h:Nat):GI L s h (λ_=>none)=L:=by
 funext s' v;unfold GI Iq;by_cases e:s'=s
 ·subst e;rw[if_pos rfl]
 ·rw[if_neg e]
theorem jG{s:Bool}{h v:Nat}{A:Nat->Option Nat}(b:A v=none):GI L s h A s v=L s v:=by
 unfold GI Iq;rw[if_pos rfl,b]
theorem zOM{s:Bool}{h v d:Nat}{A l:Nat->Option Nat}(o:A v=none)(b:∀u,l u=if u=v then some d else A u):Ol (GI L s h A) s v (GI L s h A s v++[⟨(h:Int),(d:Int)⟩])=GI L s h l:=by
 funext s' v';unfold Ol;by_cases e:(s',v')=(s,v)
 ·injection e with c f;subst c f;rw[if_pos rfl,jG o];unfold GI Iq;rw[if_pos rfl,b,if_pos rfl]
 ·rw[if_neg e];unfold GI;by_cases c:s'=s
  ·subst c;have f:v'≠v:=λf=>e (by rw[f]);rw[if_pos rfl,if_pos rfl];unfold Iq;rw[b,if_neg f]
  ·rw[if_neg c,if_neg c]
structure MP (w:World) (x:CP) (g:An) (B bl br:Nat) (gb bc:Bool->Nat) (h:Nat) (c:Bool->SV) (K:Bool->List AG) (L:Bool->Nat->List AG) (s:Bool) (A:Nat->Option Nat) (u:World) (X:Bool->List SV):Prop where
 M:EZ B bl g.n gb X (GI L s h A) u
 C:∀s',KQ X s' h (c s') (K s') u
 a:A h=none->(X s)[h]? = some (c s)
 o:s=false->(X true)[h]? = some (c true)
 bc:∀s',Bk u (bc s') [(c s').v] 137
 br:Bk u br (enc x) 82
 st:Bp w u
theorem MP.src{w W:World}[Le w W]{x:CP}{r:List BP}{B bl J h:Nat}{gb t:Bool->Nat}{c:Bool->SV}{K:Bool->List AG}{L:Bool->Nat->List AG}{s:Bool}(O:Bb g)(R:IF w x g r)(hh:h<g.n)(hB:B<=w.heap.size)(a0:w.heap.size<=B)(Q:∀s',¬gX gb (t s')/\t s'<W.heap.size)(a1:J<W.heap.size)
  (S:∀i,gX gb i->i<W.heap.size)(hK:K s=L s h)(T:∀v,KX (L s v))(y:KX (K (!s))):
  cQ g (if s then 1 else 0) h (λv d=>if s then Mi (L s v) (K (!s)) d else Mi (K (!s)) (L s v) d) (if s then 88 else 86) (if s then 89 else 87) (if s then 93 else 91)
   [.pointer (some ⟨J,0,none⟩)] [.pointer (some ⟨bl,0,none⟩)] (if s then[.pointer (some ⟨bl,0,none⟩),.pointer (some ⟨t false,0,none⟩)] else[.pointer (some ⟨t true,0,none⟩),.pointer (some ⟨bl,0,none⟩)]) B (gX gb) W
   (λA u=>W.heap.size<=u.heap.size/\∃X,MP w x g B bl J gb t h c K L s A u X):=by
 have U:=O.ok.n2;have zW:=lz w W;refine⟨?_,?_,?_,?_,S⟩
 ·rintro A u v ⟨V,X,H⟩ l;have su:AC w u:=⟨H.st⟩
  cases s with
  |false =>
   refine(zKI (w0:=w) (w1:=u) O H.br R l).mono ?_;rintro _ I ⟨⟨a,c,rfl,Y,Z⟩,e⟩;exact⟨⟨a,c,rfl,Y,λb p hb=>QJ (Z b p hb) zW⟩,e⟩
  |true =>
   refine(zKJ (w0:=w) (w1:=u) O H.br R l).mono ?_;rintro _ I ⟨⟨a,c,rfl,Y,Z⟩,e⟩;exact⟨⟨a,c,rfl,Y,λb p hb=>QJ (Z b p hb) zW⟩,e⟩
 ·rintro A u v d ⟨V,X,H⟩ l hd E;have q:=jG (L:=L) (s:=s) (h:=h) E
  cases s with
  |false =>
   refine(qE H.M U (s:=false) l hd (H.C true) (H.bc true) (by rw[q];exact T v) y (.inl ⟨rfl,rfl,rfl⟩)).mono ?_;rintro r I ⟨⟨b,rfl,hb⟩,e⟩;rw[q]at hb;exact⟨⟨b,rfl,hb⟩,e⟩
  |true =>
   refine(qE H.M U (s:=true) l hd (H.C false) (H.bc false) (by rw[q];exact T v) y (.inr ⟨rfl,rfl,rfl⟩)).mono ?_;rintro r I ⟨⟨b,rfl,hb⟩,e⟩;rw[q]at hb;exact⟨⟨b,rfl,hb⟩,e⟩
 ·rintro A u v d ⟨V,X,H⟩ l hd E;have q:=jG (L:=L) (s:=s) (h:=h) E;have hD:=zNj H.M (by omega) l U (⟨(h:Int),(d:Int)⟩:AG) (s:=s) (by rw[q];exact(T v).1) (fn:=if s then 89 else 87) (by cases s;exact .inl ⟨rfl,rfl⟩;exact .inr ⟨rfl,rfl⟩);refine hD.mono ?_;rintro r I ⟨⟨z,M2,hC⟩,f⟩;refine⟨⟨λu=>if u=v then some d else A u,λ_=>rfl,by have:=f.size;omega,If X s v z,⟨?_,λs'=>hC s' h (c s') (K s') (H.C s') λe=>?_,λe=>?_,λe=>?_,λs'=>(H.bc s').keptX f (Q s').1 (by decide),H.br.keptX f (H.M.ne (by omega) H.br.h (by decide)) (by decide),?_⟩⟩,f⟩
  ·rw[zOM E λ_=>rfl]at M2;exact M2
  ·injection e with e1 F;subst e1 F;exact⟨H.a E,by rw[q];exact hK⟩
  ·by_cases F:h=v
   ·rw[if_pos F]at e;cases e
   ·rw[if_neg F]at e;rw[Ts λG=>F (by injection G)];exact H.a e
  ·rw[Ts λG=>by injection G with G;rw[<-G]at e;cases e];exact H.o e
  ·refine Fr.st H.st f λi hi=>?_;rcases hi with hi|hi
   ·have:=(H.M.gx true (by omega)).2;have:=(H.M.gx false (by omega)).2;rcases hi with hi|hi<;>omega
   ·have:=hi.1;omega
 ·rintro A u u' ⟨V,X,H⟩ f;exact⟨by have:=f.size;omega,X,⟨H.M.kept f (by decide) (by decide) (by decide),λs'=>(H.C s').kept f (by decide),H.a,H.o,λs'=>(H.bc s').kept f (by decide),H.br.kept f (by decide),Fr.st H.st f λi hi=>by have:=hi.1;omega⟩⟩
theorem Tn{l:List AG}(y:g.n<=200)(h:∀e∈l,∃m d:Nat,e=⟨(m:Int),(d:Int)⟩/\m<g.n/\d<g.n)(f:(l.map (·.v)).Nodup):KX l:=by
 refine⟨?_,λe o=>?_⟩
 ·have q:(l.map λe=>e.v.toNat).Nodup:=by
   unfold List.Nodup at f ⊢;rw[QY]at f ⊢;refine f.imp_of_mem λ{a b} r hb p e=>p ?_;have c:=h a r;obtain⟨m,d,rfl,_⟩:=c;have c:=h b hb;obtain⟨z,d',rfl,_⟩:=c;dsimp only at e ⊢;omega
  have s:=SU (n:=g.n) q λx t=>by
   have c:=Qq.1 t;obtain⟨e,o,rfl⟩:=c;have c:=h e o;obtain⟨m,d,rfl,u,_⟩:=c;dsimp only;omega
  rw[Qr]at s;omega
 ·have c:=h e o;obtain⟨m,d,rfl,u,A⟩:=c;dsimp only;omega
theorem H9.hb{q:List Nat}{b o:Nat->List AG}(I:H9 g q b o)(p:g.n<=200)(v:Nat):KX (b v)/\KX (o v):=
 ⟨Tn p (λe c=>by obtain⟨m,d,f,_,h,l,_⟩:=I.so v e c;exact⟨m,d,f,h,l⟩) (I.no v),Tn p (λe c=>by obtain⟨m,d,f,_,h,l,_⟩:=I.si v e c;exact⟨m,d,f,h,l⟩) (I.ni v)⟩
theorem PU(a b:OA)(n m c d:Nat):∀u∈[Value.slice a n c,.slice b m d],u.oneCell'=true:=by intro u e;simp at e;rcases e with rfl|rfl<;>rfl
theorem RJ(f f':Fn)(a b c d:Array Value):∀u∈[Value.func f a b,.func f' c d],u.oneCell'=true:=by intro u e;simp at e;rcases e with rfl|rfl<;>rfl
theorem zNU(g:An):(No g).Perm (List.range g.n):=by
 refine(JM ?_ Xj).2 λa=>SK a _;refine(Up (TP g) (List.range g.n)).imp λ{a b} h e=>?_;subst e;exact(TP g).irr a h
theorem sK{a b:List AG}{d:Nat}:Mi a b d↔Ok a b d=true:=by simp[Mi,Ok]
theorem zP8(L:Rv)(s:Bool)(h:Nat)(A:Nat->Option Nat):TA L s h A=GI L s h A:=by
 funext s' v;unfold TA GI Iq;split
 ·cases A v<;>rfl
 ·rfl
theorem zHQ{x:CP}{r:List BP}{w:World}(hg:Bb g)(R:IF w x g r):
  Sp PP 51 #[agg x] w λv w'=>(∃gb bl X L q,L=Ss g/\v=.tuple #[.agg #[.slice (some ⟨gb true,0,none⟩) g.n g.n,.slice (some ⟨gb false,0,none⟩) g.n g.n],.int .i64 0]/\EZ w.heap.size bl g.n gb X L w'/\(∀v,v<g.n->v∈q)/\H9 g q (L true) (L false))/\AC w w':=by
 have h2:=hg.ok.n2;refine eN ?_;refine BM λE w1 n1 B1=>?_;have B1:Bk w1 E (enc x) 82:=B1;have e9:=n1.lo (u:=w);refine Ap λbz w2 n2 Z2=>?_;have f0:=n2.lo (u:=w);have d2:=Z2.lt;refine rG B1 x (AA (Tv hg (R.up (w':=w2))) ?_);rintro _ w3 ⟨rfl,e3⟩;refine rG B1 x (AA (zLY hg (R.up (w':=w3))) ?_);rintro _ W ⟨⟨vh,q,rfl,c2,OH⟩,e4⟩;have hp:q.Perm (List.range g.n):=by rw[c2];exact zNU g
 refine iF (· rfl) ?_;have c3:q.length=g.n:=by rw[hp.length_eq,Vm]
 have a7:(AH q).length=g.n:=by rw[PQ];exact c3
 have Y:=OH.shape;obtain⟨ah,ch,hv⟩:=Y;rw[a7]at hv;subst hv;have z4:=lz w W
 refine Zv 29 [] 7 (λv u=>∃t y bl,v=.pointer (some ⟨bl,0,none⟩)/\t≠y/\W.heap.size<=bl/\AD w.heap.size 137 u (.slice (some ⟨t,0,none⟩) g.n g.n) (List.replicate g.n (⟨none,0,0⟩:SV))/\AD w.heap.size 137 u (.slice (some ⟨y,0,none⟩) g.n g.n) (List.replicate g.n (⟨none,0,0⟩:SV)) /\
  Bk u bl [.slice (some ⟨t,0,none⟩) g.n g.n,.slice (some ⟨y,0,none⟩) g.n g.n] 88/\AC W u) rfl ?_ ?_
 ·refine dT (λi=>W.heap.size<=i) (.one 0 (.one 2 (.tri 1 (.duo 3 (.one 4 (.lone 5 (.lone 6 .nil))) 5 (.lone 3 (.one 4 (.lone 6 .nil)))) 3 (.duo 1 (.one 4 (.lone 5 (.lone 6 .nil))) 5 (.lone 1 (.one 4 (.lone 6 .nil)))) 5 (.duo 1 (.lone 3 (.one 4 (.lone 6 .nil))) 3 (.lone 1 (.one 4 (.lone 6 .nil))))))) λu e=>?_;have z5:=lz W u
  have c4:List.replicate g.n (⟨none,0,0⟩:SV)≠[]:=by
   intro h;have h3:=congrArg List.length h;rw[List.length_replicate]at h3;have h4:g.n=0:=h3;have:=hg.ok.n1;omega
  refine⟨Id (α:=SV) ⟨none,0,0⟩ rfl rfl (by omega) λt uA Og a8 a0=>⟨Fr.fr a8.e,⟨Id (α:=SV) ⟨none,0,0⟩ rfl rfl (by omega) λy uB Oi F S=>⟨Fr.fr F.e,As (cs:=[.slice (some ⟨t,0,none⟩) g.n g.n,.slice (some ⟨y,0,none⟩) g.n g.n]) rfl (Ap λbl Z H Zl=>⟨Fr.fr H.e,?_⟩)⟩,Ap λbl uB H Zl=>⟨Fr.fr H.e,Id (α:=SV) ⟨none,0,0⟩ rfl rfl (by omega) λy Z Oi J S=>⟨Fr.fr J.e,As (cs:=[.slice (some ⟨t,0,none⟩) g.n g.n,.slice (some ⟨y,0,none⟩) g.n g.n]) rfl (?_)⟩⟩⟩⟩,Id (α:=SV) ⟨none,0,0⟩ rfl rfl (by omega) λy uA Oi a8 S=>⟨Fr.fr a8.e,⟨Id (α:=SV) ⟨none,0,0⟩ rfl rfl (by omega) λt uB Og F a0=>⟨Fr.fr F.e,As (cs:=[.slice (some ⟨t,0,none⟩) g.n g.n,.slice (some ⟨y,0,none⟩) g.n g.n]) rfl (Ap λbl Z H Zl=>⟨Fr.fr H.e,?_⟩)⟩,Ap λbl uB H Zl=>⟨Fr.fr H.e,Id (α:=SV) ⟨none,0,0⟩ rfl rfl (by omega) λt Z Og J a0=>⟨Fr.fr J.e,As (cs:=[.slice (some ⟨t,0,none⟩) g.n g.n,.slice (some ⟨y,0,none⟩) g.n g.n]) rfl (?_)⟩⟩⟩⟩,Ap λbl uA H Zl=>⟨Fr.fr H.e,⟨Id (α:=SV) ⟨none,0,0⟩ rfl rfl (by omega) λt uB Og F a0=>⟨Fr.fr F.e,Id (α:=SV) ⟨none,0,0⟩ rfl rfl (by omega) λy Z Oi J S=>⟨Fr.fr J.e,As (cs:=[.slice (some ⟨t,0,none⟩) g.n g.n,.slice (some ⟨y,0,none⟩) g.n g.n]) rfl (?_)⟩⟩,Id (α:=SV) ⟨none,0,0⟩ rfl rfl (by omega) λy uB Oi F S=>⟨Fr.fr F.e,Id (α:=SV) ⟨none,0,0⟩ rfl rfl (by omega) λt Z Og J a0=>⟨Fr.fr J.e,As (cs:=[.slice (some ⟨t,0,none⟩) g.n g.n,.slice (some ⟨y,0,none⟩) g.n g.n]) rfl (?_)⟩⟩⟩⟩⟩
  all_goals
   have l1:=Og.lt c4;have l2:=Oi.lt c4;obtain⟨_,j1,_,l1⟩:=l1;obtain⟨_,j2,_,l2⟩:=l2;have j1:=QL j1;have j2:=QL j2;simp only at j1 j2;have zA:=lz u uA;have zB:=lz uA uB;have zC:=lz uB Z;have c5:=H.lo (u:=W);have d3:=(Og.mono (B':=w.heap.size) (Qw z4 (Le.size (a:=W)))).up (w':=Z);have d4:=(Oi.mono (B':=w.heap.size) (Qw z4 (Le.size (a:=W)))).up (w':=Z);have a9:=Zl.mv (w:=Z);refine rS a9 [.slice (some ⟨t,0,none⟩) g.n g.n,.slice (some ⟨y,0,none⟩) g.n g.n] (PU _ _ _ _ _ _) λuD BD fD _=>⟨fD.mono λi _ hi=>by omega,?_⟩;have tD:AC W uD:=⟨Fr.st (lE W Z) fD λi hi=>by omega⟩;exact⟨t,y,bl,rfl,by omega,c5,d3.frc fD a9,d4.frc fD a9,BD,tD⟩
 rintro _ G5 w5 ⟨t,y,bl,rfl,S,c5,OG,OI,BL,t5⟩;have Y:∃gb:Bool->Nat,gb true=t/\gb false=y:=⟨λb=>if b then t else y,rfl,rfl⟩;obtain⟨gb,rfl,rfl⟩:=Y;have z5:=t5.e.size;refine AJ (cs:=[.func (.func 86) #[] #[.pointer (some ⟨E,0,none⟩)],.func (.func 87) #[] #[.pointer (some ⟨bl,0,none⟩)]]) rfl (Ap λb8 w6 n6 X6=>?_);have f1:=n6.lo (u:=w5);refine rS X6 [.func (.func 86) #[] #[.pointer (some ⟨E,0,none⟩)],.func (.func 87) #[] #[.pointer (some ⟨bl,0,none⟩)]] (RJ _ _ _ _ _ _) λw7 X7 f7 _=>?_;have X7:Bk w7 b8 [.func (.func 86) #[] #[.pointer (some ⟨E,0,none⟩)],.func (.func 87) #[] #[.pointer (some ⟨bl,0,none⟩)]] 145:=X7;have t7:AC w5 w7:=⟨Fr.st (lE w5 w6) f7 λi hi=>by omega⟩;refine AJ (cs:=[.func (.func 88) #[] #[.pointer (some ⟨E,0,none⟩)],.func (.func 89) #[] #[.pointer (some ⟨bl,0,none⟩)]]) rfl (Ap λb9 w8 n8 X8=>?_);have f5:=n8.lo (u:=w7);refine rS X8 [.func (.func 88) #[] #[.pointer (some ⟨E,0,none⟩)],.func (.func 89) #[] #[.pointer (some ⟨bl,0,none⟩)]] (RJ _ _ _ _ _ _) λT X9 f9 _=>?_;have X9:Bk T b9 [.func (.func 88) #[] #[.pointer (some ⟨E,0,none⟩)],.func (.func 89) #[] #[.pointer (some ⟨bl,0,none⟩)]] 145:=X9;have t9:AC w7 T:=⟨Fr.st (lE w7 w8) f9 λi hi=>by omega⟩
 have b0:∀(v:Nat) (z:SV),(List.replicate g.n (⟨none,0,0⟩:SV))[v]? = some z->z=⟨none,0,0⟩:=λv z h=>by
  rw[Vk]at h;split at h
  ·exact(QL h).symm
  ·cases h
 have M9:EZ w.heap.size bl g.n gb (λ_=>List.replicate g.n (⟨none,0,0⟩:SV)) (λ_ _=>[]) T:=by
  refine⟨by omega,(BL.mv (w:=w7)).mv (w:=T),λs=>?_,λs=>by simp,S,λs v z h=>?_,λs v z b h hb=>?_,λs v z s' v' z' h h' b1 b hb=>?_⟩
  ·cases s
   ·exact(OI.up (w':=w7)).up (w':=T)
   ·exact(OG.up (w':=w7)).up (w':=T)
  ·rw[b0 v z h];exact AD.nil _ _ _
  ·rw[b0 v z h]at hb;cases hb
  ·rw[b0 v z h]at hb;cases hb
 have d5:AD w.heap.size 3 T (.slice ah g.n ch) (AH q):=((OH.mono (B':=w.heap.size) (Le.size (a:=w))).up (w':=w5)).up (w':=T);have B9:=B1.mv (w:=T);have Z9:=Z2.mv (w:=T);have d6:=X7.mv (w:=T);have d7:AC w T:=stp;clear OG OI BL OH B1 Z2
 refine cN 43 [10,11,12,13] 42 g.n (λk u=>∃X L,EZ w.heap.size bl g.n gb X L u/\H9 g (q.take k) (L true) (L false)/\L=(q.take k).foldl (TF g) (λ_ _=>[])/\Bk u b8 [.func (.func 86) #[] #[.pointer (some ⟨E,0,none⟩)],.func (.func 87) #[] #[.pointer (some ⟨bl,0,none⟩)]] 145 /\
   Bk u b9 [.func (.func 88) #[] #[.pointer (some ⟨E,0,none⟩)],.func (.func 89) #[] #[.pointer (some ⟨bl,0,none⟩)]] 145/\Bk u E (enc x) 82/\Bk u bz [.slice none 0 0,.slice none 0 0] 88/\AD w.heap.size 3 u (.slice ah g.n ch) (AH q)/\AC w u)
  ⟨_,_,M9,H9.nil,rfl,d6,X9,B9,Z9,d5,d7⟩ ?_
 rintro k G u hk ⟨X,L,M,I,b2,X8,X9,Br,Bz,OH,su⟩;have zu:=su.e.size;refine ite (λAY=>?_) (λf6=>?_)
 ·have a1:k<q.length:=by omega
  have Y:∃h,h=q[k]:=⟨_,rfl⟩;obtain⟨h,hh⟩:=Y
  have Q:h<g.n:=by
   have:h∈List.range g.n:=hp.mem_iff.1 (by rw[hh];exact Qa a1);exact Q0.1 this
  have d8:q.Nodup:=hp.nodup_iff.2 Xj;have d9:h∉q.take k:=by rw[hh];exact pG d8 a1
  have c6:q.take (k+1)=q.take k++[h]:=by rw[Cs a1,hh]
  have e0:(AH q)[k]? = some (h:Int):=by rw[hh];exact WN a1
  have c7:(X true)[h]? = some ((X true)[h]'(by rw[M.len];exact Q)):=by simp
  have c8:(X false)[h]? = some ((X false)[h]'(by rw[M.len];exact Q)):=by simp
  have Y:∃c:Bool->SV,(X true)[h]? = some (c true)/\(X false)[h]? = some (c false):=⟨λb=>if b then _ else _,c7,c8⟩;obtain⟨c,b3,b7⟩:=Y;clear c7 c8;refine Bv (i:=k) OH.sl e0 λb4 o4 A4=>AF (A4.cell0 rfl) (Yw 46 [] 12 13 (λv1 v2 l=>∃bo bi,v1=.pointer (some ⟨bo,0,none⟩)/\v2=.pointer (some ⟨bi,0,none⟩)/\u.heap.size<=bo/\u.heap.size<=bi/\Bk l bo [(c true).v] 137/\Bk l bi [(c false).v] 137/\AC u l) rfl ?_ ?_)
  ·refine dT (λi=>u.heap.size<=i) (oL [0,1,2,3,4,5,6,7,8,9] (.two 10 (oL [11,12,13] .nil) 11 (oL [10,12,13] .nil))) λu1 e1=>?_;have H:∀{b:Nat},b<u.heap.size->¬u.heap.size<=b:=λh h'=>by omega
   refine tX M.cell rfl (H M.cell.lt) (CL (i:=h) (((M.row true).up (w':=u1)).sl) b3 λb5 o5 A5 h5=>AP (A5.cell0 rfl) (H (by have:=QL h5;simp only at this;have:=(M.gx true (by omega)).1;omega)) (tX M.cell rfl (H M.cell.lt) (CL (i:=h) (((M.row false).up (w':=u1)).sl) b7 λb6 o6 A6 h6=>AP (A6.cell0 rfl) (H (by have:=QL h6;simp only at this;have:=(M.gx false (by omega)).1;omega)) ?_)));refine⟨Ap λbo v1 m1 Bo=>⟨Fr.fr m1.e,Ap λbi v2 m2 Bi=>⟨Fr.fr m2.e,?_⟩⟩,Ap λbi v1 m2 Bi=>⟨Fr.fr m2.e,Ap λbo v2 m1 Bo=>⟨Fr.fr m1.e,?_⟩⟩⟩
   all_goals
    have i1:=m1.lo (u:=u);have i2:=m2.lo (u:=u);have l1:=Bo.lt;have l2:=Bi.lt;have i3:=m1.b;have i4:=m2.b;have i5:=m1.s;have i6:=m2.s;have b1:bo≠bi:=by omega
    refine rS (Bo.mv (w:=v2)) [(c true).v] (by intro u hu;simp at hu;subst hu;exact RY _) λv3 e2 f3 _=>⟨f3.mono λi _ hi=>by omega,?_⟩;refine rS ((Bi.mv (w:=v2)).fr f3 (λh=>b1 h.symm)) [(c false).v] (by intro u hu;simp at hu;subst hu;exact RY _) λv4 e5 f4 _=>⟨f4.mono λi _ hi=>by omega,?_⟩;have t4:AC u v4:=⟨Fr.st (Fr.st (lE u v2) f3 λi hi=>by omega) f4 λi hi=>by omega⟩;exact⟨bo,bi,rfl,rfl,i1,i2,e2.fr f4 b1,e5,t4⟩
  rintro _ _ G2 l ⟨bo,bi,rfl,rfl,f8,g2,Bo,Bi,t2⟩;have z2:=t2.e.size;have Y:∃U:Bool->Nat,U true=bo/\U false=bi:=⟨λb=>if b then bo else bi,rfl,rfl⟩;obtain⟨U,rfl,rfl⟩:=Y;have Y:∃K:Bool->List AG,K true=L true h/\K false=L false h:=⟨λb=>L b h,rfl,rfl⟩;obtain⟨K,a4,a5⟩:=Y;have M2:=M.up (w':=l);have g1:=M.gx true (by omega);have g0:=M.gx false (by omega);have a6:∀i,gX gb i->i<u.heap.size:=λi hi=>by rcases hi with rfl|rfl;exact g1.1;exact g0.1
  have c0:∀s,¬gX gb (U s)/\U s<l.heap.size:=λs=>by
   have l1:=Bo.lt;have l2:=Bi.lt;cases s
   ·exact⟨λh=>by have:=a6 _ h;omega,l2⟩
   ·exact⟨λh=>by have:=a6 _ h;omega,l1⟩
  have hb:=I.hb h2
  have Cp:∀s,KQ X s h (c s) (K s) l:=λs=>by
   cases s
   ·rw[a5];exact M2.cap b7
   ·rw[a4];exact M2.cap b3
  have Bc:∀s,Bk l (U s) [(c s).v] 137:=λs=>by
   cases s
   ·exact Bi
   ·exact Bo
  have e6:AC w l:=stp;have H0:MP w x g w.heap.size bl E gb U h c K L false (λ_=>none) l X:=⟨by rw[sV];exact M2,Cp,λ_=>b7,λ_=>b3,Bc,Br.mv,e6.e⟩
  have C0:cQ g 0 h (λv d=>Mi (K true) (L false v) d) 86 87 91 [.pointer (some ⟨E,0,none⟩)] [.pointer (some ⟨bl,0,none⟩)] [.pointer (some ⟨U true,0,none⟩),.pointer (some ⟨bl,0,none⟩)] w.heap.size (gX gb) l (λA u'=>l.heap.size<=u'.heap.size/\∃X,MP w x g w.heap.size bl E gb U h c K L false A u' X):=
   MP.src (s:=false) hg R Q (Qe _) (Qe _) c0 (by have:=Br.lt;omega) (λi hi=>by have:=a6 i hi;omega) a5 (λv=>(hb v).2) (by show KX (K true);rw[a4];exact(hb h).1)
  refine Cq (ds:=[.func (.func 86) #[] #[.pointer (some ⟨E,0,none⟩)],.func (.func 87) #[] #[.pointer (some ⟨bl,0,none⟩)]]) (B:=X8.mv (w:=l)) rfl rfl (AA (rR hg (.inl rfl) Q C0 ⟨Qe _,X,H0⟩ (by omega) (p:=λv d=>Ok (K true) (L false v) d) λv d=>sK) ?_);rintro _ u3 ⟨⟨A,SI,hA,_,X3,V⟩,f3⟩;have g3:AC w u3:=⟨V.st⟩;have c9:=(X8.mv (w:=l)).keptX f3 (M2.ne (by omega) (X8.mv (w:=l)).h (by decide)) (by decide);have c1:=(X9.mv (w:=l)).keptX f3 (M2.ne (by omega) (X9.mv (w:=l)).h (by decide)) (by decide);have d0:=(Bz.mv (w:=l)).keptX f3 (M2.ne (by omega) (Bz.mv (w:=l)).h (by decide)) (by decide)
  have own:∀{v v':World} {X:Bool->List SV} {L:Bool->Nat->List AG},EZ w.heap.size bl g.n gb X L v->Cm (gX gb) w.heap.size hE v v'->AD w.heap.size 3 v (.slice ah g.n ch) (AH q)->AD w.heap.size 3 v' (.slice ah g.n ch) (AH q):=λ{v v' X L} M f O=>by
   refine O.keptX f (λi _ hi=>?_) (by decide);obtain⟨g',g4,h4,_,_,h5,_⟩:=O.blk (by intro h0;rw[h0]at a7;simp at a7;omega);rw[h4]at hi;have:=QL hi;simp only at this;subst this;exact M.ne (by omega) h5 (by decide)
  have e7:=own M2 f3 (OH.up (w':=l));have H4:MP w x g w.heap.size bl E gb U h c K (GI L false h A) true (λ_=>none) u3 X3:=⟨by rw[sV];exact V.M,V.C,λ_=>V.o rfl,(λe=>(by cases e)),V.bc,V.br,V.st⟩;have z3:=f3.size
  have C1:cQ g 1 h (λv d=>Mi (GI L false h A true v) (K false) d) 88 89 93 [.pointer (some ⟨E,0,none⟩)] [.pointer (some ⟨bl,0,none⟩)] [.pointer (some ⟨bl,0,none⟩),.pointer (some ⟨U false,0,none⟩)] w.heap.size (gX gb) u3 (λA' u'=>u3.heap.size<=u'.heap.size/\∃X,MP w x g w.heap.size bl E gb U h c K (GI L false h A) true A' u' X):=
   MP.src (s:=true) hg R Q (Qe _) (Qe _) (λs=>⟨(c0 s).1,by have:=(c0 s).2;omega⟩) (by have:=V.br.lt;omega) (λi hi=>by have:=a6 i hi;omega) a4 (λv=>(hb v).1) (by show KX (K false);rw[a5];exact(hb h).2)
  refine Cq (ds:=[.func (.func 88) #[] #[.pointer (some ⟨E,0,none⟩)],.func (.func 89) #[] #[.pointer (some ⟨bl,0,none⟩)]]) (B:=c1) rfl rfl (AA (rR hg (.inr rfl) Q C1 ⟨Qe _,X3,H4⟩ (by omega) (p:=λv d=>Ok (GI L false h A true v) (K false) d) λv d=>sK) ?_);rintro _ u4 ⟨⟨A2,SO,d1,_,X4,H5⟩,f4⟩;rw[a4]at SI hA;rw[a5]at SO d1;have I':=I.add d9 Q SI SO;rw[<-c6]at I';refine rA ⟨rfl,by omega,X4,GI (GI L false h A) true h A2,H5.M,I',by rw[c6,VF,<-b2];show _=TF g L h;unfold TF;simp only[zP8];rw[<-hA,<-d1],c9.keptX f4 (V.M.ne (by omega) c9.h (by decide)) (by decide),c1.keptX f4 (V.M.ne (by omega) c1.h (by decide)) (by decide),H5.br,d0.keptX f4 (V.M.ne (by omega) d0.h (by decide)) (by decide),own V.M f4 e7,⟨H5.st⟩⟩
 ·have e8:k=q.length:=by omega
  rw[e8,Qg]at I b2;refine Cq (ds:=[.slice (some ⟨gb true,0,none⟩) g.n g.n,.slice (some ⟨gb false,0,none⟩) g.n g.n]) (B:=M.cell) rfl rfl (rS Bz [.slice (some ⟨gb true,0,none⟩) g.n g.n,.slice (some ⟨gb false,0,none⟩) g.n g.n] (PU _ _ _ _ _ _) λl B2 f2 _=>?_);have B2:Bk l bz [.slice (some ⟨gb true,0,none⟩) g.n g.n,.slice (some ⟨gb false,0,none⟩) g.n g.n] 88:=B2;have t2:AC w l:=⟨Fr.st su.e f2 λi hi=>by omega⟩;have g5:bz<W.heap.size:=QJ d2 (Le.size (a:=w2));have M':EZ w.heap.size bl g.n gb X L l:=⟨M.lo,M.cell.fr f2 (by omega),λs=>(M.row s).frc f2 Bz,M.len,M.gne,λs v z h=>(M.own s v z h).frc f2 Bz,λs v z b h hb=>QJ (M.lt s v z b h hb) f2.size,M.apart⟩;refine AR (B:=B2) rfl ?_;exact⟨⟨gb,bl,X,L,q,by rw[b2,c2];rfl,rfl,M',λv hv=>hp.mem_iff.2 (Q0.2 hv),I⟩,t2⟩
theorem xZ{t e d:TypeId}{z:Value}{b:Nat}(f:MR P t N e)(l:AX P e z 1 b)(o:DQ P e d){cs:Array Value}{v:Value}(hi:cs[i]? = some v)(p:i<N)(w:World):
  (Instr.index t (.agg cs) (.int .i64 i)).run P w=.ok v w:=by
 have q:=info_parts l.h;obtain⟨j,r,_,c,_⟩:=q;unfold Instr.index;have h0:(0:Int)<=(i:Int):=by omega
 have s:(i:Int)<(N:Int):=by omega
 simp[asIntOf,underlying,f.h,sizeOf,typeInfo,r,c,h0,p,part,isAgg,o.h,hi]
theorem YM{k:KW}{c:PW}{w:World}{t e d:TypeId}{z:Value}{b:Nat}[f:MR P t N e][h:AX P e z 1 b][l:DQ P e d]{cs:Array Value}{v:Value}(hi:cs[i]? = some v)(o:i<N)(p:k v w):
  AI P (Instr.index t (.agg cs) (.int .i64 i)) k c w:=AI.of (xZ f h l hi o w) p
theorem zPL(l:List Nat)(b:k<l.length):(l.take (k+1)).sum=(l.take k).sum+l[k]:=by
 rw[Cs b,XV];simp
theorem Rx{l:List Nat}{c:Nat}(h:∀x∈l,x<=c):l.sum<=l.length*c:=by
 induction l with
 |nil=>simp
 |cons a l b =>
  have e:=h a Qs;have f:=b λx d=>h x (QF _ d);simp only[List.sum_cons,QA,Jo];omega
theorem zL8(l:List Nat)(k:Nat):(l.take k).sum<=l.sum:=by
 conv=>rhs;rw[<-JW k l,XV]
 omega
def Fd (n:Nat) (L:Rv) (s:Bool):List Nat:=(List.range n).map λv=>(L s v).length
def Ii (n:Nat) (L:Rv) (k:Nat):Nat:=((([true,false].take k).map λs=>(Fd n L s).sum)).sum
theorem zJ{B bl n:Nat}{gb:Bool->Nat}{X:Bool->List SV}{L:Rv}{w:World}(M:EZ B bl n gb X L w)(hn:n<=200)(H:∀s v,v<n->(L s v).length<=1000):
  Sp PP 49 #[.agg #[.slice (some ⟨gb true,0,none⟩) n n,.slice (some ⟨gb false,0,none⟩) n n]] w λv w'=>v=.int .i64 (GX n L:Nat)/\AC w w':=by
 have h:∀s,(Fd n L s).sum<=200000:=λs=>by
  have S:=Rx (l:=Fd n L s) (c:=1000) λx T=>by
   have b:=Qq.1 T;obtain⟨v,r,rfl⟩:=b;exact H s v (Q0.1 r)
  have U:(Fd n L s).length=n:=by unfold Fd;simp
  rw[U]at S;omega
 refine eN ?_;refine BM λbo w1 n1 q=>?_;have q:Bk w1 bo [.slice (some ⟨gb true,0,none⟩) n n,.slice (some ⟨gb false,0,none⟩) n n] 88:=q;refine rX q rfl (rX q rfl ?_);refine Sk (zero:=[.slice none 0 0,.slice none 0 0]) (sz:=1) (cs:=[.slice (some ⟨gb true,0,none⟩) n n,.slice (some ⟨gb false,0,none⟩) n n]) (by rfl) (by rfl) rfl ?_;refine cO 14 [5,7] 3 13 2 (λk v u=>v=.int .i64 ((Ii n L k:Nat):Int)/\AC w u) ?_ ?_
 ·exact⟨rfl,stp⟩
 rintro k _ G u hk ⟨rfl,I⟩;refine ite (λAY=>?_) (λV=>?_)
 ·have b:∃s:Bool,(k=0/\s=true\/k=1/\s=false):=by
   have b:=(show k=0\/k=1 by omega);rcases b with rfl|rfl
   ·exact⟨true,.inl ⟨rfl,rfl⟩⟩
   ·exact⟨false,.inr ⟨rfl,rfl⟩⟩
  obtain⟨s,J⟩:=b
  have t:Ii n L k<=400000/\Ii n L (k+1)=Ii n L k+(Fd n L s).sum:=by
   have:=h true;rcases J with⟨rfl,rfl⟩|⟨rfl,rfl⟩<;>simp[Ii]<;>omega
  have o:=M.row s;have W:(X s).length=n:=M.len s;refine YM (v:=.slice (some ⟨gb s,0,none⟩) n n) (by rcases J with⟨rfl,rfl⟩|⟨rfl,rfl⟩<;>rfl) (by omega) ?_;have A:∀v,v<n->((Fd n L s)[v]? = some (L s v).length):=λv r=>by unfold Fd;rw[QK,VS r];rfl
  have Y:(Fd n L s).length=n:=by unfold Fd;simp
  refine cO 19 [7] 3 18 n (λj v C=>v=.int .i64 ((Ii n L k+((Fd n L s).take j).sum:Nat):Int)/\AC w C) ?_ ?_
  ·exact⟨congrArg (λm:Nat=>Value.int .i64 (m:Int)) (show Ii n L k=Ii n L k+((Fd n L s).take 0).sum by simp),I⟩
  rintro j _ G2 C hj ⟨rfl,p⟩;refine ite (λK=>?_) (λQ=>?_)
  ·have d:j<n:=by omega
   have f:(X s)[j]? = some ((X s)[j]'(by omega)):=by simp
   have b:∃z,z=(X s)[j]'(by omega):=⟨_,rfl⟩;obtain⟨z,Z⟩:=b;rw[<-Z]at f;have O:=M.own s j z f;have a0:z.n=(L s j).length:=O.sl.len;have a1:=H s j d;have a4:=zL8 (Fd n L s) j
   have a5:((Fd n L s).take (j+1)).sum=((Fd n L s).take j).sum+(L s j).length:=by
    rw[zPL _ (by omega)];have:=A j d;rw[Qd (by omega)]at this;rw[QL this]
   have:=h s;refine Bv (i:=j) (o.up (w':=C)).sl f λb4 o4 A4=>AF (A4.cell0 rfl) (IV (y:=((Ii n L k+((Fd n L s).take (j+1)).sum:Nat):Int)) ?_ (by omega) ?_)
   ·show((Ii n L k+((Fd n L s).take j).sum:Nat):Int)+((z.n:Nat):Int)=_;omega
   exact rA ⟨rfl,d,rfl,p⟩
  ·have E:j=(Fd n L s).length:=by omega
   rw[E,Qg];refine rA ⟨rfl,by omega,congrArg (λm:Nat=>Value.int .i64 (m:Int)) t.2.symm,p⟩
 ·have F:k=2:=by omega
  subst F;have e:Ii n L 2=GX n L:=by simp[Ii,Fd,GX]
  exact⟨congrArg (λm:Nat=>Value.int .i64 (m:Int)) e,I⟩
end
structure DH {α:Type} [AK α] (e1 e2:TypeId) (B g n c:Nat) (X:List SV) (L:Nat->List α) (w:World):Prop where
 row:AD B e1 w (.slice (some ⟨g,0,none⟩) n c) X
 len:X.length=n
 own:∀(v:Nat) (z:SV),X[v]? = some z->AD B e2 w z.v (L v)
 lt:∀(v:Nat) (z:SV) b,X[v]? = some z->Value.blk z.v=some b->b<w.heap.size
 apart:∀(v:Nat) (z:SV) (v':Nat) (z':SV),X[v]? = some z->X[v']? = some z'->v≠v'->∀b,Value.blk z.v=some b->Value.blk z'.v≠some b
section
variable {α:Type} [AK α] {e1 e2:TypeId} {B g n c:Nat} {X:List SV} {L:Nat->List α} {w w':World}
theorem DH.fr(M:DH e1 e2 B g n c X L w)(f:Fr (λ_=>False) w w'):DH e1 e2 B g n c X L w':=
 ⟨M.row.fr f λ_ _ _ h=>h,M.len,λv z h=>(M.own v z h).fr f λ_ _ _ h=>h,λv z b h hb=>QJ (M.lt v z b h hb) f.size,M.apart⟩
theorem DH.up[Le w w'](M:DH e1 e2 B g n c X L w):DH e1 e2 B g n c X L w':=M.fr Le.e
theorem DH.gx(M:DH e1 e2 B g n c X L w)(l:0<n):g<w.heap.size/\B<=g:=by
 obtain⟨b,d,e,f⟩:=M.row.lt (by intro h;have:=M.len;rw[h]at this;simp at this;omega);have:=QL d;simp only at this;subst this;exact⟨f,e⟩
theorem DH.new(O:AD B e1 w (.slice (some ⟨g,0,none⟩) n c) (List.replicate n (⟨none,0,0⟩:SV))):DH (α:=α) e1 e2 B g n c (List.replicate n ⟨none,0,0⟩) (λ_=>[]) w:=by
 have d:∀(v:Nat) (z:SV),(List.replicate n (⟨none,0,0⟩:SV))[v]? = some z->z=⟨none,0,0⟩:=λv z h=>by
  rw[Vk]at h;split at h
  ·exact(QL h).symm
  ·cases h
 exact⟨O,by simp,λv z h=>by rw[d v z h];exact AD.nil _ _ _,λv z b h hb=>(by rw[d v z h]at hb;cases hb),λv z f l h o e b hb=>(by rw[d v z h]at hb;cases hb)⟩
theorem DH.put(d:e1≠e2){v:Nat}{z:SV}{x:α}{G J:World}{t:Value}(M:DH e1 e2 B g n c X L w)(p:X[v]? = some z)
  (O:AD B e2 G t (L v++[x]))(Q:Fr (AV B z.v) w G)(K:Value.blk t=Value.blk z.v\/(Value.blk t=some w.heap.size/\Bp w G))
  (Y:AD B e1 J (.slice (some ⟨g,0,none⟩) n c) (X.set v (Fi t)))(V:Fr (AV B (.slice (some ⟨g,0,none⟩) n c)) G J)(z8:J.heap.size=G.heap.size):
  DH e1 e2 B g n c (X.set v (Fi t)) (λu=>if u=v then L v++[x] else L u) J:=by
 have z7:=Q.size;have Z:=M.own v z p;have C:(Fi t).v=t:=NL O.sl;have S:v<X.length:=(Qy.1 p).1;have E:(X.set v (Fi t))[v]? = some (Fi t):=by simp[S]
 have q:∀{r:Nat},r≠v->(X.set v (Fi t))[r]? = X[r]?:=λ{r} h=>by rw[Vw,if_neg (λe=>h e.symm)]
 have W:AD B e1 G (.slice (some ⟨g,0,none⟩) n c) X:=M.row.fro Z Q d
 have kp:∀(y:Value) (l:List α),AD B e2 w y l->(∀b,Value.blk y=some b->Value.blk z.v≠some b)->AD B e2 J y l:=λy l s F=>by
  have o:=s.fr Q λb _ hb h=>F b hb h.2.1;exact o.fro W V (λe=>d e.symm)
 refine⟨Y,by rw[Jc];exact M.len,λr y A=>?_,λr y b A hb=>?_,λH T I U s F d b hb=>?_⟩
 ·by_cases e2:r=v
  ·subst e2;rw[E]at A;have:=QL A;subst this;rw[if_pos rfl,C];exact O.fro W V (λe=>d e.symm)
  ·rw[q e2]at A;rw[if_neg e2];exact kp _ _ (M.own r y A) λb hb=>M.apart r y v z A p e2 b hb
 ·by_cases e2:r=v
  ·subst e2;rw[E]at A;have:=QL A;subst this;rw[C]at hb;have⟨b',s,_,o⟩:=O.lt (by simp);rw[hb]at s;have:=QL s;omega
  ·rw[q e2]at A;have:=M.lt r y b A hb;omega
 ·by_cases e1:H=v
  ·subst e1;have e2:I≠H:=λe=>d e.symm;rw[E]at s;have:=QL s;subst this;rw[q e2]at F;rw[C]at hb;intro f;rcases K with o|⟨o,_⟩
   ·rw[o]at hb;exact M.apart I U H z F p e2 b f hb
   ·rw[hb]at o;have h4:=QL o;have h5:=M.lt I U b F f;omega
  ·rw[q e1]at s;by_cases e2:I=v
   ·subst e2;rw[E]at F;have:=QL F;subst this;rw[C];intro f;rcases K with o|⟨o,_⟩
    ·rw[o]at f;exact M.apart H T I z s p e1 b hb f
    ·rw[f]at o;have h4:=QL o;have h5:=M.lt H T b s hb;omega
   ·rw[q e2]at F;exact M.apart H T I U s F d b hb
end
theorem ZE(h:n<=2147483647):Sp PP 101 #[.int .i64 (n:Int)] w λv w'=>v=.tuple #[Ag (AL n),.int .i64 0]/\AC w w':=
 rQ.mono λ_ _ b=>⟨by rw[b.1];unfold Rt;rw[if_pos (by omega)];simp,b.2⟩
theorem dF{v:Value}:Sp PP 100 #[v,.int .i64 0] w λr w'=>r=v/\AC w w':=by
 refine eN ?_;refine iF (· rfl) ?_;exact⟨rfl,stp⟩
theorem wN{s:ByteArray}(h:s.size<=4000):Sp PP 103 #[.string s] w λv w'=>v=.tuple #[Ag (DZ s),.int .i64 0]/\AC w w':=by
 have hb:=LH (n:=s.size) (by omega);refine eN ?_;refine iF (by first|omega|decide|(dsimp only<;>omega)) (AA (ZE (n:=s.size) (by omega)) ?_);rintro _ w1 ⟨rfl,d⟩;refine Ic (by rw[AM];omega) ?_
 have b:(⟨(AL s.size).toArray⟩:ByteArray)++s=⟨(DZ s).toArray⟩:=by
  have c:s=⟨s.data.toList.toArray⟩:=by simp
  conv=>lhs;rw[c,SE]
  rfl
 exact⟨congrArg (λz=>Value.tuple #[.string z,.int .i64 0]) b,stp⟩
theorem zIe{c:Nat}{l:List Nat}(h:Bh 3 w (.slice a n c) (AH l))(W:l.length<=4000)(C:∀x∈l,x<=2147483647):Sp PP 102 #[.slice a n c] w λv w'=>v=.tuple #[Ag (Ll l),.int .i64 0]/\AC w w':=by
 have s:(AH l).length=l.length:=by simp[AH]
 have b:=h.len;obtain rfl:=b;rw[s]at h ⊢;have hb:=LH (n:=l.length) (by omega);refine eN ?_;refine iF (by first|omega|decide|(dsimp only<;>omega)) (Ap λt p n3 E=>?_);have y:=n3.lo (u:=w);have X:=lz w p;have F:Fc w.heap.size t [] p:=dI y E;clear E
 refine IG Aa 12 [2,3,6,7,8] 5 (λm v u=>∃k:Nat,m=l.length+1 - k/\k<=l.length+1/\v=.int .i64 ((k:Int) - 1)/\Fc w.heap.size t (if k=0 then[] else AL l.length++(l.take (k - 1)).flatMap AL) u/\GJ w.heap.size t p u) rfl
  ⟨l.length+1,0,rfl,by omega,rfl,F,Cm.refl _ _ _ _⟩ ?_
 rintro m v G u ⟨k,rfl,Y,d,L,f⟩;have Z:=f.size;have I:AC w u:=⟨Cm.st Le.e f (Qe _) λi hi=>by omega⟩;have b:=X0 k;rcases b with rfl|J
 ·have d:v=.int .i64 (-1):=d;subst d;refine iT (by omega) (iF (by omega) (AA (ZE (n:=l.length) (by omega)) ?_));rintro _ q ⟨rfl,o⟩;refine iF (· rfl) ?_;have K:=o.e.size;refine AA (Uj (L.up (w':=q)) (by omega) (by simp only[if_true,QZ];omega)) ?_;rintro _ M ⟨rfl,z,A⟩;exact rA ⟨l.length+1 - 1,by omega,1,rfl,by omega,rfl,by simpa using z,(f.trans (Cm.ext o.e)).trans A⟩
 ·have b:∃j,k=j+1:=⟨k - 1,by omega⟩;obtain⟨j,rfl⟩:=b;have d:v=.int .i64 (j:Int):=by rw[d];congr 1;omega
  subst d;rw[if_neg (by omega),Nat.add_sub_cancel]at L;refine ite (λAY=>?_) (λO=>?_)
  ·have H:j<l.length:=by omega
   refine iT (by omega) ?_;have Q:=(h.up (w':=p)).frB f F.obj (by decide) (by decide);have r:=C l[j] (Qa _);have S:=qN (l:=l.take j) λx r=>C x (Vu r);rw[Qm]at S;have T:=LH r;refine Bv Q.sl (i:=j) (x:=(l[j]:Int)) (by simp[AH,H]) λb5 o5 U=>AF (U.cell0 rfl) (AA (ZE r) ?_);rintro _ q ⟨rfl,o⟩;refine iF (· rfl) ?_;have K:=o.e.size;refine AA (Uj (L.up (w':=q)) (by omega) (by simp only[Qb];omega)) ?_;rintro _ M ⟨rfl,z,A⟩;refine rI (((j+1+1:Nat):Int) - 1) ?_;refine⟨l.length+1 - (j+1+1),by omega,j+1+1,rfl,by omega,rfl,?_,(f.trans (Cm.ext o.e)).trans A⟩;rw[if_neg (by omega),Nat.add_sub_cancel,zOp H,<-Qp];exact z
  ·have b:j=l.length:=by omega
   obtain rfl:=b;rw[Qg]at L;refine AA (XT L (by omega)) ?_;rintro _ q ⟨rfl,_,V⟩;exact⟨rfl,⟨Cm.st I.e V (Qe _) λi hi=>by omega⟩⟩
theorem zQk{l:List BP}(b:k<l.length)(v:Nat):(((l.take (k+1)).filter λe=>e.f==v).map (·.t))=(((l.take k).filter λe=>e.f==v).map (·.t))++(if v=l[k].f then[l[k].t] else[]):=by
 rw[Cs b,QV,QB];congr 1;by_cases e:v=l[k].f
 ·rw[if_pos e];simp[e]
 ·rw[if_neg e];have:(l[k].f==v)=false:=by simp;exact λh=>e h.symm
  simp[this]
theorem zHO{x:FY}{vs:List SV}(V:Kt w x g vs)(o:Bb g):Sp PP 55 #[agg x] w λv w'=>v=.tuple #[Ag (Mf g g.n),.int .i64 0]/\AC w w':=by
 have hn:=V.n;have d7:=V.rows.1;have d8:=V.es.len;have d9:=V.ws.len;have e0:=o.ok.n2;have e1:=o.nw;have e7:=V.small.1;have hb:=LH (n:=g.n) (by omega);refine eN ?_;refine BM λbx w1 n1 B1=>rG B1 x (AA (dP (V.up (w':=w1))) ?_);rintro _ w2 ⟨⟨rfl,_⟩|⟨rfl,h⟩,e2⟩
 case' inr=>exact absurd o h
 refine Cx (B:=B1) (v:=.int .i64 (g.n:Int)) (by rw[<-hn];rfl) (Id (α:=SV) ⟨none,0,0⟩ rfl rfl (by omega) λH w3 O3 s3 f0=>?_);have z2:=lz w w2;have z3:=s3.e.size;have M3:DH (α:=Int) 63 3 w.heap.size H g.n g.n (List.replicate g.n ⟨none,0,0⟩) (λv=>AH (((g.es.take 0).filter λe=>e.f==v).map (·.t))) w3:=DH.new (O3.mono (B':=w.heap.size) z2);refine rX B1 rfl (cN 22 [6] 21 g.es.length (λk u=>∃X,DH (α:=Int) 63 3 w.heap.size H g.n g.n X (λv=>AH (((g.es.take k).filter λe=>e.f==v).map (·.t))) u/\Bk u bx (enc x) 35/\AC w u) ?_ ?_)
 ·exact⟨_,M3,B1.mv (w:=w3),stp⟩
 rintro k G u hk ⟨X,M,Bu,su⟩;have zu:=su.e.size;refine ite (λAY=>?_) (λf1=>?_)
 ·have S:k<g.es.length:=by omega
  have r:∃e,e=g.es[k]:=⟨_,rfl⟩;obtain⟨e,he⟩:=r;have f2:=o.ok.ed e (by rw[he];exact Qa _);have a8:=M.len;have d:X[e.f]? = some (X[e.f]'(by omega)):=by simp
  have r:∃z,z=X[e.f]'(by omega):=⟨_,rfl⟩;obtain⟨z,hz⟩:=r;rw[<-hz]at d;have O:=M.own e.f z d;have f4:=M.gx (by omega);refine Bv (V.es.up (w':=u)) (i:=k) (x:=e) (by rw[he];simp) λb4 o4 A4=>Ai A4 rfl (Ap λb6 l n4 X4=>?_);have f6:=n4.lo (u:=u);refine rE X4 e λw5 T f5 _=>?_;have T:Bk w5 b6 (enc e) 74:=T;have t5:AC u w5:=⟨Fr.st (lE u l) f5 λi hi=>by omega⟩;have z5:=t5.e.size;refine dT (λi=>i=H\/AV w.heap.size z.v i) (oL [0,1,2,3,4,5,6,8,9] (.duo 7 (oL [10,11,12,13] .nil) 10 (.lone 7 (oL [11,12,13] .nil)))) λQ e6=>?_
  have hD:¬(b6=H\/AV w.heap.size z.v b6):=by
   rintro(h|h)
   ·omega
   ·have:=O.wr h;omega
  have a9:AC u Q:=stp;have M6:=M.up (w':=Q);refine Nf (B:=T) (v:=.int .i64 (e.f:Int)) rfl hD (Nf (B:=T) (v:=.int .i64 (e.f:Int)) rfl hD ?_);refine CL (i:=e.f) M6.row.sl d λb7 o7 A7 _=>Nf (B:=T) (v:=.int .i64 (e.t:Int)) rfl hD ?_;have O6:=M6.own e.f z d
  have d0:(AH (((g.es.take k).filter λa=>a.f==e.f).map (·.t))).length<=1000000:=by
   rw[PQ,Qr];have h1:=Qv (λa:BP=>a.f==e.f) (g.es.take k);have h2:=List.length_take_le k g.es;omega
  refine⟨AF (A7.cell0 rfl) ⟨Fr.refl _ _,bS (e.t:Int) λb8 A e8 _ S8=>⟨Fr.fr e8.e,?_⟩⟩,bS (e.t:Int) λb8 A e8 _ S8=>⟨Fr.fr e8.e,AF ((A7.up (w':=A)).cell0 rfl) ⟨Fr.refl _ _,?_⟩⟩⟩
  all_goals
   have z6:=a9.e.size;have z8:=e8.e.size;have U:=M6.up (w':=A);refine PV ⟨rfl,rfl⟩ (U.own e.f z d) S8 (by simp) (by omega) (by simp only[QA,QZ];omega) λv9 u9 O9 W b0=>⟨W.mono λi _ hi=>.inr hi,?_⟩;have R9:=U.row.fro (U.own e.f z d) W;refine ET rfl R9 (i:=e.f) d λg5 Y _ A5=>?_;have b1:H=g5:=QL Y;subst b1;refine CZ rfl (Fi v9) R9 Y (by omega) (by obtain⟨a7,c7,rfl⟩:=O9.shape;rfl) λp b2 C Z=>⟨C.mono λi _ h=>.inl (QL h.2.1).symm,?_⟩;have a0:=U.put (by decide) d O9 W b0 b2 C Z;have b3:AC w p:=⟨Fr.st (Fr.st (lE w A) W λi hi=>by have:=hi.1;omega) C λi hi=>by have:=hi.1;omega⟩
   have hL:(λu=>if u=e.f then AH (((g.es.take k).filter λa=>a.f==e.f).map (·.t))++[(e.t:Int)] else AH (((g.es.take k).filter λa=>a.f==u).map (·.t)))=λv=>AH (((g.es.take (k+1)).filter λa=>a.f==v).map (·.t)):=by
    funext v;rw[zQk S,<-he];by_cases h:v=e.f
    ·subst h;rw[if_pos rfl,if_pos rfl,YS];rfl
    ·rw[if_neg h,if_neg h,QE]
   rw[hL]at a0;exact rA ⟨rfl,S,_,a0,((Bu.mv (w:=A)).fro (U.own e.f z d) W).fro R9 C,b3⟩
 ·have c0:k=g.es.length:=by omega
  rw[c0,Qg]at M;have c1:∀v,((g.es.filter λe=>e.f==v).map (·.t))=Aj g 0 v:=λv=>rfl;simp only[c1]at M;refine Ap λbb l n4 B4=>?_;have f9:=n4.lo (u:=u);have c2:w.heap.size<=bb:=by omega
  have L0:Fc w.heap.size bb [] l:=dI c2 B4;have z4:=lz u l;clear B4;have R4:Bh 63 l (.slice (some ⟨H,0,none⟩) g.n g.n) X:=(M.up (w':=l)).row.y;have Y4:∀(v:Nat) (z:SV),X[v]? = some z->Bh 3 l z.v (AH (Aj g 0 v)):=λv z h=>((M.up (w':=l)).own v z h).y;refine Cx (B:=Bu) (v:=.int .i64 (g.n:Int)) (by rw[<-hn];rfl) (AA (ZE (n:=g.n) (by omega)) ?_);rintro _ w5 ⟨rfl,e5⟩;refine AA dF ?_;rintro _ w6 ⟨rfl,e6⟩;refine Ic (a:=⟨#[119,103]⟩) (b:=⟨(AL g.n).toArray⟩) (by have:=AM (AL g.n);show 2+(⟨(AL g.n).toArray⟩:ByteArray).size<=_;omega) ?_
  have c3:(⟨#[119,103]⟩:ByteArray)++⟨(AL g.n).toArray⟩=⟨(Mf g 0).toArray⟩:=by
   rw[show(⟨#[119,103]⟩:ByteArray)=⟨[119,103].toArray⟩ from rfl,SE];simp[Mf]
  rw[c3];have z6:=lz l w6;have d1:=fG o (k:=0) (by omega);refine AA (Uj (L0.up (w':=w6)) (by omega) (by simp only[QZ];omega)) ?_;rintro _ w7 ⟨rfl,L7,f7⟩;rw[Je]at L7;have E:GJ w.heap.size bb l w7:=(Cm.ext (lE l w6)).trans f7;have z7:=E.size;have g0:=Bu.lt;have g1:=n4.lo (u:=u);have g2:AC w w7:=⟨Cm.st (lE w l) E (Qe _) λi hi=>by omega⟩;have I:∀{u':World},GJ w.heap.size bb l u'->Bh 63 u' (.slice (some ⟨H,0,none⟩) g.n g.n) X/\∀(v:Nat) (z:SV),X[v]? = some z->Bh 3 u' z.v (AH (Aj g 0 v)):=λf=>⟨R4.frB f L0.obj (by decide) (by decide),λv z h=>(Y4 v z h).frB f L0.obj (by decide) (by decide)⟩;have J:∀{u':World},GJ w.heap.size bb l u'->Bk u' bx (enc x) 35:=λf=>(Bu.mv (w:=l)).keptX f (λh=>by omega) (by decide);have q:∀{u':World},GJ w.heap.size bb l u'->AC w u':=λf=>⟨Cm.st (lE w l) f (Qe _) λi hi=>by omega⟩;clear R4 Y4;refine rX (J E) rfl (cN 51 [8,9,11] 50 vs.length (λk u=>Fc w.heap.size bb (Mf g k) u/\GJ w.heap.size bb l u) ?_ ?_)
  ·exact⟨L7,E⟩
  rintro k G2 u2 g3 ⟨L,f⟩;have g4:=f.size;have s2:=q f;have r:=I f;obtain⟨Rr,Ry⟩:=r;refine ite (λd2=>?_) (λd3=>?_)
  ·have a1:k<vs.length:=by omega
   have F:k<g.ws.length:=by omega
   have a4:k<g.n:=by omega
   have R:=V.rows.2 k a1 F;have hl:=R.len;have a5:g.ws.getD k []=g.ws[k]:=by rw[Qk,Qd F];rfl
   have h8:=(o.word _ (Qa F)).1;have g6:=fG o (k:=k) (by omega);have d4:=t1 o k;have a8:=M.len;have d:X[k]? = some (X[k]'(by omega)):=by simp
   have r:∃z,z=X[k]'(by omega):=⟨_,rfl⟩;obtain⟨z,hz⟩:=r;rw[<-hz]at d;refine Bv (V.ws.up (w':=u2)) (i:=k) (x:=vs[k]) (by simp) λb5 o5 A5=>AF (A5.cell0 rfl) (Bv Rr.sl (i:=k) d λb6 o6 A6=>AF (A6.cell0 rfl) ?_);have YZ:=Ry k z d;have c4:z.v=.slice z.a z.n z.c:=rfl;rw[c4]at YZ;refine AA (zIe YZ (by have:=Zc o 0 k;omega) (λy hy=>by have:=IX o.ok hy;omega)) ?_;rintro _ u3 ⟨rfl,e3⟩;refine AA dF ?_;rintro _ u4 ⟨rfl,e4⟩;have g7:=LH (n:=g.ws[k].length) (by omega);have hq:vs[k].n=g.ws[k].length:=hl;refine AA ((ZE (n:=vs[k].n) (by omega)).mono λv w' h=>by rw[hq]at h;exact h) ?_;rintro _ u5 ⟨rfl,e5⟩;refine AA dF ?_;rintro _ Q ⟨rfl,e6⟩;refine Ic (by simp only[AM];omega) ?_;rw[SE];have g8:=lz u2 Q;refine AA (Uj (L.up (w':=Q)) (by omega) (by simp only[Qb];omega)) ?_;rintro _ u7 ⟨rfl,L7,f7⟩;have c5:GJ w.heap.size bb l u7:=(f.trans (Cm.ext (lE u2 Q))).trans f7;have a6:=λj (hj:j<=8)=>uI o k j hj;rw[a5]at a6;refine cnt Aa 74 [11] 73 g.ws[k].length (λj u=>Fc w.heap.size bb (Mf g k++(Ll (Aj g 0 k)++AL g.ws[k].length)++(g.ws[k].take j).flatMap DZ) u/\GJ w.heap.size bb l u) rfl rfl ?_ ?_
   ·exact⟨by simpa using L7,c5⟩
   rintro j G3 A hj ⟨L8,f8⟩;have z8:=f8.size;have s8:=q f8;have c6:vs[k].n=g.ws[k].length:=hl;refine ite (λd5=>?_) (λd6=>?_)
   ·have K:j<g.ws[k].length:=by omega
    refine Bv (R.up (w':=A)) (i:=j) (x:=g.ws[k][j]) (by simp) λb9 o9 A9=>AF (A9.cell0 rfl) ?_;have g9:=((o.word _ (Qa F)).2 _ (Qa K)).2.2;have h0:=wA (s:=g.ws[k][j]) (by omega);have h3:=a6 j (by omega);refine AA (wN (s:=g.ws[k][j]) (by omega)) ?_;rintro _ u9 ⟨rfl,e9⟩;refine AA dF ?_;rintro _ p ⟨rfl,h4⟩;have Z:=lz A p;refine AA (Uj (L8.up (w':=p)) (by omega) (by simp only[Qb];omega)) ?_;rintro _ h5 ⟨rfl,c8,c9⟩;refine rA ⟨rfl,K,?_,(f8.trans (Cm.ext (lE A p))).trans c9⟩;rw[Cs K,Jl,<-Qp];simpa using c8
   ·have r:j=g.ws[k].length:=by omega
    obtain rfl:=r;refine rA ⟨rfl,a1,?_,f8⟩;rw[Qg]at L8
    have e:Mf g (k+1)=Mf g k++(Ll (Aj g 0 k)++AL g.ws[k].length)++g.ws[k].flatMap DZ:=by
     rw[zI];unfold Wz Lw;rw[a5];simp only[Qp]
    rw[e];exact L8
  ·have a4:k=g.n:=by omega
   rw[a4]at L;refine AA (XT L (by omega)) ?_;rintro _ u3 ⟨rfl,_,f3⟩;exact⟨rfl,⟨Cm.st s2.e f3 (Qe _) λi hi=>by omega⟩⟩
theorem kO{α:Type}{f:U8->Option (α×U8)}{B:α->U8}:∀(l:List α) (t:U8),(∀x∈l,∀t,f (B x++t)=some (x,t))->Ae f l.length (l.flatMap B++t)=some (l,t):=by intro a;induction a<;>simp_all[Ae]
theorem zNs{l:List Nat}(h:l.length<=4000)(b:∀x∈l,x<=2147483647)(t:U8):DO (Ll l++t)=some (l,t):=by
 unfold Ll;rw[Qp,vA (NM (by omega) _),if_pos h];exact kO l t λx c t=>NM (b x c) t
theorem zPm{l:U8}(h:l.length<=4000)(t:U8):GT ((AL l.length++l)++t)=some (l,t):=by
 rw[Qp,qA (NM (by omega) _),if_pos ⟨h,by simp⟩];simp
theorem zOk{l:List (U8)}(h:l.length<=8)(b:∀x∈l,x.length<=4000)(t:U8):EM ((AL l.length++l.flatMap λx=>AL x.length++x)++t)=some (l,t):=by
 rw[Qp,NO (NM (by omega) _),if_pos h];exact kO l t λx c t=>zPm (b x c) t
theorem zOh{p:List Nat×List (U8)}(b:p.1.length<=4000)(c:∀x∈p.1,x<=2147483647)(d:p.2.length<=8)(e:∀x∈p.2,x.length<=4000)(t:U8):GQ (Uu p++t)=some (p,t):=by
 unfold Uu;rw[Qp];exact YJ (zNs b c _) (zOk d e t)
def I6 (g:An):List (List Nat×List (U8)):=(List.range g.n).map λv=>(Aj g 0 v,(g.ws.getD v []).map λs=>s.data.toList)
theorem zP2(s:ByteArray):AS s.data.toList=s:=by unfold AS;simp
theorem qB(f:Nat->List Nat):∀(n v:Nat),BE v ((List.range' v n).map f)=(List.range' v n).flatMap λi=>(f i).map λt=>⟨i,t⟩
 |0,v=>rfl
 |n+1,v=>by
  rw[List.range'_succ,QS,JV,BE,qB f n (v+1)]
theorem nT(d:Bb g):Lv g.n (I6 g)=g:=by
 have l:BE 0 ((I6 g).map (·.1))=g.es:=by
  have o:(I6 g).map (·.1)=(List.range' 0 g.n).map λv=>Aj g 0 v:=by unfold I6;rw[VM,List.range_eq_range'];rfl
  have q:∀v,((Aj g 0 v).map λt=>(⟨v,t⟩:BP))=g.es.filter λe=>e.f==v:=λv=>by
   show((g.es.filter λe=>e.f==v).map (·.t)).map _=_;rw[VM]
   conv=>rhs;rw[<-List.map_id (g.es.filter λe=>e.f==v)]
   apply Ja;intro e r;have:=(QC.1 r).2;have h:e.f=v:=by simpa using this
   cases e;simp at h;subst h;rfl
  rw[o,qB];simp only[q];refine kF GF ?_ d.er λe=>?_
  ·rw[XQ];refine⟨λv _=>d.er.filter _,?_⟩;rw[<-List.range_eq_range'];refine List.pairwise_lt_range.imp λ{a b} u x z y A=>?_;have l:=(QC.1 z).2;have c:=(QC.1 A).2;simp only[beq_iff_eq]at l c;exact .inl (by omega)
  ·rw[VP];constructor
   ·rintro⟨v,_,h⟩;exact(QC.1 h).1
   ·intro h;refine⟨e.f,?_,QC.2 ⟨h,by simp⟩⟩;rw[<-List.range_eq_range',Q0];exact(d.ok.ed e h).1
 have c:((I6 g).map λp=>p.2.map AS)=g.ws:=by
  unfold I6;rw[VM];have C:=d.nw;apply Xg
  ·simp[C]
  ·intro i l c;simp only[List.getElem_map,List.getElem_range,Function.comp,VM];rw[Qk,Qd c];simp only[QP];exact(Ja λs _=>zP2 s).trans (List.map_id _)
 unfold Lv;rw[l,c]
theorem oP(b:Bb g):Ea (Mf g g.n)=some g:=by
 have c:(I6 g).length=g.n:=by unfold I6;simp
 have l:=b.ok.n2
 have hi:Mf g g.n=119::103::(AL g.n++((I6 g).flatMap Uu++[])):=by
  have:=WI c;rw[nT b]at this;rw[this];simp
 have o:WG (Mf g g.n)=some (g.n,I6 g,[]):=by
  rw[Pe hi,NM (by omega)];dsimp only;rw[if_pos l]
  have e:=kO (f:=GQ) (B:=Uu) (I6 g) [] λp q t=>by
   have d:=Qq.1 q;obtain⟨v,h,rfl⟩:=d;have h:=Q0.1 h;have r:=Pj b v;refine zOh (by have:=Zc b 0 v;show(Aj g 0 v).length<=_;omega) (λy u=>by have:=IX b.ok (show y∈Aj g 0 v from u);omega) (by simpa using r) (λx z=>?_) t;have d:=Qq.1 z;obtain⟨s,A,rfl⟩:=d;have:=UM b (v:=v) (j:=(g.ws.getD v []).length) (s:=s) (by rw[Qg];exact A);have c:s.data.toList.length=s.size:=Vc;omega
  rw[c]at e;rw[e]
 unfold Ea;rw[o];dsimp only;rw[nT b,if_pos ⟨rfl,b⟩]
end Go.W
