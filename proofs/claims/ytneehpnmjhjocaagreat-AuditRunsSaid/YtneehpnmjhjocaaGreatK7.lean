/-
  Proved here: parts of this claim.
  Conditions: told at each.
-/
import Derived.Test.YtneehpnmjhjocaaGreatK6
set_option maxHeartbeats 4000000
set_option linter.unusedVariables false
set_option linter.unusedSimpArgs false
namespace Go.W
open Go Go.Proofs
open Enc (enc)
set_option maxRecDepth 10000
variable {D:Nat -> Prop} {a:Option Addr} {g:GrD} {i j k n:Nat} {u w' w1 w2:World}
def segs (l:List EdN) (v:Nat):List EdN:=(List.range v).flatMap (atV l)
theorem zCy(l:List EdN)(v:Nat):segs l (v+1)=segs l v++atV l v:=by
 unfold segs;rw [Jm,Jl];simp
theorem zEG(l:List EdN):∀v,(segs l v).length=cLt l v
 |0=>by rw [zB8];rfl
 |v+1=>by rw [zCy,Qb,zEG l v,zIe,zC3]
theorem zJs{l:List EdN}(h:l.Pairwise ltE):∀v,segs l v=l.take (cLt l v)
 |0=>by rw [zB8];rfl
 |v+1=>by
  have b:=seg_eq h v;have c:=zBn l v;rw [zCy,zJs h v,<-b,show cLt l (v+1)=cLt l v+(cLt l (v+1) - cLt l v) by omega,List.take_add];simp
theorem zPB{l:List EdN}(h:l.Pairwise ltE)(b:∀e∈l,e.f<n):segs l n=l:=by rw [zJs h,zFZ b,Qg]
theorem zJr(l:List EdN):∀v,(segs l v).Perm (l.filter λe=>decide (e.f<v))
 |0=>by simp [segs]
 |v+1=>by
  rw [zCy];have h:=List.filter_append_perm (λe:EdN=>decide (e.f<v)) (l.filter λe=>decide (e.f<v+1));rw [List.filter_filter,List.filter_filter] at h
  have c:(λe:EdN=>decide (e.f<v) && decide (e.f<v+1))=λe=>decide (e.f<v):=by
   funext e;by_cases h:e.f<v
   ·simp [h,show e.f<v+1 by omega]
   ·simp [h]
  have d:(λe:EdN=>(!decide (e.f<v)) && decide (e.f<v+1))=λe=>decide (e.f=v):=by
   funext e;by_cases h:e.f=v
   ·simp [h]
   ·by_cases b:e.f<v
    ·simp [h,b]
    ·simp [h,b];omega
  rw [c,d] at h;exact((zJr l v).append_right _).trans h
def revL (g:GrD):List EdN:=segs (g.es.map trnE) g.n
theorem zOR{l m:List EdN}(h:l.Perm m)(v:Nat):cLt l v=cLt m v:=(h.filter _).length_eq
theorem zMW(c:GrIs g):RevOf g (revL g):=by
 have l:(revL g).Perm (g.es.map trnE):=by
  refine(zJr _ _).trans ?_;rw [JH.2];intro e m;have o:=Qq.1 m;obtain⟨p,h0,rfl⟩:=o;exact decide_eq_true (c.ok.ed p h0).2
 refine⟨l,?_⟩;unfold revL segs;rw [XQ];refine⟨λv _=>?_,?_⟩
 ·unfold atV;rw [List.filter_map,QY];refine(c.er.filter _).imp_of_mem ?_;intro a b q r h;have d:a.t=v:=of_decide_eq_true (show decide (a.t=v)=true from (QC.1 q).2);have f:b.t=v:=of_decide_eq_true (show decide (b.t=v)=true from (QC.1 r).2);unfold ltE at h ⊢;simp only [trnE];omega
 ·refine List.pairwise_lt_range.imp ?_;intro a b s x w y z;have d:=(QC.1 w).2;have f:=(QC.1 z).2;simp at d f;exact .inl (by omega)
theorem zPf(b:GrIs g):offL g.n (revL g)=offL g.n (g.es.map trnE):=by
 unfold offL;apply Ja;intro v _;rw [zOR (zMW b).1]
def offK (l:List EdN) (v:Nat):List Int:=(List.range v).map λj=>(cLt l j:Int)
theorem zJg(l:List EdN)(v:Nat):offK l (v+1)=offK l v++[(cLt l v:Int)]:=by unfold offK;rw [Jm,QB];rfl
theorem zKv(l:List EdN)(v:Nat):(offK l v).length=v:=by simp [offK]
def toK (l:List EdN) (v k:Nat):List Int:=toL (segs l v++atV (l.take k) v)
theorem zCj(l:List EdN)(v:Nat):toK l v 0=toL (segs l v):=by simp [toK,atV]
theorem zM3(l:List EdN)(v:Nat):toK l v l.length=toL (segs l (v+1)):=by unfold toK;rw [Qg,zCy]
theorem zLs{l:List EdN}{v:Nat}(h:k<l.length):toK l v (k+1)=if l[k].f=v then toK l v k++[(l[k].t:Int)] else toK l v k:=by
 unfold toK atV toL;rw [take_add h,QV,<-Qp,QB];by_cases e:l[k].f=v
 ·rw [if_pos e];simp [e]
 ·rw [if_neg e];simp [e]
theorem zM4(l:List EdN)(v k:Nat):(toK l v k).length<=2*l.length:=by
 have b:=zEG l v;have d:=cLt_le l v;have c:=Qv (λe:EdN=>decide (e.f=v)) (l.take k);rw [Qm] at c;unfold toK toL atV;rw [Qr,Qb,b];omega
def slV (x:SV) (l:List Int):Value:=.slice x.a l.length x.c
abbrev r4L (V:Nat->SV) (L:Nat->List Int):List Value:=[slV (V 0) (L 0),slV (V 1) (L 1),slV (V 2) (L 2),slV (V 3) (L 3)]
def setF {α:Type} (V:Nat->α) (i:Nat) (x:α):Nat->α:=λj=>if j=i then x else V j
structure Rw4 (B:Nat) (bz br b:Nat) (cs:List Value) (V:Nat->SV) (L:Nat->List Int) (w:World):Prop where
 k:Bk w b cs 77
 z:Bk w bz [.slice none 0 0,.slice none 0 0,.slice none 0 0,.slice none 0 0] 82
 r:Bk w br (r4L V L) 82
 o:∀i,i<4->Own B 3 w (slV (V i) (L i)) (L i)
 lt:∀i,i<4->∀g,Value.blk (slV (V i) (L i))=some g->g<w.heap.size
 ap:∀i j,i<4->j<4->i≠j->∀g,Value.blk (slV (V i) (L i))=some g->Value.blk (slV (V j) (L j))≠some g
section
variable {B bz br b:Nat} {cs:List Value} {V:Nat->SV} {L:Nat->List Int} {w w':World}
theorem Rw4.up[Le w w'](R:Rw4 B bz br b cs V L w):Rw4 B bz br b cs V L w':=
 ⟨R.k.mv,R.z.mv,R.r.mv,λi hi=>(R.o i hi).up,λi hi g c=>QJ (R.lt i hi g c) (lz w w'),R.ap⟩
theorem Rw4.put(R:Rw4 B bz br b cs V L w)(hi:i<4){y:Int}{x:SV}(O:Own B 3 w1 (slV x (L i++[y])) (L i++[y]))(f:Fr (ownD B (slV (V i) (L i))) w w1)
  (v:Value.blk (slV x (L i++[y]))=Value.blk (slV (V i) (L i))\/Value.blk (slV x (L i++[y]))=some w.heap.size)(G:Bk w2 br (r4L (setF V i x) (setF L i (L i++[y]))) 82)(t:Fr (λj=>j=br) w1 w2)(N:¬bz=br)(P:¬b=br):
  Rw4 B bz br b cs (setF V i x) (setF L i (L i++[y])) w2:=by
 have Q:=R.z.fro (R.o i hi) f;have J:=R.r.fro (R.o i hi) f;have e:∀j,j≠i->slV (setF V i x j) (setF L i (L i++[y]) j)=slV (V j) (L j):=λj h=>by simp only [setF,if_neg h]
 have C:slV (setF V i x i) (setF L i (L i++[y]) i)=slV x (L i++[y]):=by simp only [setF,if_true]
 have S:∀j,j≠i->setF L i (L i++[y]) j=L j:=λj h=>by simp only [setF,if_neg h]
 have F:setF L i (L i++[y]) i=L i++[y]:=by simp only [setF,if_true]
 have new:∀j,j<4->j≠i->∀g,Value.blk (slV x (L i++[y]))=some g->Value.blk (slV (V j) (L j))≠some g:=λj l H g c d=>by
  rcases v with v|v
  ·exact R.ap i j hi l (Jq H) g (v ▸ c) d
  ·have:=R.lt j l g d;rw [v] at c;cases c;omega
 refine⟨(R.k.fro (R.o i hi) f).fr t P,Q.fr t N,G,λj l=>?_,λj l g E=>?_,λp q K M m g c d=>?_⟩
 ·by_cases h:j=i
  ·subst h;rw [C,F];exact O.frc t J
  ·rw [e j h,S j h];exact((R.o j l).fr f λb _ I hd=>R.ap j i l hi h b I hd.2.1).frc t J
 ·by_cases h:j=i
  ·subst h;rw [C] at E;have T:=O.lt (by simp);obtain⟨W,c,_,U⟩:=T;rw [E] at c;cases c;exact QJ U t.size
  ·rw [e j h] at E;exact QJ (R.lt j l g E) (Qw f.size t.size)
 ·by_cases s:p=i
  ·subst s;rw [C] at c;rw [e q (Jq m)] at d;exact new q M (Jq m) g c d
  ·rw [e p s] at c;by_cases A:q=i
   ·subst A;rw [C] at d;exact new p K s g d c
   ·rw [e q A] at d;exact R.ap p q K M m g c d
end
section
variable {P:Program} {T:Tab} {n:Nat} {Q:KS} {F0:Nat->Value} {w:World}
theorem cutR0{ops:Array Oper}(m:Nat)(b:List Nat)(I:World->Prop)(d:okB m b [] (.region i ops true)=true)(e:DeepS P T n (.region i ops true) { Q with nrm:=λ_ w'=>I w' } F0 w)
  (f:∀g w',I w'->Q.nrm (hdF m b [] g F0) w'):DeepS P T n (.region i ops true) Q F0 w:=
 cut0 (c:=.seq (.region i ops true) .skip) (y:=.skip) m b I rfl d e f
end
theorem zAJ{α:Type}{V:Nat->α}{x:α}(h:j≠i):setF V i x j=V j:=if_neg h
theorem zD5{α:Type}{V:Nat->α}{x:α}:setF V i x i=x:=if_pos rfl
structure LsI (g:GrD) (q v k k':Nat) (L:Nat->List Int):Prop where
 l0:L 0=offK g.es q
 l1:L 1=toK g.es v k
 l2:L 2=offK (g.es.map trnE) q
 l3:L 3=toK (g.es.map trnE) v k'
theorem zLR{x:RGr}{vs:List SV}{w:World}(P:GrV w x g vs)(hg:GrIs g):Sp PP 48 #[agg x] w λv w'=>(∃y,v=.tuple #[agg (y:RRow),.int .i64 0]/\RowO w.heap.size w' y g (revL g))/\Stp w w':=by
 have hn:=P.n;have d6:=P.es.len;have d7:=hg.ok.n2;have b1:=hg.ne;have b3:(g.es.map trnE).length=g.es.length:=Qr _;refine eN ?_;refine rbx λb w1 n1 F=>ral λbz w2 n2 z2=>?_;have hb:=n1.b;have d8:=n1.s;have d9:=n2.b;have e1:=n2.s;have Z2:Bk w2 bz [.slice none 0 0,.slice none 0 0,.slice none 0 0,.slice none 0 0] 82:=z2;refine rG F x (rcall (zFA (P.up (w':=w2))) ?_);rintro _ w3 ⟨⟨rfl,_⟩|⟨rfl,h⟩,e3⟩
 case' inr=>exact absurd hg h
 refine ral λQ w4 n4 z4=>?_;have e2:=n4.b;have e4:=n4.s;have e5:=lz w2 w3;have hz:¬bz=Q:=by omega
 have W:¬b=Q:=by omega
 have Y:∀i,i=Q->w.heap.size<=i:=by omega
 have b4:∀i,i=bz->w.heap.size<=i:=by omega
 have R0:Rw4 w.heap.size bz Q b (enc x) (λ_=>⟨none,0,0⟩) (λ_=>[]) w4:=⟨F.mv,Z2.mv,z4,λ_ _=>Own.nil _ _ _,(λ_ _ g h=>by cases h),λ_ _ _ _ _ g h=>by cases h⟩;refine cN 6 [] 5 (g.n+1) (λk u=>∃X L,Rw4 w.heap.size bz Q b (enc x) X L u/\LsI g k k 0 0 L/\Stp w u) ⟨_,_,R0,⟨rfl,rfl,rfl,rfl⟩,stp⟩ ?_;clear R0 Z2 z2 z4 F;rintro k gf u hk ⟨X,L,R,I,e⟩;have F:=R.k;refine rld (B:=F) (v:=.int .i64 (g.n:Int)) (by rw [<-hn];rfl) ?_;have i0:=I.l0;have i1:=I.l1;have i2:=I.l2;have i3:=I.l3;refine ite (λhlt=>?_) (λe6=>?_)
 case' refine_2 =>
  have d:k=g.n+1:=by omega
  obtain rfl:=d;have b7:segs g.es (g.n+1)=g.es:=zPB hg.er λe he=>by have:=(hg.ok.ed e he).1;omega
  have b8:segs (g.es.map trnE) (g.n+1)=revL g:=by
   rw [zCy];unfold revL
   rw [show atV (g.es.map trnE) g.n=[] from JA.2 λe he=>by
    have d:=Qq.1 he;obtain⟨e0,h0,rfl⟩:=d;have:=(hg.ok.ed e0 h0).2;have h1:(trnE e0).f=e0.t:=rfl;simp only [decide_eq_true_eq,h1];omega,QE]
  refine rldG (ds:=r4L X L) (B:=R.r) rfl rfl (rS R.z (r4L X L) (by intro u hu;simp [slV] at hu;rcases hu with rfl|rfl|rfl|rfl <;> rfl) λu2 Z2 f2 _=>?_);have Z2:Bk u2 bz (r4L X L) 82:=Z2;refine rresG (B:=Z2) rfl ?_;have O:=λi (hi:i<4)=>(R.o i hi).frc f2 R.z;refine⟨⟨⟨⟨(X 0).a,(L 0).length,(X 0).c⟩,⟨(X 1).a,(L 1).length,(X 1).c⟩,⟨(X 2).a,(L 2).length,(X 2).c⟩,⟨(X 3).a,(L 3).length,(X 3).c⟩⟩,rfl,zMW hg,?_,?_,?_,?_⟩,⟨Fr.st e.e f2 b4⟩⟩
  ·have h:=O 0 (by omega);have q:L 0=offL g.n g.es:=i0;rw [<-q];exact h
  ·have h:=O 1 (by omega);have q:L 1=toL g.es:=by rw [i1,zCj,b7]
   rw [<-q];exact h
  ·have h:=O 2 (by omega);have q:L 2=offL g.n (revL g):=by rw [zPf hg];exact i2
   rw [<-q];exact h
  ·have h:=O 3 (by omega);have q:L 3=toL (revL g):=by rw [i3,zCj,b8]
   rw [<-q];exact h
 have q0:(L 0).length=k:=by rw [i0,zKv]
 have q1:(L 1).length=cLt g.es k:=by rw [i1,zCj,zAx,zEG]
 have q2:(L 2).length=k:=by rw [i2,zKv]
 have q3:(L 3).length=cLt (g.es.map trnE) k:=by rw [i3,zCj,zAx,zEG]
 have c1:=cLt_le g.es k;have c3:=cLt_le (g.es.map trnE) k;refine rX R.r rfl (rX R.r rfl ?_);refine bS (((L 1).length:Nat):Int) λb6 C S _ S4=>?_;have p:=R.up (w':=C);have z4:=lz w C;refine rappD ⟨rfl,rfl⟩ (p.o 0 (by omega)) S4 (by simp) z4 (by simp only [QA,QZ];omega) λv6 u5 T E H=>?_;have d:=T.shape;obtain⟨U,V,rfl⟩:=d;refine rS (p.r.fro (p.o 0 (by omega)) E) [.slice U (L 0++[(((L 1).length:Nat):Int)]).length V] (sv1 _ _ _) λu6 G6 J _=>?_;have s5:Stp w u5:=⟨Fr.st (lE w C) E λi hi=>hi.1⟩;have s6:Stp w u6:=⟨Fr.st s5.e J Y⟩;have R6:=p.put (i:=0) (by omega) (x:=⟨U,0,V⟩) T E H G6 J hz W;have d:∃X1,X1=setF X 0 ⟨U,0,V⟩:=⟨_,rfl⟩;obtain⟨X1,a3⟩:=d;have d:∃K,K=setF L 0 (L 0++[(((L 1).length:Nat):Int)]):=⟨_,rfl⟩;obtain⟨K,M⟩:=d;rw [<-a3,<-M] at R6;have j0:K 0=offK g.es (k+1):=by rw [M,zD5,i0,zJg,q1]
 have j1:K 1=L 1:=by rw [M,zAJ (by decide)]
 have j2:K 2=L 2:=by rw [M,zAJ (by decide)]
 have j3:K 3=L 3:=by rw [M,zAJ (by decide)]
 have b9:(K 2).length=k:=by rw [j2,q2]
 have a4:(K 3).length=cLt (g.es.map trnE) k:=by rw [j3,q3]
 clear R p T;refine rX R6.r rfl (rX R6.r rfl ?_);refine bS (((K 3).length:Nat):Int) λe7 a0 e8 _ c0=>?_;have Z:=R6.up (w':=a0);have c2:=lz w a0;refine rappD ⟨rfl,rfl⟩ (Z.o 2 (by omega)) c0 (by simp) c2 (by simp only [QA,QZ];omega) λe9 c4 a1 a2 a5=>?_;have d:=a1.shape;obtain⟨a6,a7,rfl⟩:=d;refine rS (Z.r.fro (Z.o 2 (by omega)) a2) [.slice a6 (K 2++[(((K 3).length:Nat):Int)]).length a7] (sv1 _ _ _) λc5 c6 a8 _=>?_;have c7:Stp w c4:=⟨Fr.st (lE w a0) a2 λi hi=>hi.1⟩;have c8:Stp w c5:=⟨Fr.st c7.e a8 Y⟩;have a9:=Z.put (i:=2) (by omega) (x:=⟨a6,0,a7⟩) a1 a2 a5 c6 a8 hz W
 have I2:LsI g (k+1) k 0 0 (setF K 2 (K 2++[(((K 3).length:Nat):Int)])):=by
  refine⟨?_,?_,?_,?_⟩
  ·rw [zAJ (by decide),j0]
  ·rw [zAJ (by decide),j1,i1]
  ·rw [zD5,j2,i2,zJg,a4]
  ·rw [zAJ (by decide),j3,i3]
 clear Z a1 R6;refine cN 7 [] 6 g.es.length (λj u'=>∃X L,Rw4 w.heap.size bz Q b (enc x) X L u'/\LsI g (k+1) k j j L/\Stp w u') ⟨_,_,a9,I2,c8⟩ ?_;clear a9 I2 i0 i1 i2 i3 q0 q1 q2 q3 j0 j1 j2 j3 b9 a4 M a3 F I;rintro j f0 u' hj ⟨X,L,R,I,e⟩;have F:=R.k;refine rX F rfl (ite (λd4=>?_) (λd5=>?_))
 case' refine_2 =>
  have d:j=g.es.length:=by omega
  obtain rfl:=d;refine rA ⟨rfl,by omega,X,L,R,⟨I.l0,?_,I.l2,?_⟩,e⟩
  ·rw [I.l1,zM3,zCj]
  ·rw [zCj,<-zM3,b3];exact I.l3
 have l:j<g.es.length:=by omega
 have c9:j<(g.es.map trnE).length:=by omega
 have d0:(g.es.map trnE)[j]=trnE g.es[j]:=Ym _;have i1:=I.l1;have i3:=I.l3;have t1:=zLs (v:=k) l;have t3:=zLs (v:=k) c9;rw [d0] at t3;have q1:=zM4 g.es k j;have q3:=zM4 (g.es.map trnE) k j;refine rX F rfl (rix (P.es.up (w':=u')) (x:=g.es[j]) (by simp) λb2 o2 A2=>rload1 (A2.cell 0 rfl) (ite (λhe=>?_) (λb1=>?_)))
 case' refine_2 =>
  rw [if_neg (show ¬g.es[j].f=k by omega)] at t1;have A:LsI g (k+1) k (j+1) j L:=⟨I.l0,by rw [t1];exact i1,I.l2,i3⟩;have d:∃uu,uu=u':=⟨_,rfl⟩;obtain⟨uu,d1⟩:=d;subst d1;have F:=R.k;refine rX F rfl (rix (P.es.up (w':=uu)) (x:=g.es[j]) (by simp) λb2 o2 A2=>rload1 (A2.cell 1 rfl) (ite (λd2=>?_) (λb0=>?_)))
  case' refine_2 =>
   rw [if_neg (show ¬(trnE g.es[j]).f=k by show ¬g.es[j].t=k;omega)] at t3;exact rA ⟨rfl,l,X,L,R,⟨A.l0,A.l1,A.l2,by rw [t3];exact A.l3⟩,e⟩
  rw [if_pos (show (trnE g.es[j]).f=k by show g.es[j].t=k;omega)] at t3;have d3:(L 3).length<=1000000:=by rw [A.l3];omega
  refine cutR0 67 [] (λm=>∃X',Rw4 w.heap.size bz Q b (enc x) X' (setF L 3 (L 3++[(g.es[j].f:Int)])) m/\Stp w m) rfl ?_ ?_
  case' refine_2 =>
   rintro g3 m ⟨X',R',e'⟩;exact rA ⟨rfl,l,X',_,R',⟨by rw [zAJ (by decide)];exact A.l0,by rw [zAJ (by decide)];exact A.l1,by rw [zAJ (by decide)];exact A.l2,by rw [zD5,t3,A.l3];rfl⟩,e'⟩
  refine dT (λi=>i=Q\/ownD w.heap.size (slV (X 3) (L 3)) i) (oL [0,2,3,4,5,6,7] (.duo 1 (oL [8,9,10,11] .nil) 8 (.lone 1 (oL [9,10,11] .nil)))) λm e3=>?_;have G:=R.up (w':=m);have B3:=F.mv (w:=m);refine tX B3 rfl (λhd=>hd.elim (B3.ne G.r (by decide)) (B3.notOwn (G.o 3 (by omega)))) ?_
  refine tix (P.es.up (w':=m)) (x:=g.es[j]) (by simp) λb5 o5 A5 h5=>tload1 (A5.cell 0 rfl) (λhd=>by
   obtain⟨b6,h7,h6⟩:=P.es.lt (by intro h0;rw [h0] at l;simp at l);rw [h5] at h7;cases h7;rcases hd with hd|hd
   ·omega
   ·have:=hd.1;omega) ?_
  refine⟨?_,?_⟩
  case' refine_1 =>
   refine rX G.r rfl ⟨Fr.refl _ _,?_⟩;refine bS (g.es[j].f:Int) λb6 C S _ S4=>⟨Fr.fr S.e,?_⟩
  case' refine_2 =>
   refine bS (g.es[j].f:Int) λb6 C S _ S4=>⟨Fr.fr S.e,?_⟩;refine rX G.r rfl ⟨Fr.refl _ _,?_⟩
  all_goals
   have p:=G.up (w':=C);have z4:=lz w C;refine rappD ⟨rfl,rfl⟩ (p.o 3 (by omega)) S4 (by simp) z4 (by simp only [QA,QZ];omega) λv6 u5 T E H=>⟨E.mono λi _ hi=>.inr hi,?_⟩;have d:=T.shape;obtain⟨U,V,rfl⟩:=d;refine rS (p.r.fro (p.o 3 (by omega)) E) [.slice U (L 3++[(g.es[j].f:Int)]).length V] (sv1 _ _ _) λu6 G6 J _=>⟨J.mono λi _ hi=>.inl hi,?_⟩;have s5:Stp w u5:=⟨Fr.st (lE w C) E λi hi=>hi.1⟩;exact⟨_,p.put (i:=3) (by omega) (x:=⟨U,0,V⟩) T E H G6 J hz W,⟨Fr.st s5.e J Y⟩⟩
 rw [if_pos (show g.es[j].f=k by omega)] at t1;have f1:(L 1).length<=1000000:=by rw [i1];omega
 refine cutR0 48 [] (λm=>∃X',Rw4 w.heap.size bz Q b (enc x) X' (setF L 1 (L 1++[(g.es[j].t:Int)])) m/\Stp w m) rfl ?_ ?_
 case' refine_1 =>
  refine dT (λi=>i=Q\/ownD w.heap.size (slV (X 1) (L 1)) i) (oL [0,2,3,4,5,6,7] (.duo 1 (oL [8,9,10,11] .nil) 8 (.lone 1 (oL [9,10,11] .nil)))) λm e3=>?_;have G:=R.up (w':=m);have B3:=F.mv (w:=m);refine tX B3 rfl (λhd=>hd.elim (B3.ne G.r (by decide)) (B3.notOwn (G.o 1 (by omega)))) ?_
  refine tix (P.es.up (w':=m)) (x:=g.es[j]) (by simp) λb5 o5 A5 h5=>tload1 (A5.cell 1 rfl) (λhd=>by
   obtain⟨b6,h7,h6⟩:=P.es.lt (by intro h0;rw [h0] at l;simp at l);rw [h5] at h7;cases h7;rcases hd with hd|hd
   ·omega
   ·have:=hd.1;omega) ?_
  refine⟨?_,?_⟩
  case' refine_1 =>
   refine rX G.r rfl ⟨Fr.refl _ _,?_⟩;refine bS (g.es[j].t:Int) λb6 C S _ S4=>⟨Fr.fr S.e,?_⟩
  case' refine_2 =>
   refine bS (g.es[j].t:Int) λb6 C S _ S4=>⟨Fr.fr S.e,?_⟩;refine rX G.r rfl ⟨Fr.refl _ _,?_⟩
  all_goals
   have p:=G.up (w':=C);have z4:=lz w C;refine rappD ⟨rfl,rfl⟩ (p.o 1 (by omega)) S4 (by simp) z4 (by simp only [QA,QZ];omega) λv6 u5 T E H=>⟨E.mono λi _ hi=>.inr hi,?_⟩;have d:=T.shape;obtain⟨U,V,rfl⟩:=d;refine rS (p.r.fro (p.o 1 (by omega)) E) [.slice U (L 1++[(g.es[j].t:Int)]).length V] (sv1 _ _ _) λu6 G6 J _=>⟨J.mono λi _ hi=>.inl hi,?_⟩;have s5:Stp w u5:=⟨Fr.st (lE w C) E λi hi=>hi.1⟩;exact⟨_,p.put (i:=1) (by omega) (x:=⟨U,0,V⟩) T E H G6 J hz W,⟨Fr.st s5.e J Y⟩⟩
 rintro g3 uu ⟨X',R',e⟩;have d:∃L',L'=setF L 1 (L 1++[(g.es[j].t:Int)]):=⟨_,rfl⟩;obtain⟨L',N⟩:=d;rw [<-N] at R';have A:LsI g (k+1) k (j+1) j L':=⟨by rw [N,zAJ (by decide)];exact I.l0,by rw [N,zD5,t1,i1],by rw [N,zAJ (by decide)];exact I.l2,by rw [N,zAJ (by decide)];exact i3⟩;clear R N i1 i3 I F;have R:=R';have d:∃L,L=L':=⟨_,rfl⟩;obtain⟨L,rfl⟩:=d;have d:∃X,X=X':=⟨_,rfl⟩;obtain⟨X,rfl⟩:=d;have F:=R.k;refine rX F rfl (rix (P.es.up (w':=uu)) (x:=g.es[j]) (by simp) λb2 o2 A2=>rload1 (A2.cell 1 rfl) (ite (λd2=>?_) (λb0=>?_)))
 case' refine_2 =>
  rw [if_neg (show ¬(trnE g.es[j]).f=k by show ¬g.es[j].t=k;omega)] at t3;exact rA ⟨rfl,l,X,L,R,⟨A.l0,A.l1,A.l2,by rw [t3];exact A.l3⟩,e⟩
 rw [if_pos (show (trnE g.es[j]).f=k by show g.es[j].t=k;omega)] at t3;have d3:(L 3).length<=1000000:=by rw [A.l3];omega
 refine cutR0 67 [] (λm=>∃X',Rw4 w.heap.size bz Q b (enc x) X' (setF L 3 (L 3++[(g.es[j].f:Int)])) m/\Stp w m) rfl ?_ ?_
 case' refine_2 =>
  rintro g3 m ⟨X',R',e'⟩;exact rA ⟨rfl,l,X',_,R',⟨by rw [zAJ (by decide)];exact A.l0,by rw [zAJ (by decide)];exact A.l1,by rw [zAJ (by decide)];exact A.l2,by rw [zD5,t3,A.l3];rfl⟩,e'⟩
 refine dT (λi=>i=Q\/ownD w.heap.size (slV (X 3) (L 3)) i) (oL [0,2,3,4,5,6,7] (.duo 1 (oL [8,9,10,11] .nil) 8 (.lone 1 (oL [9,10,11] .nil)))) λm e3=>?_;have G:=R.up (w':=m);have B3:=F.mv (w:=m);refine tX B3 rfl (λhd=>hd.elim (B3.ne G.r (by decide)) (B3.notOwn (G.o 3 (by omega)))) ?_
 refine tix (P.es.up (w':=m)) (x:=g.es[j]) (by simp) λb5 o5 A5 h5=>tload1 (A5.cell 0 rfl) (λhd=>by
  obtain⟨b6,h7,h6⟩:=P.es.lt (by intro h0;rw [h0] at l;simp at l);rw [h5] at h7;cases h7;rcases hd with hd|hd
  ·omega
  ·have:=hd.1;omega) ?_
 refine⟨?_,?_⟩
 case' refine_1 =>
  refine rX G.r rfl ⟨Fr.refl _ _,?_⟩;refine bS (g.es[j].f:Int) λb6 C S _ S4=>⟨Fr.fr S.e,?_⟩
 case' refine_2 =>
  refine bS (g.es[j].f:Int) λb6 C S _ S4=>⟨Fr.fr S.e,?_⟩;refine rX G.r rfl ⟨Fr.refl _ _,?_⟩
 all_goals
  have p:=G.up (w':=C);have z4:=lz w C;refine rappD ⟨rfl,rfl⟩ (p.o 3 (by omega)) S4 (by simp) z4 (by simp only [QA,QZ];omega) λv6 u5 T E H=>⟨E.mono λi _ hi=>.inr hi,?_⟩;have d:=T.shape;obtain⟨U,V,rfl⟩:=d;refine rS (p.r.fro (p.o 3 (by omega)) E) [.slice U (L 3++[(g.es[j].f:Int)]).length V] (sv1 _ _ _) λu6 G6 J _=>⟨J.mono λi _ hi=>.inl hi,?_⟩;have s5:Stp w u5:=⟨Fr.st (lE w C) E λi hi=>hi.1⟩;exact⟨_,p.put (i:=3) (by omega) (x:=⟨U,0,V⟩) T E H G6 J hz W,⟨Fr.st s5.e J Y⟩⟩
theorem zCg{x:AnsD}{id b:Int}{a:AnP}{w:World}(l:x.found=a.found)(m:x.num=a.num)(h:SlF w (.slice x.s.a x.s.n x.s.c) a.hits)(o:a.hits.length<=1000000):
  Sp PP 123 #[agg (⟨id,b,x⟩:RepD)] w λv w'=>(∃e:Int,v=.tuple #[txt (repB id b a),.int .i64 e])/\Stp w w':=by
 have d:=zK6 (y:=⟨id,b,x⟩) (p:=(id,b,a)) rfl rfl l m;refine(zHZ (x:=⟨id,b,x⟩) h o).mono λv w' ⟨q,e⟩=>⟨?_,e⟩;rcases q with ⟨f,rfl⟩|⟨f,rfl⟩
 ·exact⟨0,by rw [zIC (d.1.1 f),d.2]⟩
 ·exact⟨1,by rw [zIB λr=>f (d.1.2 r)]⟩
theorem zAC{id b:Int}{w:World}:Sp PP 67 #[.int .i64 id,.int .i64 b] w λv w'=>v=txt (repB id b zAn)/\Stp w w':=by
 refine eN ?_;refine rbuild (cs:=enc (⟨id,b,⟨false,0,⟨none,0,0⟩⟩⟩:RepD)) rfl (rcall (zCg (a:=zAn) rfl rfl (SlF.nil' _ _ _) (by simp [zAn])) ?_);rintro _ w1 ⟨⟨e,rfl⟩,c⟩;exact⟨rfl,c⟩
theorem zJM{x:RCfg}{w:World}:Sp PP 46 #[agg x] w λv w'=>Tells (cfgOk x) v/\Stp w w':=by
 unfold cfgOk;refine eN ?_;refine rbx λb w1 n1 c=>rld (B:=c) (v:=.int .i64 x.workers) rfl (ite (λe=>?_) (λe=>⟨.f (by omega),stp⟩));refine rld (B:=c) (v:=.int .i64 x.workers) rfl (ite (λh=>?_) (λh=>⟨.f (by omega),stp⟩));refine rld (B:=c) (v:=.int .i64 x.slots) rfl (ite (λl=>?_) (λl=>⟨.f (by omega),stp⟩));refine rld (B:=c) (v:=.int .i64 x.slots) rfl (ite (λm=>?_) (λm=>⟨.f (by omega),stp⟩));refine rld (B:=c) (v:=.int .i64 x.queue) rfl (ite (λo=>?_) (λo=>⟨.f (by omega),stp⟩));refine rld (B:=c) (v:=.int .i64 x.queue) rfl (ite (λp=>?_) (λp=>⟨.f (by omega),stp⟩));refine rld (B:=c) (v:=.int .i64 x.pool) rfl (ite (λq=>?_) (λq=>⟨.f (by omega),stp⟩));refine rld (B:=c) (v:=.int .i64 x.pool) rfl (ite (λr=>?_) (λr=>⟨.f (by omega),stp⟩));refine rld (B:=c) (v:=.int .i64 x.budget) rfl (ite (λs=>?_) (λs=>⟨.f (by omega),stp⟩));refine rld (B:=c) (v:=.int .i64 x.budget) rfl ?_;exact ite (λd=>⟨.t ⟨⟨e,h⟩,⟨l,m⟩,⟨o,p⟩,⟨q,r⟩,s,d⟩,stp⟩) (λd=>⟨.f (by omega),stp⟩)
structure RRun where
 states:SV
 mails:SV
 steps:Int
instance encRun:Enc RRun:=⟨3,λx=>[.slice x.states.a x.states.n x.states.c,.slice x.mails.a x.mails.n x.mails.c,.int .i64 x.steps],λ_=>rfl,by intro x u hu;simp at hu;rcases hu with rfl|rfl|rfl <;> rfl,by decide⟩
def zRun:RRun:=⟨⟨none,0,0⟩,⟨none,0,0⟩,0⟩
structure RefK where
 br:Nat
 xr:RRow
 r:List EdN
 ws:SV
 wl:List ByteArray
 ps:List RPo
abbrev refL (c : CfD) (K : RefK) (wt hd : SV) : List Value :=
  [.int .i64 (c.workers : Nat), .int .i64 (c.slots : Nat), .int .i64 (c.queue : Nat), .int .i64 (c.pool : Nat), .int .i64 (c.budget : Nat),
   .slice K.xr.off.a K.xr.off.n K.xr.off.c, .slice K.xr.to.a K.xr.to.n K.xr.to.c, .slice K.xr.rof.a K.xr.rof.n K.xr.rof.c, .slice K.xr.rev.a K.xr.rev.n K.xr.rev.c,
   .slice K.ws.a K.ws.n K.ws.c, .slice wt.a wt.n wt.c, .slice hd.a hd.n hd.c, .slice (some ⟨K.br, 0, none⟩) c.slots c.slots]
def RunOk (w:World) (g:GrD) (x:RHeld) (j:RRun) (o:Option (RqD×Nat)) (k:Nat):Prop:=match o with
 |none=>x.used=false/\j=zRun
 |some (d,i)=>x.used=true/\RqV w x.r d/\SlF w j.states.v (sts g d.q k i)/\SlF w j.mails.v (mls g d.q k i)/\j.steps=i
structure RefF (g:GrD) (c:CfD) (K:RefK) (wt hd:SV) (lw:List RReq) (lh:List RHeld) (lr:List RRun) (s:SvD) (w:World):Prop where
 rows:RwF w K.xr g K.r
 pos:PosM w g K.wl K.ps
 words:SlF w (.slice K.ws.a K.ws.n K.ws.c) K.ps
 fw:SlF w (.slice wt.a wt.n wt.c) lw
 fh:SlF w (.slice hd.a hd.n hd.c) lh
 lwn:lw.length=s.wait.length
 waits:∀i (h:i<lw.length) (h':i<s.wait.length),RqV w lw[i] s.wait[i]
 lhn:lh.length=s.held.length
 lrn:lr.length=s.held.length
 helds:∀k (h:k<lh.length) (h':k<lr.length),RunOk w g lh[k] lr[k] (s.held.getD k none) k
structure SvW (g:GrD) (c:CfD) (s:SvD):Prop where
 len:s.held.length=c.slots
 wl:s.wait.length<=c.queue
 wait:∀x∈s.wait,RqOk g x
 held:∀x i,some (x,i)∈s.held->RqOk g x/\i<=c.budget
theorem SvOk.w{c:CfD}{s:SvD}(h:SvOk g c s):SvW g c s:=⟨h.len,h.wl,h.wait,λx i b=>⟨(h.held x i b).1,Yj (h.held x i b).2⟩⟩
theorem SvW.set{c:CfD}{s:SvD}(h:SvW g c s)(k:Nat)(o:Option (RqD×Nat))(b:∀x i,o=some (x,i)->RqOk g x/\i<=c.budget):SvW g c ⟨s.wait,s.held.set k o⟩:=
 ⟨by simpa using h.len,h.wl,h.wait,λx i d=>(zCd d).elim (h.held x i) (b x i)⟩
def mutR (bs br:Nat):Nat->Prop:=λi=>i=bs\/i=br
structure RefR (R:Nat->Prop) (B:Nat) (w:World) (bs:Nat) (g:GrD) (c:CfD) (s:SvD) (K:RefK) (wt hd:SV) (lw:List RReq) (lh:List RHeld) (lr:List RRun):Prop where
 reg:∀i,R i->B<=i/\i<w.heap.size
 rs:R bs
 rj:R K.br
 ne:bs≠K.br
 cell:Bk w bs (refL c K wt hd) 98
 runs:Own B 114 w (.slice (some ⟨K.br,0,none⟩) c.slots c.slots) lr
 fz:Fz (mutR bs K.br) R w (RefF g c K wt hd lw lh lr s)
 gi:GrIs g
 ci:CfOk c
 ps:K.ps.length<=2000
 so:SvW g c s
def RefP (R:Nat->Prop) (B:Nat) (w:World) (bs:Nat) (g:GrD) (c:CfD) (s:SvD):Prop:=∃K wt hd lw lh lr,RefR R B w bs g c s K wt hd lw lh lr
section
variable {R:Nat->Prop} {B:Nat} {w0 w w':World} {bs:Nat} {g:GrD} {c:CfD} {s:SvD} {K:RefK} {wt hd:SV} {lw:List RReq} {lh:List RHeld} {lr:List RRun}
theorem RefR.mut(S:RefR R B w bs g c s K wt hd lw lh lr)(h:mutR bs K.br i):R i:=h.elim (λh=>h ▸ S.rs) λh=>h ▸ S.rj
theorem RefR.away(S:RefR R B w bs g c s K wt hd lw lh lr)(f:Fr D w w')(b:∀i,D i->¬R i):RefR R B w' bs g c s K wt hd lw lh lr:=
 ⟨λi hi=>⟨(S.reg i hi).1,QJ (S.reg i hi).2 f.size⟩,S.rs,S.rj,S.ne,S.cell.fr f λh=>b _ h S.rs,S.runs.fr f λg _ d h=>by cases d;exact b _ h S.rj,
  S.fz.away f b,S.gi,S.ci,S.ps,S.so⟩
theorem RefP.away(S:RefP R B w bs g c s)(f:Fr D w w')(b:∀i,D i->¬R i):RefP R B w' bs g c s:=by
 obtain⟨K,wt,hd,lw,lh,lr,S⟩:=S;exact⟨K,wt,hd,lw,lh,lr,S.away f b⟩
theorem RefR.up[L:Le w w'](S:RefR R B w bs g c s K wt hd lw lh lr):RefR R B w' bs g c s K wt hd lw lh lr:=S.away L.e λ_ h=>h.elim
theorem RefP.up[L:Le w w'](S:RefP R B w bs g c s):RefP R B w' bs g c s:=S.away L.e λ_ h=>h.elim
theorem RefR.wide{R':Nat->Prop}(S:RefR R B w bs g c s K wt hd lw lh lr)(h:∀i,R i->R' i)(b:∀i,R' i->B<=i/\i<w.heap.size):RefR R' B w bs g c s K wt hd lw lh lr:=
 ⟨b,h _ S.rs,h _ S.rj,S.ne,S.cell,S.runs,λu f=>S.fz u (f.mono λi _ d=>d.imp id λe l=>e (h i l)),S.gi,S.ci,S.ps,S.so⟩
theorem RefP.wide{R':Nat->Prop}(S:RefP R B w bs g c s)(h:∀i,R i->R' i)(b:∀i,R' i->B<=i/\i<w.heap.size):RefP R' B w bs g c s:=by
 obtain⟨K,wt,hd,lw,lh,lr,S⟩:=S;exact⟨K,wt,hd,lw,lh,lr,S.wide h b⟩
theorem RefP.reg(S:RefP R B w bs g c s):(∀i,R i->B<=i/\i<w.heap.size)/\GrIs g/\CfOk c/\SvW g c s:=by
 obtain⟨K,wt,hd,lw,lh,lr,S⟩:=S;exact⟨S.reg,S.gi,S.ci,S.so⟩
theorem RefP.lo(S:RefP R B w bs g c s):∀i,R i->i<w.heap.size:=λi hi=>(S.reg.1 i hi).2
theorem RefR.finR{s':SvD}{b d:SV}{l:List RReq}{m:List RHeld}{h:List RRun}(S:RefR R B w bs g c s K wt hd lw lh lr)(e:w.heap.size<=w1.heap.size)(f:Fr (mutR bs K.br) w1 w')(r:B<=w.heap.size)
  (C:Bk w' bs (refL c K b d) 98)(J:Own B 114 w' (.slice (some ⟨K.br,0,none⟩) c.slots c.slots) h)(p:SvW g c s')
  (Z:Fz (mutR bs K.br) (gR R w w1) w1 (RefF g c K b d l m h s')):RefR (gR R w w') B w' bs g c s' K b d l m h:=by
 have t:=f.size;refine⟨λi hi=>?_,.inl S.rs,.inl S.rj,S.ne,C,J,?_,S.gi,S.ci,S.ps,p⟩
 ·rcases hi with hi|hi
  ·have:=S.reg i hi;omega
  ·omega
 ·refine Z.step f (λi hi q=>q) λi hi o=>?_;rcases o with o|o
  ·exact .inl o
  ·exact .inr (by omega)
theorem RefR.fin{s':SvD}{b d:SV}{l:List RReq}{m:List RHeld}{h:List RRun}(S:RefR R B w bs g c s K wt hd lw lh lr)(e:w.heap.size<=w1.heap.size)(f:Fr (mutR bs K.br) w1 w')(o:B<=w.heap.size)
  (C:Bk w' bs (refL c K b d) 98)(J:Own B 114 w' (.slice (some ⟨K.br,0,none⟩) c.slots c.slots) h)(p:SvW g c s')
  (Z:Fz (mutR bs K.br) (gR R w w1) w1 (RefF g c K b d l m h s')):RefP (gR R w w') B w' bs g c s':=
 ⟨K,b,d,l,m,h,S.finR e f o C J p Z⟩
theorem RefR.fz1[L:Le w w'](S:RefR R B w bs g c s K wt hd lw lh lr):Fz (mutR bs K.br) (gR R w w') w' (RefF g c K wt hd lw lh lr s):=
 S.fz.step (Fr.fr L.e) (λ_ _ h=>h) λ_ _ h=>.inl h
theorem RefR.fzO{α:Type}[Enc α]{C:Nat}{e:TypeId}{v:Value}{l:List α}(S:RefR R B w bs g c s K wt hd lw lh lr)(O:Own C e w' v l)(d:w.heap.size<=C):Fz (mutR bs K.br) (gR R w w') w' λu=>SlF u v l:=
 O.fz λi f b=>⟨.inr ⟨by omega,b⟩,λh=>by have:=S.reg i (S.mut h);omega⟩
theorem RefP.new[L:Le w w'](S:RefP R B w bs g c s)(b:B<=w.heap.size):RefP (gR R w w') B w' bs g c s/\Fr R w w':=by
 have h:=S.reg;refine⟨RefP.wide (RefP.up S) (λi hi=>.inl hi) λi hi=>?_,Fr.fr L.e⟩;have:=L.e.size;rcases hi with hi|hi
 ·have:=h.1 i hi;omega
 ·omega
theorem RefP.gr[L:Le w w1](S:RefP (gR R w1 w') B w' bs g c s)(h:w1.heap.size<=w'.heap.size)(b:B<=w.heap.size):RefP (gR R w w') B w' bs g c s:=by
 have h0:=S.reg;have:=L.e.size;refine RefP.wide S (λi hi=>hi.imp id λh=>by omega) λi hi=>?_;rcases hi with hi|hi
 ·exact h0.1 i (.inl hi)
 ·omega
theorem RefP.upto{R':Nat->Prop}[L:Le w1 w'](S:RefP R' B w1 bs g c s)(h:∀i,R' i->R i\/w.heap.size<=i)(b:∀i,R i->B<=i/\i<w.heap.size)(d:B<=w.heap.size)(f:w.heap.size<=w1.heap.size):RefP (gR R w w') B w' bs g c s:=by
 have h0:=S.reg.1;have:=L.e.size;refine RefP.wide (RefP.up (w':=w') S) (λi hi=>?_) λi hi=>?_
 ·have:=h0 i hi;exact(h i hi).imp id λh=>by omega
 ·rcases hi with hi|hi
  ·have:=b i hi;omega
  ·omega
theorem zLh{b:Hs}{k0:Nat}{a:RHeld}{j:RRun}{o:Option (RqD×Nat)}(d:k0<b.length)(H:∀k (h:k<lh.length) (f:k<lr.length),RunOk u g lh[k] lr[k] (b.getD k none) k)(h:RunOk u g a j o k0):
  ∀k (h:k<(lh.set k0 a).length) (f:k<(lr.set k0 j).length),RunOk u g (lh.set k0 a)[k] (lr.set k0 j)[k] ((b.set k0 o).getD k none) k:=λk l m=>by
 rw [zAA d];by_cases e:k=k0
 ·subst e;rw [if_pos rfl,JX,JX];exact h
 ·rw [if_neg e,JT (Jq e),JT (Jq e)];exact H k (by simpa using l) (by simpa using m)
theorem zPA{f:Hs}{k0:Nat}{b:RRun}{d:RqD}{l:Nat}(p:k0<f.length)(e:f.getD k0 none=some (d,i))(H:∀k (h:k<lh.length) (r:k<lr.length),RunOk u g lh[k] lr[k] (f.getD k none) k)
  (h:SlF u b.states.v (sts g d.q k0 l)/\SlF u b.mails.v (mls g d.q k0 l)/\b.steps=l):
  ∀k (h:k<lh.length) (r:k<(lr.set k0 b).length),RunOk u g lh[k] (lr.set k0 b)[k] ((f.set k0 (some (d,l))).getD k none) k:=λk t x=>by
 have m:=H k t (by simpa using x);rw [zAA p];by_cases o:k=k0
 ·subst o;rw [if_pos rfl,JX];rw [e] at m;exact⟨m.1,m.2.1,h⟩
 ·rw [if_neg o,JT (Jq o)];exact m
theorem RefF.jobs(l:RefF g c K wt hd lw lh lr s u):∀k (h:k<lh.length) (f:k<(lr.map λj=>(⟨j.mails,j.steps⟩:RJob)).length),HeldOk 1000 u g lh[k] (lr.map λj=>(⟨j.mails,j.steps⟩:RJob))[k] (s.held.getD k none) k:=λk h f=>by
 have b:=l.helds k h (by simpa using f)
 cases e:s.held.getD k none with
 |none=>rw [e] at b;exact b.1
 |some p=>obtain⟨d,i⟩:=p;rw [e] at b;exact⟨b.1,b.2.1,λ_=>by rw [Ym];exact b.2.2.2⟩
theorem RefF.plc(b:RefF g c K wt hd lw lh lr s u)(id:Int):plc lw id=waitAt s.wait id:=zKF b.lwn (λi h d=>(b.waits i h d).id) id
theorem RefF.found(b:RefF g c K wt hd lw lh lr s u)(id:Int):foundAt lh id=heldAt s.held id:=zHA b.lhn (by simp [b.lrn]) b.jobs id
theorem RefF.usedH(b:RefF g c K wt hd lw lh lr s u):usedH lh=(usedS s.held).map λk:Nat=>(k:Int):=by
 unfold Go.W.usedH usedAt usedS;rw [b.lhn];congr 1;unfold selN;refine XC λk f=>?_;have f:=Q0.1 f;have h:k<lh.length:=by rw [b.lhn];exact f
 have:=b.helds k h (by rw [b.lrn];exact f);rw [zAq h]
 cases e:s.held.getD k none with
 |none=>rw [e] at this;simp [this.1]
 |some p=>obtain⟨d,i⟩:=p;rw [e] at this;simp [this.1]
theorem RefF.free(f:RefF g c K wt hd lw lh lr s u):freeAt lh=freeS s.held:=by
 have l:freeAt lh=(lh.map (·.used)).findIdx? λb=>!b:=by unfold freeAt;rw [VH];rfl
 have m:freeS s.held=(s.held.map (·.isSome)).findIdx? λb=>!b:=by unfold freeS;rw [VH];congr 1;funext o;cases o <;> rfl
 rw [l,m];congr 1;refine zF4 f.lhn λk q h=>?_;have:=f.helds k q (by rw [f.lrn];exact h);rw [Qk,Qd h,QP] at this
 cases e:s.held[k] with
 |none=>rw [e] at this;simpa using this.1
 |some p=>obtain⟨d,j⟩:=p;rw [e] at this;simpa using this.1
theorem RefF.off(b:RefF g c K wt hd lw lh lr s u):K.xr.off.n=g.n+1:=by
 have:=b.rows.off.len;rw [zAp] at this;exact this
theorem RefR.small(S:RefR R B w bs g c s K wt hd lw lh lr):lw.length<=1000/\lh.length<=64/\lr.length=c.slots/\c.slots<=64:=by
 have b:=S.fz.here;have:=S.so.len;have:=S.so.wl;have:=S.ci.slots;have:=S.ci.queue;have:=b.lrn;rw [b.lwn,b.lhn];omega
theorem RefR.waits[L:Le w w1]{s':SvD}{f:Option Addr}{l:Nat}{b:List RReq}(S:RefR R B w bs g c s K wt hd lw lh lr)(m:B<=w.heap.size)
  (o:Bk w2 bs (refL c K ⟨f,b.length,l⟩ hd) 98)(d:Fr (λi=>i=bs) w1 w2)(p:SvW g c s')
  (q:Fz (mutR bs K.br) (gR R w w1) w1 (RefF g c K ⟨f,b.length,l⟩ hd b lh lr s')):RefP (gR R w w2) B w2 bs g c s'/\∀u,Le u w1->Fr R u w2:=by
 have z:=L.e.size;refine⟨S.fin z (d.mono λi _ h=>.inl h) m o ((S.runs.up (w':=w1)).fr d λg _ r h=>by cases r;exact S.ne h.symm) p q,λu t=>(Fr.fr t.e).trans (d.mono λi _ h=>h ▸ S.rs)⟩
theorem zFF{k0:Nat}{x:RqD}(S:RefR R B w bs g c s K wt hd lw lh lr)(t:s.held.getD k0 none=some (x,i))(F:B<=w.heap.size):
  Sp PP 121 #[.pointer (some ⟨bs,0,none⟩),.int .i64 (k0:Int)] w λ_ w'=>RefP (gR R w w') B w' bs g c ⟨s.wait,s.held.set k0 none⟩/\Fr (mutR bs K.br) w w':=by
 have p:=(zAo t).1;have l:=S.fz.here;have G:=S.small;have d:k0<lh.length:=by rw [l.lhn];exact p
 have e:k0<lr.length:=by rw [l.lrn];exact p
 have q:lh[k0].used=true:=by
  have:=l.helds k0 d e;rw [t] at this;exact this.1
 have D:=zL6 (i:=(k0:Int)) l.fh (by omega)
 have r:dropH lh (k0:Int)=(lh.set k0 zeroH,0):=by
  unfold dropH;rw [if_neg (by omega),QW,zAq d,if_pos q]
 rw [r] at D;have H:=S.reg _ S.rj;refine eN ?_;refine rX S.cell rfl (rcall D ?_);rintro _ w1 ⟨⟨O,rfl,v⟩,P⟩;have I:=v.shape;obtain⟨y,z,rfl⟩:=I;refine rS S.cell [.slice y (lh.set k0 zeroH).length z] (sv1 _ _ _) λw2 m A _=>?_;have m:Bk w2 bs (refL c K wt ⟨y,(lh.set k0 zeroH).length,z⟩) 98:=m;refine rX m rfl (rbuild (cs:=enc zRun) rfl ?_);have C:=(S.runs.up (w':=w1)).fr A (λg _ J h=>by cases J;exact S.ne h.symm);refine rixO rfl C (x:=lr[k0]) (by simp) λQ hgj _ _=>rstO' rfl zRun C hgj e rfl λE L o _=>?_;have o:Fr (λi=>i=K.br) w2 E:=o.mono λi _ hi=>bjD hi;have f:Fr (mutR bs K.br) w1 E:=(A.mono λi _ hi=>.inl hi).trans (o.mono λi _ hi=>.inr hi);have M:=m.fr o S.ne
 refine⟨S.fin (lz w w1) f F M L (S.so.set k0 none λ_ _ h=>nomatch h) (((S.fz1 (w':=w1)).and (S.fzO v (Qe _))).imp λu ⟨b,N⟩ =>
   ⟨b.rows,b.pos,b.words,b.fw,N,b.lwn,b.waits,by simp [b.lhn],by simp [b.lrn],zLh p b.helds ⟨rfl,rfl⟩⟩),?_⟩
 exact(fE w w1).trans f
theorem zL8{k0:Nat}{x:RqD}(S:RefP R B w bs g c s)(b:s.held.getD k0 none=some (x,i))(d:B<=w.heap.size):
  Sp PP 121 #[.pointer (some ⟨bs,0,none⟩),.int .i64 (k0:Int)] w λ_ w'=>RefP (gR R w w') B w' bs g c ⟨s.wait,s.held.set k0 none⟩/\Fr R w w':=by
 obtain⟨K,wt,hd,lw,lh,lr,S⟩:=S;exact(zFF S b d).mono λv w' h=>⟨h.1,h.2.mono λi _ h=>S.mut h⟩
def cumL (g:GrD) (W:Nat) (h:Hs) (i p:Nat):Nat:=((List.range i).map λk=>cntW g W p (h.getD k none) k).sum
theorem zIY(g:GrD)(W:Nat)(h:Hs)(i p:Nat):cumL g W h (i+1) p=cumL g W h i p+cntW g W p (h.getD i none) i:=by
 unfold cumL;rw [Jm,QB,XV];simp
def cumI (g:GrD) (W:Nat) (h:Hs) (i k:Nat):List Int:=(List.range W).map λp=>((if p<k then cumL g W h (i+1) p else cumL g W h i p:Nat):Int)
theorem zKc(g:GrD)(W:Nat)(h:Hs)(i k:Nat):(cumI g W h i k).length=W:=by simp [cumI]
theorem zOW{g:GrD}{W:Nat}{h:Hs}(d:k<W):(cumI g W h i k).set k ((cumL g W h i k:Int)+(cntW g W k (h.getD i none) i:Int))=cumI g W h i (k+1):=by
 unfold cumI;rw [zCx d];apply Ja;intro p _;by_cases e:p=k
 ·subst e;rw [if_pos rfl,if_pos (by omega),zIY];push_cast;rfl
 ·rw [if_neg e];by_cases b:p<k
  ·rw [if_pos b,if_pos (by omega)]
  ·rw [if_neg b,if_neg (by omega)]
theorem zOV(g:GrD)(W:Nat)(h:Hs)(i:Nat):cumI g W h i W=cumI g W h (i+1) 0:=by
 unfold cumI;apply Ja;intro p b;rw [if_pos (Q0.1 b),if_neg (by omega)]
theorem zGH(S:RefP R B w bs g c s):Sp PP 20 #[.pointer (some ⟨bs,0,none⟩)] w λv w'=>Own w.heap.size 3 w' v ((List.range c.workers).map λk=>(liveW g c.workers s.held k:Int))/\Stp w w':=by
 obtain⟨K,wt,hd,lw,lh,lr,S⟩:=S;have hW:=S.ci.workers;have a1:=S.small;have F0:=S.fz.here;have J:=S.gi.ok.n2;have Y:=S.so.len
 have M:∀(i:Nat) (hi:i<lr.length) (u:World),Le w u->SlF u (.slice lr[i].states.a lr[i].states.n lr[i].states.c) (sts1 g (s.held.getD i none) i)/\∀x∈sts1 g (s.held.getD i none) i,mayX x:=λi hi u L=>by
  have N:=S.fz u (Fr.fr L.e);have l:=N.helds i (by rw [N.lhn];have:=N.lrn;omega) hi
  cases e:s.held.getD i none with
  |none=>rw [e] at l;rw [l.2];exact⟨SlF.nil' _ _ _,λx P=>nomatch P⟩
  |some p =>
   obtain⟨d,j⟩:=p;rw [e] at l;have Q:=zAo e;exact⟨l.2.2.1,λx P=>(zD7 (S.so.held d j Q.2).1.q.ok J (by omega) P).1⟩
 have m:∀i,(sts1 g (s.held.getD i none) i).length<=400:=λi=>by
  cases e:s.held.getD i none with
  |none=>simp [sts1]
  |some p =>
   obtain⟨d,j⟩:=p;show (sts g d.q i j).length<=400;have Z:=(S.so.held d j (zAo e).2).1.q.ok;rw [zF8];have:=sn_le (dir:=0) Z j;have:=sn_le (dir:=1) Z j;omega
 refine eN ?_;refine rX S.cell rfl (rmk (0:Int) rfl rfl (by omega) λr w1 O1 s1 a3=>?_)
 have hz:List.replicate c.workers (0:Int)=cumI g c.workers s.held 0 0:=by
  apply Xg
  ·simp [cumI]
  ·intro i T h2;simp [cumI,cumL]
 rw [hz] at O1
 have t:∀i p,i<=lr.length->cumL g c.workers s.held i p<=i*400:=λi p=>by
  induction i with
  |zero=>intro _;simp [cumL]
  |succ i ih =>
   intro hi;have T:=ih (by omega);have h2:=m i;have l:cntW g c.workers p (s.held.getD i none) i<=400:=Qw (Qv _ _) h2;rw [zIY];omega
 refine cN 5 [] 4 lr.length (λi u=>Own w.heap.size 3 u (.slice (some ⟨r,0,none⟩) c.workers c.workers) (cumI g c.workers s.held i 0)/\Stp w u) ⟨O1,stp⟩ ?_;rintro i G u hi ⟨O,su⟩;refine rX S.cell rfl (ite (λhlt=>?_) (λU=>?_))
 ·have y:i<lr.length:=by (try dsimp only at hlt);omega
  have hb:=t i;have a4:=zKa c.workers (sts1 g (s.held.getD i none) i);refine dQ 19 λF e1=>tX S.cell rfl nf (tix (S.runs.sl.up (w':=F)) (x:=lr[i]) (by simp) λb1 o1 A1 _=>tload1 (A1.cell0 rfl) nf (tX S.cell rfl nf ?_));have V:=M i y F inferInstance;obtain⟨hS,Q⟩:=V;refine rcall (zL2 hS (by have:=m i;omega) hW Q) ?_;rintro _ u2 ⟨⟨v2,rfl,O2⟩,e2⟩;refine⟨Fr.fr e2.e,?_⟩;have V:=O2.shape;obtain⟨a2,c2,rfl⟩:=V;refine cN 8 [] 7 c.workers (λk H=>Own w.heap.size 3 H (.slice (some ⟨r,0,none⟩) c.workers c.workers) (cumI g c.workers s.held i k)/\Own F.heap.size 3 H (.slice a2 (cntL c.workers (sts1 g (s.held.getD i none) i)).length c2) (cntL c.workers (sts1 g (s.held.getD i none) i))/\Stp w H) ⟨O.up (w':=u2),O2,stp⟩ ?_;rintro k G2 H hk ⟨z,O4,s3⟩;refine ite (λA=>?_) (λC=>?_)
  ·have f:k<c.workers:=by (try dsimp only at A);omega
   have z1:=lz u F
   have E:(cumI g c.workers s.held i k)[k]? = some ((cumL g c.workers s.held i k:Nat):Int):=by
    unfold cumI;rw [zAT f,if_neg (Yc _)]
   have W:(cntL c.workers (sts1 g (s.held.getD i none) i))[k]? = some ((cntW g c.workers k (s.held.getD i none) i:Nat):Int):=by
    unfold cntL cntW;rw [zAT f]
   have a0:r<u.heap.size:=by
    obtain⟨gq,T,_,l⟩:=O.lt (by intro h;have:=congrArg List.length h;rw [zKc] at this;simp at this;omega);cases T;exact l
   have a5:cntW g c.workers k (s.held.getD i none) i<=400:=Qw (Qv _ _) (m i);have a6:=hb k (by omega);refine dT (λi=>i=r) (oL [0,1,2,3,4,6,7,8,9] (.lone 5 (oL [10,11,12] .nil))) λo e4=>tixO rfl (z.up (w':=o)) E λg5 a7 _ A5=>tixO rfl (O4.up (w':=o)) W λg6 a8 a9 A6=>tload1 (A6.cell0 rfl) (by omega) (rload1 (A5.cell0 rfl) ⟨Fr.refl _ _,?_⟩);refine rA (tixO rfl (z.up (w':=o)) E λg7 X b0 _=>rstO rfl ((cumL g c.workers s.held i k:Int)+(cntW g c.workers k (s.held.getD i none) i:Int)) (z.up (w':=o)) X (by rw [zKc];exact f) rfl λu5 O5 I s5 _=>?_);have I:Fr (λi=>i=r) o u5:=I.mono λi _ hi=>bjD hi;refine⟨I,?_⟩;rw [zOW f] at O5;have O6:=(O4.up (w':=o)).fr I λb hb _ h=>by omega
   exact rA ⟨rfl,f,O5,O6,stp⟩
  ·obtain rfl:k=c.workers:=by (try dsimp only at C);omega
   rw [zOV] at z;exact rA ⟨rfl,y,z,stp⟩
 ·obtain rfl:i=lr.length:=by (try dsimp only at U);omega
  have e:cumI g c.workers s.held lr.length 0=(List.range c.workers).map λk=>(liveW g c.workers s.held k:Int):=by
   unfold cumI;apply Ja;intro p _;rw [if_neg (by omega),zEv,F0.lrn];rfl
  rw [e] at O;exact⟨O,su⟩
theorem zL9(S:RefP R B w bs g c s):Sp PP 120 #[.pointer (some ⟨bs,0,none⟩)] w λv w'=>v=.bool (overS g c s.held)/\Stp w w':=by
 have d:=id S;obtain⟨K,wt,hd,lw,lh,lr,o⟩:=d;have z:=o.ci.workers;refine eN ?_;refine rcall (zGH S) ?_;rintro _ w1 ⟨p,t⟩;have d:=p.shape;obtain⟨A,C,rfl⟩:=d;have q:((List.range c.workers).map λk=>(liveW g c.workers s.held k:Int)).length=c.workers:=by simp
 refine cN 5 [2] 4 c.workers (λi u=>(∀k,k<i->liveW g c.workers s.held k<=c.pool)/\Stp w1 u) ⟨by omega,stp⟩ ?_;rintro i G u hi ⟨r,E⟩;refine ite (λhlt=>?_) (λf=>?_)
 ·have b:i<c.workers:=by (try dsimp only at hlt);omega
  have h:((List.range c.workers).map λk=>(liveW g c.workers s.held k:Int))[i]? = some (liveW g c.workers s.held i:Int):=zAT b;refine dQ 10 λx t=>tix (p.sl.up (w':=x)) h λF H y _=>tload1 (y.cell0 rfl) nf (tX o.cell rfl nf (ite (λl=>?_) (λl=>?_)))
  ·have m:overS g c s.held=true:=zCe.2 ⟨i,b,by omega⟩;exact⟨by rw [m];rfl,stp⟩
  ·exact rA ⟨rfl,b,λk I=>by
    by_cases e:k=i
    ·subst e;omega
    ·exact r k (by omega),stp⟩
 ·obtain rfl:i=c.workers:=by (try dsimp only at f);omega
  have m:overS g c s.held=false:=by
   rw [<-Vy,zCe];rintro⟨k,l,J⟩;have:=r k l;omega
  exact⟨by rw [m];rfl,stp⟩
end
section
variable {P:Program} {T:Tab} {n:Nat}
theorem loop0J(s:T.ok P=true)(i0 m:Nat)(keep:List Nat)(I:Nat->World->Prop)(J:World->Prop){body:Code}{Q:KS}{F:Nat->Value}{w:World}(b:okB m keep [] body=true)(h0:∃n,I n w)
  (t:∀i g w,I i w->S P T n body { Q.at i0 (λ_ w'=>J w') with nrm:=λ_ w'=>∃p,p<i/\I p w' } (hdF m keep [] g F) w)
  (v:∀g w,J w->Q.ext i0 (hdF m keep [] g F) w):DeepS P T n (.loop body) Q F w:=by
 have h:=loop0G s m keep I (Q:=Q.at i0 (λ_ w'=>J w')) b h0 t;rw [zAE] at h ⊢;intro md f a x;refine Jb ?_ (h md f a x);intro e B w' l;cases e <;> simp only [KS.lift,KS.at] at l ⊢ <;> try exact l
 rename_i i;obtain⟨d,y,q,o⟩:=l;refine⟨d,y,q,?_⟩;split at o
 ·rename_i z;have A:=QD z;obtain rfl:=A;have r:=v d w' o;rw [show hdF m keep [] d F=hdF m keep (zipS [] (mapF d [])) d F from rfl,zEq b (c:=body) q] at r;exact r
 ·exact o
end
theorem SlY.frk{α:Type}[Enc α]{e d:TypeId}{w:World}{v:Value}{l:List α}{b:Nat}{cs:List Value}(h:SlY e w v l)(f:Fr (λi=>i=b) w w')(k:Bk w b cs d)(c:e≠d):SlY e w' v l:=
 h.fr f λo p z _ q hd=>by
  have m:=k.h;have hd:o=b:=hd;rw [<-hd,q] at m;cases m;exact c rfl
section
variable {R:Nat->Prop} {B:Nat} {w0 w w':World} {bs:Nat} {g:GrD} {c:CfD} {s:SvD}
theorem zMa{k0:Nat}{f:RqD}(S:RefP R B w bs g c s)(e0:i<c.budget)(hB:B<=w.heap.size)(hu:s.held.getD k0 none=some (f,i)):
  Sp PP 60 #[.pointer (some ⟨bs,0,none⟩),.int .i64 (k0:Int)] w λv w'=>v=comeV (stepS g c s.held k0).2/\RefP (gR R w w') B w' bs g c ⟨s.wait,(stepS g c s.held k0).1⟩/\Fr R w w':=by
 have g7:=S.lo;have c2:=S.reg.1;obtain⟨K,wt,hd,lw,lh,lr,S⟩:=S;have l:=zAo hu;obtain⟨hk,hm⟩:=l;have F0:=S.fz.here;have g8:=S.so.len;have I:=(S.so.held f i hm).1;have c3:=S.gi.ok.n2;have hW:=S.ci.workers;have h0:=S.ci.slots;have h5:=S.ci.budget;have a5:=S.gi;have h6:=S.ps;have a6:k0<lh.length:=by rw [F0.lhn];exact hk
 have X:k0<lr.length:=by rw [F0.lrn];exact hk
 have Y:∀{j:Nat} {x:StD},x∈sts g f.q k0 j->mayX x/\x.key.v<g.n/\0<=x.d/\x.d<g.n:=λ{j x} Z=>by
  have:=zD7 I.q.ok c3 (by omega) Z;exact⟨this.1,this.2.1,this.2.2.1,this.2.2.2.1⟩
 have c4:∀{j:Nat} {x:StD},x∈mls g f.q k0 j->mayX x/\x.key.v<g.n/\0<=x.d/\x.d<g.n:=λ{j x} Z=>zIr I.q.ok c3 (by omega) Z
 have a8:∀j,(sts g f.q k0 j).length<=400:=λj=>by
  rw [zF8];have:=sn_le (dir:=0) I.q.ok j;have:=sn_le (dir:=1) I.q.ok j;omega
 have c5:∀j,(mls g f.q k0 j).length<=400:=λj=>by
  have h1:=a8 (j+1);have h2:=(zBf (mls g f.q k0 j) (sts g f.q k0 j)).length_eq;have h4:sts g f.q k0 (j+1)=insAll (mls g f.q k0 j) (sts g f.q k0 j):=rfl;rw [<-h4,Qb] at h2;omega
 have c6:=zLl (g:=g) (q:=f.q) (slot:=(k0:Int)) a5.ok i;have l:∃rr,lh[k0]? = some rr:=⟨lh[k0],Qd a6⟩;obtain⟨rr,a9⟩:=l;have l:∃jj,lr[k0]? = some jj:=⟨lr[k0],Qd X⟩;obtain⟨jj,b0⟩:=l;have er:lh[k0]=rr:=by rw [Qd a6] at a9;exact QL a9
 have ej:lr[k0]=jj:=by rw [Qd X] at b0;exact QL b0
 have a0:Fz (mutR bs K.br) R w λu=>RqV u rr.r f/\SlF u jj.states.v (sts g f.q k0 i)/\SlF u jj.mails.v (mls g f.q k0 i):=S.fz.imp λu U=>by
  have:=U.helds k0 a6 X;rw [hu,er,ej] at this;exact⟨this.2.1,this.2.2.1,this.2.2.2.1⟩
 have C:jj.steps=i:=by
  have:=F0.helds k0 a6 X;rw [hu,er,ej] at this;exact this.2.2.2.2
 have e1:=a0.here.1;have J:=e1.id;have l:∃ov,ov=overS g c (s.held.set k0 (some (f,i+1))):=⟨_,rfl⟩;obtain⟨ov,a1⟩:=l;have l:∃an,an=(doneL g f.q (sts g f.q k0 (i+1)) (mls g f.q k0 (i+1))).1:=⟨_,rfl⟩;obtain⟨an,b1⟩:=l;have l:∃dn,dn=(doneL g f.q (sts g f.q k0 (i+1)) (mls g f.q k0 (i+1))).2:=⟨_,rfl⟩;obtain⟨dn,hdn⟩:=l;have l:∃p,p=stepS g c s.held k0:=⟨_,rfl⟩;obtain⟨p,hp⟩:=l
 have e2:ov=true->p=(s.held.set k0 none,some (repB f.id 250 zAn)):=λh=>by
  rw [hp];unfold stepS;rw [hu];dsimp only;rw [<-a1,if_pos h]
 have c7:ov=false->dn=true->p=(s.held.set k0 none,some (repB f.id 0 an)):=λh h2=>by
  rw [hp];unfold stepS;rw [hu];dsimp only;rw [<-a1,if_neg (by rw [h];exact VU),<-hdn,if_pos h2,<-b1]
 have c8:ov=false->dn=false->c.budget<=i+1->p=(s.held.set k0 none,some (repB f.id 251 zAn)):=λh h2 h3=>by
  rw [hp];unfold stepS;rw [hu];dsimp only;rw [<-a1,if_neg (by rw [h];exact VU),<-hdn,if_neg (by rw [h2];exact VU),if_pos h3]
 have c9:ov=false->dn=false->¬c.budget<=i+1->p=(s.held.set k0 (some (f,i+1)),none):=λh h2 h3=>by
  rw [hp];unfold stepS;rw [hu];dsimp only;rw [<-a1,if_neg (by rw [h];exact VU),<-hdn,if_neg (by rw [h2];exact VU),if_neg h3]
 rw [<-hp];have a2:=zKf (g:=g) (q:=f.q) a5.ok I.q.ok (k:=k0) (i:=i+1) (by omega) I.id;rw [<-b1] at a2;have d0:an.hits.length<=1000000:=by have:=a2.2.2.2.1;omega
 have e3:(s.held.set k0 (some (f,i+1))).set k0 none=s.held.set k0 none:=List.set_set ..;clear hp a2;refine eN ?_;refine rX S.cell rfl (rix (S.fz.at (w':=w)).fh a9 λb o A=>rloadA (cs:=enc rr.r) (A.sub 1 8) (Enc.len _) (ral λbx w1 n1 X1=>?_));have e4:=n1.lo (u:=w);refine rE X1 rr.r λw2 X2 f2 _=>?_;have X2:Bk w2 bx (enc rr.r) 55:=X2;have s2:Stp w w2:=⟨Fr.st Le.e f2 λi hi=>by subst hi;exact e4⟩;clear X1 f2;refine rX S.cell rfl (rix (S.runs.sl.up (w':=w2)) b0 λb o A=>rloadA A (Enc.len _) (ral λbJ w3 n3 J3=>?_));have h7:=n3.lo (u:=w);refine rE J3 jj λw4 J4 f4 _=>?_;have J4:Bk w4 bJ (enc jj) 114:=J4;have s4:Stp w2 w4:=n3.st f4;clear J3 f4;refine dQ 23 λw5 e5=>tG X2 rr.r.q nf (tG S.cell K.xr nf (tX J4 rfl nf (tX J4 rfl nf (tX S.cell rfl nf ?_))));have Fu:=S.fz.at (w':=w5);have hV:=a0.at (w':=w5);have D:=zL3 (W:=c.workers) (xq:=rr.r.q) (S:=sts g f.q k0 i) (M:=mls g f.q k0 i) a5 Fu.rows ⟨hV.1.q.kind,hV.1.q.rad⟩ hV.2.1 hV.2.2 (zF9 i) (λx Z=>⟨(Y Z).1,(Y Z).2.1⟩) (λx Z=>⟨(c4 Z).1,(c4 Z).2.1⟩) hW (by have:=a8 i;omega) (by have:=c5 i;omega);rw [c6] at D;refine rcall D ?_;rintro _ w6 ⟨⟨v1,v2,rfl,O6,M6⟩,e6⟩;dsimp only at O6 M6;refine⟨Fr.fr e6.e,?_⟩;have l:=O6.shape;obtain⟨sa,sc,rfl⟩:=l;have l:=M6.shape;obtain⟨ma,mc,rfl⟩:=l;have l:∃nj:RRun,nj=⟨⟨sa,(sts g f.q k0 (i+1)).length,sc⟩,⟨ma,(mls g f.q k0 (i+1)).length,mc⟩,((i+1:Nat):Int)⟩:=⟨_,rfl⟩;obtain⟨nj,a7⟩:=l;have h8:=(S.reg _ S.rj).2;have h9:=(S.reg _ S.rs).2;refine dD (λi=>i=K.br) (upF 13 0) λP e7=>tX S.cell rfl (λh=>S.ne h) (tX J4 rfl (by omega) (rarE (y:=((i+1:Nat):Int)) (by rw [C];push_cast;rfl) (by omega) (tbuild (cs:=enc nj) (by rw [a7];rfl) ?_)));have J7:=S.runs.up (w':=P);refine tixO rfl J7 (x:=lr[k0]) (by simp) λgj hgj _ _=>rstO' rfl nj J7 hgj X rfl λQ J8 V _=>?_;have V:Fr (λi=>i=K.br) P Q:=V.mono λi _ hi=>bjD hi;refine⟨V,?_⟩;have z5:=lz w w5;have z7:=lz w P;have z8:=V.size;have X8:=(X2.mv (w:=P)).fr V (by omega);have d1:=(J4.mv (w:=P)).fr V (by omega);have O8:=(O6.up (w':=P)).fr V λb hb _ h=>by omega
 have M8:=(M6.up (w':=P)).fr V λb hb _ h=>by omega
 have b2:Fr R w Q:=(fE w P).trans (V.mono λi _ h=>h ▸ S.rj);have e8:SvW g c ⟨s.wait,s.held.set k0 (some (f,i+1))⟩:=S.so.set k0 _ λx j h=>by cases h;exact⟨I,e0⟩
 have T:=S.finR (w1:=P) (w':=Q) (s':=⟨s.wait,s.held.set k0 (some (f,i+1))⟩) z7 (V.mono λi _ hi=>.inr hi) hB ((S.cell.mv (w:=P)).fr V S.ne) J8 e8
  (((S.fz1 (w':=P)).and ((S.fzO (O6.up (w':=P)) z5).and (S.fzO (M6.up (w':=P)) z5))).imp λu ⟨U,So,Sm⟩ =>
   ⟨U.rows,U.pos,U.words,U.fw,U.fh,U.lwn,U.waits,by simp [U.lhn],by simp [U.lrn],zPA hk hu U.helds ⟨by rw [a7];exact So,by rw [a7];exact Sm,by rw [a7]⟩⟩)
 have f0:=(a0 Q (((fE w P).trans V).mono λi _ h=>.inl (.inr h))).1;have f1:(s.held.set k0 (some (f,i+1))).getD k0 none=some (f,i+1):=by rw [zAA hk,if_pos rfl]
 have f3:=T.reg;have f5:∀{u:World},Le Q u->B<=u.heap.size:=λL=>by have:=L.e.size;omega
 have fin:∀{u u':World} {R':Nat->Prop} {s':SvD},RefP R' B u bs g c s'->(∀i,R' i->R i\/w.heap.size<=i)->w.heap.size<=u.heap.size->Fr R w u->Le u u'->RefP (gR R w u') B u' bs g c s'/\Fr R w u':=λh1 h2 h3 h4 L =>
  ⟨RefP.upto (L:=L) h1 h2 c2 hB h3,h4.trans (Fr.fr L.e)⟩
 have N:∀{u u':World},Le Q u->Fr (mutR bs K.br) u u'->(∀i,gR (gR R w Q) u u' i->R i\/w.heap.size<=i)/\w.heap.size<=u'.heap.size/\Fr R w u'/\¬mutR bs K.br bx/\¬mutR bs K.br bJ:=λ{u u'} L m=>by
  have h1:=L.e.size;have h2:=m.size;refine⟨λi hi=>?_,by omega,(b2.trans (Fr.fr L.e)).trans (m.mono λi _ h=>S.mut h),λh=>?_,λh=>?_⟩
  ·rcases hi with (hi|hi)|hi
   ·exact .inl hi
   ·exact .inr (by omega)
   ·exact .inr (by omega)
  ·rcases h with h|h <;> omega
  ·rcases h with h|h <;> omega
 have D9:=zL9 (w:=Q) ⟨K,wt,hd,lw,lh,lr.set k0 nj,T⟩;dsimp only at D9;rw [<-a1] at D9;refine rcall D9 ?_;rintro _ E ⟨rfl,e9⟩;have s9:Stp Q E:=⟨e9.e⟩;have DR:=λ(u:World) (L:Le Q u)=>zFF (k0:=k0) (T.up (w':=u)) f1 (f5 L);simp only [e3] at DR
 cases ov with
 |true =>
  have l:=e2 rfl;obtain rfl:=l;refine rcall (DR E inferInstance) ?_;rintro _ d2 ⟨f6,d3⟩;have l:=N (u:=E) inferInstance d3;obtain⟨q1,q2,q3,q4,q5⟩:=l;refine rld (B:=(X8.mv (w:=E)).fr d3 q4) (v:=.int .i64 f.id) (by rw [<-J];rfl) (rcall zAC ?_);rintro _ b3 ⟨rfl,d4⟩;exact⟨rfl,fin f6 q1 q2 q3 inferInstance⟩
 |false =>
  have F9:=T.fz.at (w':=E);have g9:=F9.words.len
  have DD:∀{u:World},Le E u->Sp PP 122 #[agg rr.r.q,.slice K.ws.a K.ws.n K.ws.c,.slice sa (sts g f.q k0 (i+1)).length sc,.slice ma (mls g f.q k0 (i+1)).length mc] u λv w'=>(∃v1,v=.tuple #[v1,.bool dn]/\AnsS w' v1 an)/\Stp u w':=λ{u} L=>by
   have L8:Le Q u:=⟨s9.e.trans L.e⟩;have D:=zLX (f0.q.up (w':=u)) I.q.ok a5 (F9.words.up (w':=u)) (F9.pos.up (w':=u)) (by omega) (O8.sl.up (w':=u)) (by have:=a8 (i+1);omega) (λx Z=>by have:=Y Z;omega) (M8.sl.up (w':=u)) (by have:=c5 (i+1);omega);rw [<-b1,<-hdn] at D;exact D
  have z9:=lz Q E;have i0:bx<E.heap.size:=by have:=(X8.mv (w:=E)).lt;omega
  have i1:bs<E.heap.size:=by omega
  refine dT (λi=>E.heap.size<=i) (oL [0,1,2,3,4,5,6,7] (.two 8 (oL [9,10,11,12,13,14] .nil) 12 (oL [8,9,10,11,13,14] .nil))) λd2 i2=>tG X8 rr.r.q (by omega) (tX T.cell rfl (by omega) ?_);refine⟨?_,?_⟩
  ·refine rcall (DD (u:=d2) inferInstance) ?_;rintro _ b3 ⟨⟨v1,rfl,ax,rfl,b4,b5,YA⟩,d4⟩;refine⟨Fr.fr d4.e,?_⟩;refine ral λba a3 d5 d6=>⟨Fr.fr d5.e,?_⟩;have f7:=d5.lo (u:=E);refine rE d6 ax λt F O _=>?_;have F:Bk t ba (enc ax) 65:=F;refine⟨O.mono λi _ h=>by omega,?_⟩;have f8:Stp E t:=⟨Fr.st (lE E a3) O λi h=>by omega⟩;have b6:=(YA.up (w':=a3)).frk O d6 (by decide)
   cases dn with
   |true =>
    have l:=c7 rfl rfl;obtain rfl:=l;refine rcall (DR t inferInstance) ?_;rintro _ G ⟨b7,H⟩;have l:=N (u:=t) inferInstance H;obtain⟨q1,q2,q3,q4,q5⟩:=l;have d7:=F.lt;have f9:=lz E t;refine rld (B:=(X8.mv (w:=t)).fr H q4) (v:=.int .i64 f.id) (by rw [<-J];rfl) (rG (F.fr H (λh=>by rcases h with h|h <;> omega)) ax (rbuild (cs:=enc (⟨f.id,0,ax⟩:RepD)) rfl ?_));have hJ:=T.runs.bk (g:=K.br) (λh=>by have:=congrArg List.length h;rw [Jc] at this;simp only [QZ] at this;omega) rfl;obtain⟨g0,hJ⟩:=hJ
    have b8:=b6.fr H λb' g1 z _ hc hd=>by
     rcases hd with hd|hd
     ·have hr:=(T.cell.mv (w:=t)).h;rw [<-hd,hc] at hr;cases hr
     ·have hr:=(hJ.mv (w:=t)).h;rw [<-hd,hc] at hr;cases hr
    refine rcall (zCg (a:=an) b4 b5 b8.sl d0) ?_;rintro _ b9 ⟨⟨ee,rfl⟩,g2⟩;exact⟨rfl,fin b7 q1 q2 q3 inferInstance⟩
   |false =>
    refine dQ 9 λG g3=>tX d1 rfl nf (rarE (y:=((i+1:Nat):Int)) (by rw [C];push_cast;rfl) (by omega) (tX T.cell rfl nf (ite (λc0=>?_) (λc0=>?_))))
    ·have l:=c8 rfl rfl (by omega);obtain rfl:=l;refine rcall (DR G inferInstance) ?_;rintro _ b9 ⟨c1,a4⟩;have l:=N (u:=G) inferInstance a4;obtain⟨q1,q2,q3,q4,q5⟩:=l;refine rld (B:=(X8.mv (w:=G)).fr a4 q4) (v:=.int .i64 f.id) (by rw [<-J];rfl) (rcall zAC ?_);rintro _ g4 ⟨rfl,g5⟩;exact⟨rfl,fin c1 q1 q2 q3 inferInstance⟩
    ·have l:=c9 rfl rfl (by omega);obtain rfl:=l;exact⟨rfl,fin (u:=Q) ⟨K,wt,hd,lw,lh,lr.set k0 nj,T⟩ (λi hi=>hi.imp id λh=>h.1) (by omega) b2 inferInstance⟩
  ·refine ral λba b3 d8 d9=>⟨Fr.fr d8.e,?_⟩;have f7:=d8.lo (u:=E);refine rcall (DD (u:=b3) inferInstance) ?_;rintro _ a3 ⟨⟨v1,rfl,ax,rfl,b4,b5,YA⟩,g6⟩;refine⟨Fr.fr g6.e,?_⟩;refine rE d9 ax λt F O _=>?_;have F:Bk t ba (enc ax) 65:=F;refine⟨O.mono λi _ h=>by omega,?_⟩;have f8:Stp E t:=⟨Fr.st (lE E a3) O λi h=>by omega⟩;have b6:=YA.frk O (d9.mv (w:=a3)) (by decide)
   cases dn with
   |true =>
    have l:=c7 rfl rfl;obtain rfl:=l;refine rcall (DR t inferInstance) ?_;rintro _ G ⟨b7,H⟩;have l:=N (u:=t) inferInstance H;obtain⟨q1,q2,q3,q4,q5⟩:=l;have d7:=F.lt;have f9:=lz E t;refine rld (B:=(X8.mv (w:=t)).fr H q4) (v:=.int .i64 f.id) (by rw [<-J];rfl) (rG (F.fr H (λh=>by rcases h with h|h <;> omega)) ax (rbuild (cs:=enc (⟨f.id,0,ax⟩:RepD)) rfl ?_));have hJ:=T.runs.bk (g:=K.br) (λh=>by have:=congrArg List.length h;rw [Jc] at this;simp only [QZ] at this;omega) rfl;obtain⟨g0,hJ⟩:=hJ
    have b8:=b6.fr H λb' g1 z _ hc hd=>by
     rcases hd with hd|hd
     ·have hr:=(T.cell.mv (w:=t)).h;rw [<-hd,hc] at hr;cases hr
     ·have hr:=(hJ.mv (w:=t)).h;rw [<-hd,hc] at hr;cases hr
    refine rcall (zCg (a:=an) b4 b5 b8.sl d0) ?_;rintro _ b9 ⟨⟨ee,rfl⟩,g2⟩;exact⟨rfl,fin b7 q1 q2 q3 inferInstance⟩
   |false =>
    refine dQ 9 λG g3=>tX d1 rfl nf (rarE (y:=((i+1:Nat):Int)) (by rw [C];push_cast;rfl) (by omega) (tX T.cell rfl nf (ite (λc0=>?_) (λc0=>?_))))
    ·have l:=c8 rfl rfl (by omega);obtain rfl:=l;refine rcall (DR G inferInstance) ?_;rintro _ b9 ⟨c1,a4⟩;have l:=N (u:=G) inferInstance a4;obtain⟨q1,q2,q3,q4,q5⟩:=l;refine rld (B:=(X8.mv (w:=G)).fr a4 q4) (v:=.int .i64 f.id) (by rw [<-J];rfl) (rcall zAC ?_);rintro _ g4 ⟨rfl,g5⟩;exact⟨rfl,fin c1 q1 q2 q3 inferInstance⟩
    ·have l:=c9 rfl rfl (by omega);obtain rfl:=l;exact⟨rfl,fin (u:=Q) ⟨K,wt,hd,lw,lh,lr.set k0 nj,T⟩ (λi hi=>hi.imp id λh=>h.1) (by omega) b2 inferInstance⟩
end
theorem zOF{h:Hs}(e:freeS h=none):(usedS h).length=h.length:=by
 unfold usedS selN;rw [JH.2,Vm];intro k b;have b:=Q0.1 b;have:=zNZ e h[k] (Qa b);rw [Qk,Qd b,QP];exact Xt.2 this
theorem zQI{h:Hs}(e:freeS h=some k):(usedS h).length<h.length:=by
 have b:=zCu e;obtain⟨c,d⟩:=b;have:=(Xo (p:=λk=>(h.getD k none).isSome) (l:=List.range h.length)).2 ⟨k,Q0.2 c,by rw [d];simp⟩;rw [Vm] at this;exact this
section
variable {R:Nat->Prop} {B:Nat} {w0 w w':World} {bs:Nat} {g:GrD} {c:CfD} {s:SvD}
theorem zGI(S:RefP R B w bs g c s)(ok:SvOk g c s)(hB:B<=w.heap.size):
  Sp PP 15 #[.pointer (some ⟨bs,0,none⟩)] w λv w'=>∃R':Nat->Prop,Own w.heap.size 9 w' v ((tickS g c s).2.map bsOf)/\(∀b,Value.blk v=some b->b<w'.heap.size/\¬R' b)/\RefP R' B w' bs g c (tickS g c s).1/\(∀i,R' i->gR R w w' i)/\Fr R w w':=by
 have hR:=S.reg.1;have hc:=S.reg.2.2.1;refine eN ?_;have S0:RefP (gR R w w) B w bs g c ⟨s.wait,s.held⟩:=RefP.wide S (λi hi=>.inl hi) λi hi=>hi.elim (hR i) λh=>by omega
 refine loop0J TBok 0 9 [3,4,5,6,7,8] (λi u=>∃l h,l.length=i/\admitS l h=admitS s.wait s.held/\SvOk g c ⟨l,h⟩/\RefP (gR R w u) B u bs g c ⟨l,h⟩/\Fr R w u)
  (λu=>RefP (gR R w u) B u bs g c ⟨(admitS s.wait s.held).1,(admitS s.wait s.held).2⟩/\SvOk g c ⟨(admitS s.wait s.held).1,(admitS s.wait s.held).2⟩/\Fr R w u) rfl ⟨_,s.wait,s.held,rfl,rfl,ok,S0,Fr.refl _ _⟩ ?_ ?_
 ·rintro i G u ⟨l,h,hi,a2,U,S,f⟩;clear S0;have z0:=f.size;have SP:=S;obtain⟨K,wt,hd,lw,lh,lr,S⟩:=S;have F0:=S.fz.here;have a6:=S.small;have V:=F0.lwn;have b3:=F0.fw.len;have c8:=F0.fh.len;have b4:=F0.lhn;have W:=F0.free;have X:=F0.usedH;dsimp only at V W b4 X
  have out:admitS l h=(l,h)->∀{u':World},Le u u'->RefP (gR R w u') B u' bs g c ⟨(admitS s.wait s.held).1,(admitS s.wait s.held).2⟩/\SvOk g c ⟨(admitS s.wait s.held).1,(admitS s.wait s.held).2⟩/\Fr R w u':=λhe {u'} L=>by
   rw [<-a2,he];exact⟨RefP.upto (L:=L) SP (λi hi=>hi.imp id λh=>h.1) hR hB z0,U,f.trans (Fr.fr L.e)⟩
  refine dD (λ_=>False) [0,1,2,3,4,5,6,7,8,9,10,13,14,15,16,17,11,12,18,19] λC e1=>tX S.cell rfl nf ?_
  refine ite (λh1=>?_) (λh1=>out (by
   have:l=[]:=Qn (by omega);subst this;rfl) inferInstance)
  refine tX S.cell rfl nf (tX S.cell rfl nf ?_);have DU:=zGF (S.fz.at (w':=C)).fh (by omega);rw [X] at DU;refine rcall DU ?_;rintro vu u2 ⟨O2,e2⟩;have y:=O2.shape;obtain⟨ua,uc,rfl⟩:=y;refine⟨Fr.fr e2.e,?_⟩;have c9:((usedS h).map λk:Nat=>(k:Int)).length=(usedS h).length:=by simp
  refine ite (λh2=>?_) (λh2=>out (by
   have d0:freeS h=none:=by
    cases hf:freeS h with
    |none=>rfl
    |some k=>have:=zQI hf;omega
   cases l with
   |nil=>rfl
   |cons x r=>unfold admitS;rw [d0]) inferInstance)
  obtain⟨k,hf⟩:∃k,freeS h=some k:=by
   cases hf:freeS h with
   |some k=>exact⟨k,rfl⟩
   |none=>have:=zOF hf;omega
  obtain⟨x,r,hl⟩:∃x r,lw=x::r:=by
   cases lw with
   |nil=>simp at b3;omega
   |cons x r=>exact⟨x,r,rfl⟩
  obtain⟨d,l',d1⟩:∃d l',l=d::l':=by
   cases l with
   |nil=>rw [hl] at V;simp at V
   |cons d l'=>exact⟨d,l',rfl⟩
  subst d1;have y:=zCu hf;obtain⟨hk,hn⟩:=y;have d2:k<lr.length:=by rw [F0.lrn];exact hk
  have b5:=S.so.wait d (by simp);have b7:=zIT hc U hf;have Fw:=(S.fz.at (w':=u2)).fw;rw [hl] at Fw;have g2:r.length<=1000:=by rw [hl] at a6;simp at a6;omega
  refine rX S.cell rfl (rcall (zL4 Fw (by omega)) ?_);rintro _ u3 ⟨⟨v3,rfl,O3⟩,e3⟩;refine ral λbx u4 n4 X4=>?_;have g4:=n4.lo (u:=u);refine rE X4 x λu5 X5 f5 _=>?_;have X5:Bk u5 bx (enc x) 55:=X5;have s5:Stp u3 u5:=n4.st f5;clear X4 f5;refine dQ 13 λu6 e6=>tX S.cell rfl nf (tG X5 x nf ?_);have b8:putH lh x=((k:Int),lh.set k ⟨true,x⟩,0):=by unfold putH;rw [W,hf]
  have DP:=zNH (x:=x) (S.fz.at (w':=u6)).fh (by omega);rw [b8] at DP;refine rcall DP ?_;rintro _ Q ⟨⟨v7,rfl,O7⟩,e7⟩;refine⟨Fr.fr e7.e,?_⟩;have g5:=S.reg _ S.rs;have g6:=S.reg _ S.rj;have y:=O3.shape;obtain⟨a3,c3,rfl⟩:=y;have y:=O7.shape;obtain⟨a7,c7,rfl⟩:=y;have z2:=lz u u2;have z6:=lz u u6;have z7:=lz u Q;refine rS S.cell [.slice a3 r.length c3] (sv1 _ _ _) λu8 C8 f8 _=>?_;have C8:Bk u8 bs (refL c K ⟨a3,r.length,c3⟩ hd) 98:=C8;refine rS C8 [.slice a7 (lh.set k ⟨true,x⟩).length c7] (sv1 _ _ _) λu9 C9 f9 _=>?_;have C9:Bk u9 bs (refL c K ⟨a3,r.length,c3⟩ ⟨a7,(lh.set k ⟨true,x⟩).length,c7⟩) 98:=C9;have T:Fr (λi=>i=bs) Q u9:=f8.trans f9;have g7:=T.size;have X9:=(X5.mv (w:=Q)).fr T (by omega);have J9:=(S.runs.up (w':=Q)).fr T λg _ hg h=>by cases hg;exact S.ne h.symm
  have hV:Fz (mutR bs K.br) (gR R w u) u λu'=>RqV u' x d:=S.fz.imp λu' Fa=>by
   have:=Fa.waits 0 (by rw [hl];simp) (by simp);simp only [hl,Vb] at this;exact this
  have a8:RqV u9 x d:=hV u9 (((fE u Q).trans T).mono λi _ h=>.inl (.inl h));have g8:bx<u9.heap.size:=X9.lt;refine dD (λi=>i=K.br) (upF 12 0) λd3 g9=>tX C9 rfl (λh=>S.ne h) (tG X9 x.q (by omega) (rcall (zKW (g:=g) (q:=d.q) (slot:=(k:Int)) ⟨a8.q.kind,a8.q.frm,a8.q.to⟩ b5.q.ok) ?_));rintro h0 A ⟨b9,d4⟩;refine⟨Fr.fr d4.e,?_⟩;have y:=b9.shape;obtain⟨d5,d6,rfl⟩:=y;have y:∃nj:RRun,nj=⟨⟨none,0,0⟩,⟨d5,(mls g d.q k 0).length,d6⟩,0⟩:=⟨_,rfl⟩;obtain⟨nj,a1⟩:=y;refine tbuild (cs:=enc nj) (by rw [a1];rfl) ?_;have c0:=J9.up (w':=A);refine tixO rfl c0 (x:=lr[k]) (by simp) λgj hgj _ _=>rstO' rfl nj c0 hgj d2 rfl λa9 d7 M _=>?_;have M:Fr (λi=>i=K.br) A a9:=M.mono λi _ hi=>bjD hi;refine⟨M,?_⟩;have h3:=lz u9 A;have f4:=lz u9 d3;have h5:=M.size;have Z7:=(S.fz1 (w':=Q)).and ((S.fzO (O3.up (w':=Q)) z2).and (S.fzO O7 z6));have d8:=(Z7.step (M':=mutR bs K.br) (R':=gR (gR R w u) u A) (w':=A) ((T.mono λi _ h=>(.inl h:mutR bs K.br i)).trans (fE u9 A)) (λ_ _ h=>h) (λi _ h=>h.imp id λh=>by omega)).and (S.fzO (w':=A) b9 (by omega))
  have Zn:Fz (mutR bs K.br) (gR (gR R w u) u A) A (RefF g c K ⟨a3,r.length,c3⟩ ⟨a7,(lh.set k ⟨true,x⟩).length,c7⟩ r (lh.set k ⟨true,x⟩) (lr.set k nj) ⟨l',h.set k (some (d,0))⟩):=
   d8.imp λu' ⟨⟨Fa,Sw,Sh⟩,Sm⟩=>by
    refine⟨Fa.rows,Fa.pos,Fa.words,Sw,Sh,?_,λi h1 h2=>?_,by simp [Fa.lhn],by simp [Fa.lrn],zLh hk Fa.helds ⟨rfl,?_,?_,by rw [a1];exact Sm,by rw [a1];rfl⟩⟩
    ·rw [hl] at V;simpa using V
    ·have:=Fa.waits (i+1) (by rw [hl];simpa using h1) (by simpa using h2);simp only [hl,List.getElem_cons_succ] at this;exact this
    ·have:=Fa.waits 0 (by rw [hl];simp) (by simp);simp only [hl,Vb] at this;exact this
    ·rw [a1];exact SlF.nil _
  have fin:=S.fin (w1:=A) (w':=a9) (s':=⟨l',h.set k (some (d,0))⟩) (by omega) (M.mono λi _ h=>.inr h) (Qw hB z0) ((C9.mv (w:=A)).fr M S.ne) d7 b7.w Zn
  have hm:Fr R w a9:=by
   refine f.join (E:=gR R w u) (D:=R) (((fE u Q).trans (T.mono λi _ h=>h ▸ S.rs)).trans ((fE u9 A).trans (M.mono λi _ h=>h ▸ S.rj))) (λ_ _ h=>h) λi hi h=>h.elim id λh=>by omega
  refine⟨l'.length,by rw [<-hi];simp,l',h.set k (some (d,0)),rfl,?_,b7,?_,hm⟩
  ·rw [<-a2]
   conv=>rhs;unfold admitS
   rw [hf]
  ·exact RefP.wide fin (gR_gR z0 (by omega)) λi hi=>by
    rcases hi with hi|hi
    ·have:=hR i hi;omega
    ·omega
 clear S0 S ok;rintro G w1 ⟨S1,U,f1⟩;have z1:=f1.size;have y:∃p:SvD,p=⟨(admitS s.wait s.held).1,(admitS s.wait s.held).2⟩:=⟨_,rfl⟩;obtain⟨p,c1⟩:=y;rw [<-c1] at S1 U;have h6:=S1.reg.1;have d9:=S1;obtain⟨K,wt,hd,lw,lh,lr,S2⟩:=d9;have a6:=S2.small;have F2:=S2.fz.here;have hu:=F2.usedH;have c8:=F2.fh.len;have c9:(usedS p.held).length<=lh.length:=by rw [F2.lhn];exact zD3 _ _
 refine rX S2.cell rfl ?_;have D:=zGF F2.fh (by omega);rw [hu] at D;refine rcall D ?_;rintro v w2 ⟨O2,e2⟩;have y:=O2.shape;obtain⟨ua,uc,rfl⟩:=y;have z2:=e2.e.size;have f6:((usedS p.held).map λk:Nat=>(k:Int)).length=(usedS p.held).length:=by simp
 have P0:RefP (gR R w w1) B w2 bs g c ⟨p.wait,(stepsS g c ((usedS p.held).take 0) p.held).1⟩:=RefP.up (w':=w2) S1
 refine cO 12 [] 9 11 (usedS p.held).length (λj v u=>∃F:Nat->Prop,Own w2.heap.size 9 u v ((stepsS g c ((usedS p.held).take j) p.held).2.map bsOf)/\(∀b,Value.blk v=some b->b<u.heap.size/\¬F b) /\
   SvOk g c ⟨p.wait,(stepsS g c ((usedS p.held).take j) p.held).1⟩/\RefP F B u bs g c ⟨p.wait,(stepsS g c ((usedS p.held).take j) p.held).1⟩/\(∀i,F i->gR R w w1 i\/w2.heap.size<=i)/\Fr (λi=>F i/\i<w2.heap.size) w2 u)
  ⟨gR R w w1,Own.nil _ _ _,(λb I=>by cases I),U,P0,(λi hi=>.inl hi),Fr.refl _ _⟩ ?_
 clear P0;rintro j v G u hj ⟨F,O,J,b0,P,b2,f⟩;have zu:=f.size;have ff:Fr (λi=>gR R w w1 i/\i<w2.heap.size) w2 u:=f.mono λi hi h=>⟨(b2 i h.1).elim id λh2=>by omega,h.2⟩;have fR:Fr R w u:=(f1.join (H:=λi=>R i) ((Fr.fr (D:=λi=>gR R w w1 i/\i<w2.heap.size) e2.e).trans ff) (λ_ _ h=>h) λi hi h=>h.1.elim id λh=>by omega);have Ou:=O2.fr ff λb I h7 h=>by rcases h.1 with h4|h4;(have:=hR b h4;omega);omega
 refine ite (λhlt=>?_) (λe0=>?_)
 ·have Y:j<(usedS p.held).length:=by (try dsimp only at hlt);omega
  have y:∃k,k=(usedS p.held)[j]:=⟨_,rfl⟩;obtain⟨k,hk⟩:=y;have e4:k∈usedS p.held:=by rw [hk];exact Qa Y
  have y:=zJA e4;obtain⟨x0,i,e5⟩:=y
  have e8:k∉(usedS p.held).take j:=λh=>by
   have y:=QI.1 h;obtain⟨m,hm,he⟩:=y;rw [Qm] at hm;rw [VI,hk] at he;have:=(VQ (zM6 p.held)).1 he;omega
  have hx:(stepsS g c ((usedS p.held).take j) p.held).1.getD k none=some (x0,i):=by rw [zDM _ _ e8];exact e5
  have z:=zDL (g:=g) (c:=c) k ((usedS p.held).take j) p.held;rw [show (usedS p.held).take j++[k]=(usedS p.held).take (j+1) by rw [hk,<-QO Y]] at z;have y:∃Z,Z=(stepsS g c ((usedS p.held).take j) p.held).1:=⟨_,rfl⟩;obtain⟨Z,e9⟩:=y;have y:∃lo,lo=(stepsS g c ((usedS p.held).take j) p.held).2:=⟨_,rfl⟩;obtain⟨lo,c2⟩:=y
  have g0:lo.length<=64:=by
   have:=zCU (g:=g) (c:=c) ((usedS p.held).take j) p.held;rw [<-c2,Qm] at this;omega
  rw [<-e9] at hx P z b0;rw [<-c2] at O z;have f0:B<=u.heap.size:=by omega
  have f2:=P.reg.1;have f3:=(b0.held x0 i (zAo hx).2).2;have c4:SvOk g c ⟨p.wait,(stepS g c Z k).1⟩:=(zF7 k b0).1;refine rix Ou.sl (x:=(k:Int)) (by simp [Y,hk]) λb1 o1 A1=>rload1 (A1.cell0 rfl) ?_;have DS:=zMa P f3 f0 hx;have y:∃o,o=(stepS g c Z k).2:=⟨_,rfl⟩;obtain⟨o,ho⟩:=y;dsimp only at DS;rw [<-ho] at DS z;refine rcall DS ?_;rintro _ C ⟨rfl,P1,fs⟩;have zs:=fs.size;have a0:∀{b:Nat},b<u.heap.size->¬F b->¬gR F u C b:=λ{b} I hn h=>h.elim hn λh=>by omega
  have Os:Own w2.heap.size 9 C v (lo.map bsOf):=O.fr fs λb _ I=>(J b I).2;have c5:Fr (λi=>gR F u C i/\i<w2.heap.size) w2 C:=f.join fs (λi _ h=>⟨.inl h.1,h.2⟩) λi hi h=>⟨.inl h,hi⟩;have a4:∀i,gR F u C i->gR R w w1 i\/w2.heap.size<=i:=λi hi=>hi.elim (b2 i) λh=>.inr (by omega);have N:(stepsS g c ((usedS p.held).take (j+1)) p.held).1=(stepS g c Z k).1:=by rw [z]
  have a5:(stepsS g c ((usedS p.held).take (j+1)) p.held).2=lo++o.toList:=by rw [z]
  cases o with
  |some t =>
   refine bS (bsOf t) λb6 u6 n6 _ S6=>?_;have z6:=lz C u6;refine rappD ⟨rfl,rfl⟩ (Os.up (w':=u6)) S6 (by simp) (by omega) (by rw [Qr];simp;omega) λv7 Q O7 f7 c6=>?_;have z7:=f7.size;have nv:∀b,ownD w2.heap.size v b->b<u.heap.size/\¬F b:=λb I=>J b I.2.1;have P8:=RefP.away (RefP.up (w':=u6) P1) f7 λb I=>a0 (nv b I).1 (nv b I).2
   have k1:Own w2.heap.size 9 Q v7 ((stepsS g c ((usedS p.held).take (j+1)) p.held).2.map bsOf):=by
    have:(stepsS g c ((usedS p.held).take (j+1)) p.held).2.map bsOf=lo.map bsOf++[bsOf t]:=by rw [a5,QB];rfl
    rw [this];exact O7
   have k2:∀b,Value.blk v7=some b->b<Q.heap.size/\¬gR F u C b:=λb I=>by
    rcases c6 with h|h
    ·rw [h] at I;have:=J b I;exact⟨by omega,a0 this.1 this.2⟩
    ·rw [h] at I;cases I;have y:=O7.lt (by simp);obtain⟨gq,g1,_,g3⟩:=y;rw [h] at g1;cases g1;refine⟨g3,λh=>?_⟩;rcases h with h|h
     ·have:=(f2 _ h).2;omega
     ·omega
   have k3:RefP (gR F u C) B Q bs g c ⟨p.wait,(stepsS g c ((usedS p.held).take (j+1)) p.held).1⟩:=by rw [N];exact P8
   have k5:Fr (λi=>gR F u C i/\i<w2.heap.size) w2 Q:=
    c5.join ((Fr.fr (D:=ownD w2.heap.size v) (lE C u6)).trans f7) (λ_ _ h=>h) λi hi h=>by have:=h.1;omega
   clear S6 P8 nv O7 f7 c6;exact rA ⟨rfl,Y,_,k1,k2,by rw [N];exact c4,k3,a4,k5⟩
  |none =>
   have k1:Own w2.heap.size 9 C v ((stepsS g c ((usedS p.held).take (j+1)) p.held).2.map bsOf):=by
    rw [a5];simpa using Os
   have k3:RefP (gR F u C) B C bs g c ⟨p.wait,(stepsS g c ((usedS p.held).take (j+1)) p.held).1⟩:=by rw [N];exact P1
   have k2:∀b,Value.blk v=some b->b<C.heap.size/\¬gR F u C b:=λb I=>by
    have:=J b I;exact⟨by omega,a0 this.1 this.2⟩
   exact rA ⟨rfl,Y,gR F u C,k1,k2,by rw [N];exact c4,k3,a4,c5⟩
 ·obtain rfl:j=(usedS p.held).length:=by (try dsimp only at e0);omega
  rw [Qg] at O P;have h1:tickS g c s=(⟨p.wait,(stepsS g c (usedS p.held) p.held).1⟩,(stepsS g c (usedS p.held) p.held).2):=by rw [c1];rfl
  rw [h1];refine⟨F,O.mono (by omega),J,P,λi hi=>?_,fR⟩;have:=P.reg.1 i hi;have y:=b2 i hi;rcases y with (h|h)|h
  ·exact .inl h
  ·exact .inr (by omega)
  ·exact .inr (by omega)
end
section
variable {R:Nat->Prop} {B:Nat} {w0 w w':World} {bs:Nat} {g:GrD} {c:CfD} {s:SvD}
theorem zL7{id:Int}(S:RefP R B w0 bs g c s)[L:Le w0 w](t:B<=w0.heap.size):
  Sp PP 68 #[.pointer (some ⟨bs,0,none⟩),.int .i64 id] w λv w'=>v=.int .i64 (backS s id).2/\RefP (gR R w0 w') B w' bs g c (backS s id).1/\Fr R w w':=by
 have O:=S;obtain⟨K,wt,hd,C,lh,lr,S⟩:=S;have E:=S.fz.here;have V:=S.small;have e:=E.plc id;have F:=E.found id;have W:=E.fw.len;have f:∀k,waitAt s.wait id=some k->backS s id=(⟨s.wait.eraseIdx k,s.held⟩,253):=λk h=>by unfold backS;rw [h]
 have l:waitAt s.wait id=none->∀k,heldAt s.held id=some k->backS s id=(⟨s.wait,s.held.set k none⟩,253):=λh k m=>by unfold backS;rw [h];dsimp only;rw [m]
 have q:waitAt s.wait id=none->heldAt s.held id=none->backS s id=(s,141):=λh m=>by unfold backS;rw [h];dsimp only;rw [m]
 have b:∃p,p=backS s id:=⟨_,rfl⟩;obtain⟨p,X⟩:=b;rw [<-X] at f l q ⊢;refine eN ?_;refine rX S.cell rfl (rcall (zL5 (id:=id) (S.fz.at (w':=w)).fw (by omega)) ?_);rintro _ G ⟨⟨k,Y,H,m,Z,rfl,I⟩|⟨H,Z,rfl,I⟩,e3⟩
 ·have z:waitAt s.wait id=some k:=by
   rw [<-e]
   exact zCr Y (by simp [H]) λj P=>by
    have J:j<(C.take k).length:=by rw [Qm];omega
    have:=m _ (Qa J);rw [VI] at this;simp [this]
  have b:=f k z;obtain rfl:=b;have b:=I.shape;obtain⟨a3,c3,rfl⟩:=b;refine rS S.cell [.slice a3 (C.eraseIdx k).length c3] (sv1 _ _ _) λw4 M f4 _=>?_;have M:Bk w4 bs (refL c K ⟨a3,(C.eraseIdx k).length,c3⟩ hd) 98:=M;have Q:=S.waits (w1:=G) (s':=⟨s.wait.eraseIdx k,s.held⟩) t M f4 ?_ ?_;exact⟨rfl,Q.1,Q.2 w inferInstance⟩
  ·exact⟨S.so.len,by have:=S.so.wl;have:=List.length_eraseIdx_le s.wait k;dsimp only;omega,λx hx=>S.so.wait x (List.mem_of_mem_eraseIdx hx),S.so.held⟩
  ·refine((S.fz1 (w':=G)).and (S.fzO I (lz w0 w))).imp λu ⟨d,Sw⟩=>⟨d.rows,d.pos,d.words,Sw,d.fh,?_,λi h N=>?_,d.lhn,d.lrn,d.helds⟩
   ·simp only [Vt,d.lwn]
   ·have hl:=d.lwn;dsimp only at N;rw [Vt] at h;rw [Vt] at N;simp only [List.getElem_eraseIdx];split
    ·exact d.waits i (by omega) (by omega)
    ·exact d.waits (i+1) (by split at h <;> omega) (by split at N <;> omega)
 ·have z:waitAt s.wait id=none:=by
   rw [<-e];exact zCq λj P=>by simp [H _ (Qa P)]
  refine rX S.cell rfl ?_;have D:=zGE (id:=id) (S.fz.at (w':=G)).fh (by omega);have b:∃o,o=heldAt s.held id:=⟨_,rfl⟩;obtain⟨o,A⟩:=b;rw [F,<-A] at D;refine rcall D ?_;rintro _ r ⟨rfl,e5⟩
  cases o with
  |some k =>
   have b:=zIm A.symm;obtain⟨y,i,hy,T⟩:=b;have b:=l z k A.symm;obtain rfl:=b;refine rcall (zL8 (k0:=k) (RefP.up (w':=r) O) hy (Qw t (lz w0 r))) ?_;rintro _ w6 ⟨S6,U⟩;exact⟨rfl,RefP.gr (w:=w0) S6 U.size t,(fE w r).trans U⟩
  |none =>
   have b:=q z A.symm;obtain rfl:=b;exact⟨rfl,(RefP.new (w':=r) O t).1,fE w r⟩
theorem zGG{f:List UInt8}(S:RefP R B w bs g c s)(G:B<=w.heap.size)(hf:f.length<=1000000):
  Sp PP 17 #[.pointer (some ⟨bs,0,none⟩),txt f] w λv w'=>v=comeV (comeS g c s f).2/\RefP (gR R w w') B w' bs g c (comeS g c s f).1/\Fr R w w':=by
 have W:=S.lo;have p:∃s' o,comeS g c s f=(s',o):=⟨_,_,rfl⟩;obtain⟨s',o,b⟩:=p
 have a5:reqOf f=none->idOf f=none->s'=s/\o=none:=λt A=>by
  unfold comeS at b;rw [t] at b;dsimp only at b;rw [A] at b;cases b;exact⟨rfl,rfl⟩
 have a6:reqOf f=none->∀id,idOf f=some id->s'=s/\o=some (repB id 220 zAn):=λt id A=>by
  unfold comeS at b;rw [t] at b;dsimp only at b;rw [A] at b;cases b;exact⟨rfl,rfl⟩
 have a7:∀d,reqOf f=some d->d.kind=4->s'=(backS s d.id).1/\o=some (repB d.id (backS s d.id).2 zAn):=λd t A=>by
  unfold comeS at b;rw [t] at b;dsimp only at b;rw [if_pos A] at b;cases b;exact⟨rfl,rfl⟩
 have a8:∀d,reqOf f=some d->d.kind≠4->(¬QyIs d.q g.n->s'=s/\o=some (repB d.id 180 zAn)) /\
   (QyIs d.q g.n->(heldAt s.held d.id≠none->s'=s/\o=some (repB d.id 150 zAn))/\(heldAt s.held d.id=none->(waitAt s.wait d.id≠none->s'=s/\o=some (repB d.id 150 zAn)) /\
    (waitAt s.wait d.id=none->(c.queue<=s.wait.length->s'=s/\o=some (repB d.id 252 zAn))/\(¬c.queue<=s.wait.length->s'=⟨s.wait++[d],s.held⟩/\o=none)))):=λd t A=>by
  unfold comeS at b;rw [t] at b;dsimp only at b;rw [if_neg A] at b
  have ne:∀n:Int,askS g c s d (QyIs d.q g.n)=(s,n)->n≠0->s'=s/\o=some (repB d.id n zAn):=λn e hn=>by
   rw [e] at b;dsimp only at b;rw [if_neg hn] at b;cases b;exact⟨rfl,rfl⟩
  refine⟨λh=>ne _ ?_ (by decide),λh=>⟨λF=>ne _ ?_ (by decide),λF=>⟨λH=>ne _ ?_ (by decide),λH=>⟨λh5=>ne _ ?_ (by decide),λh5=>?_⟩⟩⟩⟩
  ·unfold askS;rw [if_neg h]
  ·unfold askS;rw [if_pos h,if_pos (Xt.2 F)]
  ·unfold askS;rw [if_pos h,F,if_neg (by simp),if_pos (Xt.2 H)]
  ·unfold askS;rw [if_pos h,F,if_neg (by simp),H,if_neg (by simp),if_pos h5]
  ·have e:askS g c s d (QyIs d.q g.n)=(⟨s.wait++[d],s.held⟩,0):=by unfold askS;rw [if_pos h,F,if_neg (by simp),H,if_neg (by simp),if_neg h5]
   rw [e] at b;dsimp only at b;rw [if_pos rfl] at b;cases b;exact⟨rfl,rfl⟩
 rw [b];dsimp only;have I:=S;obtain⟨K,wt,hd,X,lh,lr,S⟩:=S;have Y:=S.fz.here;have c3:=S.small;have c2:=Y.off;have c4:=S.gi.ok.n2;have c5:=Y.lwn;have c6:=Y.fw.len;refine eN ?_;refine rcall (zCL hf) ?_;rintro _ w1 ⟨⟨d,x,hr,rfl,O⟩|⟨Z,rfl⟩,e1⟩
 case inr =>
  refine ral λbx w2 n2 T=>rE T zRq λw3 z U _=>?_;have s3:Stp w1 w3:=n2.st U;clear T U;refine iT (by first|omega|decide|(dsimp only <;> omega)) (rcall (zOn (by omega)) ?_);rintro _ J ⟨⟨id,L,rfl⟩|⟨L,rfl⟩,e4⟩
  ·have p:=a6 Z id L;obtain⟨rfl,rfl⟩:=p;refine rcall zAC ?_;rintro _ w5 ⟨rfl,e5⟩;exact⟨rfl,RefP.new (w':=w5) I G⟩
  ·have p:=a5 Z L;obtain⟨rfl,rfl⟩:=p;exact⟨rfl,RefP.new (w':=J) I G⟩
 case inl =>
  have a0:=zCh hr;have a1:=a0.small;have l:x.id=d.id:=O.1;refine ral λbx w2 n2 T=>?_;have c7:=n2.lo (u:=w);refine rE T x λw3 z U _=>?_;have z:Bk w3 bx (enc x) 55:=z;have s3:Stp w1 w3:=n2.st U;have O3:=RqO.frcR (RqO.upR (w':=w2) O) U T (by decide);clear T U;refine iF (· rfl) (rX z rfl ?_);have hk:=O.2.1;refine ite (λH=>?_) (λH=>?_)
  ·obtain⟨rfl,rfl⟩:=a7 d hr (by rw [<-hk];exact H);refine dD (λi=>i<w.heap.size) (upF 9 0) λJ e4=>tX z rfl (by omega) (tX z rfl (by omega) ?_);rw [l];refine rcall (zL7 (id:=d.id) (w0:=w) (w:=J) I G) ?_;rintro _ w5 ⟨rfl,S5,f5⟩;refine⟨f5.mono λi _ h=>W i h,?_⟩;refine rcall zAC ?_;rintro _ V ⟨rfl,e6⟩;refine⟨Fr.fr e6.e,?_⟩;have hz:=f5.size;have c8:=lz w J;refine⟨rfl,?_,((fE w J).trans f5).trans (fE w5 V)⟩;have a2:=I.reg.1
   exact RefP.wide (RefP.up (w':=V) S5) (λi hi=>hi.imp id λh=>by have:=e6.e.size;omega) λi hi=>by
    rcases hi with hi|hi
    ·have:=a2 i hi;have:=e6.e.size;omega
    ·omega
  obtain⟨b0,b1⟩:=a8 d hr (by rw [<-hk];exact H);have b2:=Y.plc d.id;have b3:=Y.found d.id
  have N:(∀r∈X,r.id≠x.id)↔waitAt s.wait d.id=none:=by
   rw [<-b2,l];unfold plc;rw [Ve];simp
  refine dQ 11 λJ e4=>tG z x.q nf (tX S.cell rfl nf (rarE (y:=(g.n:Int)) (by omega) (by omega) ?_));have V4:QyV J x.q d.q:=((RqO.up (w':=J) O3).v).q;refine rcall (zFB (n:=(g.n:Int)) V4 (by omega) (λs hs=>by have:=a1.2 s hs;omega)) ?_;rintro _ w5 ⟨a3,e5⟩;refine⟨e5.e,?_⟩;rcases a3 with ⟨hq,rfl⟩|⟨hq,rfl⟩
  case inr =>
   have p:=b0 hq;obtain⟨rfl,rfl⟩:=p;refine iT (by first|omega|decide|(dsimp only <;> omega)) (rX z rfl (rcall zAC ?_));rintro _ V ⟨rfl,e6⟩;rw [l];exact⟨rfl,RefP.new (w':=V) I G⟩
  refine iF (· rfl) ?_;have p:=b1 hq;obtain⟨b4,b5⟩:=p;refine dQ 12 λV e6=>tX S.cell rfl nf (tX z rfl nf ?_);have D:=zGE (id:=x.id) (S.fz.at (w':=V)).fh (by omega);have p:∃oh,oh=heldAt s.held d.id:=⟨_,rfl⟩;obtain⟨oh,P⟩:=p;rw [l,b3,<-P] at D;refine rcall (f:=70) (by rw [l];exact D) ?_;rintro _ w7 ⟨rfl,e7⟩;refine⟨e7.e,?_⟩
  cases oh with
  |some k =>
   obtain⟨rfl,rfl⟩:=b4 (by rw [<-P];simp);refine rX z rfl (rcall zAC ?_);rintro _ w8 ⟨rfl,e8⟩;rw [l];exact⟨rfl,RefP.new (w':=w8) I G⟩
  |none =>
   have p:=b5 P.symm;obtain⟨b6,a4⟩:=p;refine dQ 16 λw8 e8=>tX S.cell rfl nf (tX S.cell rfl nf ?_);refine tG z x nf (rcall (zNG (x:=x) (m:=(c.queue:Int)) (S.fz.at (w':=w8)).fw (by omega)) ?_);rintro _ w9 ⟨⟨⟨r,b7,b8⟩,rfl⟩|⟨t,A,rfl⟩|⟨t,A,v9,rfl,O9⟩,e9⟩
   ·have p:=b6 (λh=>N.2 h r b7 b8);obtain⟨rfl,rfl⟩:=p;refine⟨Fr.fr e9.e,?_⟩;refine iT (by first|omega|decide|(dsimp only <;> omega)) (rX z rfl (rcall zAC ?_));rintro _ C ⟨rfl,b9⟩;rw [l];exact⟨rfl,RefP.new (w':=C) I G⟩
   ·have p:=(a4 (N.1 t)).1 (by omega);obtain⟨rfl,rfl⟩:=p;refine⟨Fr.fr e9.e,?_⟩;refine iT (by first|omega|decide|(dsimp only <;> omega)) (rX z rfl (rcall zAC ?_));rintro _ C ⟨rfl,b9⟩;rw [l];exact⟨rfl,RefP.new (w':=C) I G⟩
   ·have p:=(a4 (N.1 t)).2 (by omega);obtain⟨rfl,rfl⟩:=p;refine⟨Fr.fr e9.e,?_⟩;refine iF (· rfl) ?_;have p:=O9.shape;obtain⟨a9,c9,rfl⟩:=p;refine rS S.cell [.slice a9 (X++[x]).length c9] (sv1 _ _ _) λC Q c0 _=>?_;have Q:Bk C bs (refL c K ⟨a9,(X++[x]).length,c9⟩ hd) 98:=Q;have hW:=S.waits (w1:=w9) (s':=⟨s.wait++[d],s.held⟩) G Q c0 ?_ ?_;exact⟨rfl,hW.1,hW.2 w inferInstance⟩
    ·refine⟨S.so.len,by simp;omega,λy hy=>?_,S.so.held⟩;have p:=Qf.1 hy;rcases p with hy|hy
     ·exact S.so.wait y hy
     ·rw [Qc.1 hy];exact⟨hq,a0.2.1⟩
    ·have c1:=lz w w8;refine((S.fz1 (w':=w9)).and ((S.fzO O9 c1).and ((RqO.up (w':=w9) O3).fz (M:=mutR bs K.br) (R:=gR R w w9) λi t A=>⟨.inr ⟨t,A⟩,λh=>by have:=W i (S.mut h);omega⟩))).imp λu ⟨E,Sw,Vx⟩=>⟨E.rows,E.pos,E.words,Sw,E.fh,by simp [E.lwn],λi h h'=>?_,E.lhn,E.lrn,E.helds⟩;have hl:=E.lwn;dsimp only at h';rw [Qb] at h h';simp only [VC] at h h';simp only [VR];by_cases F:i<X.length
     ·rw [dif_pos F,dif_pos (by omega)];exact E.waits i F (by omega)
     ·rw [dif_neg F,dif_neg (by omega)];have e1:i - X.length=0:=by omega
      have e2:i - s.wait.length=0:=by omega
      simp only [e1,e2,Vb];exact Vx
end
section
variable {w u1 u2 uH w9:World} {g:GrD} {c:CfD} {y:RRow} {wl:List ByteArray} {ps:List RPo} {pa:Option Addr} {pc gh gr bs BH:Nat}
theorem zMV(r:GrIs g)(s:CfOk c)(d:RowO w.heap.size u1 y g (revL g))(p:PosM u2 g wl ps)(t:ps.length<=2000)(J:Own w.heap.size 170 u2 (.slice pa ps.length pc) ps)
  (x:∀i (h:i<ps.length) (b:i<wl.length),Own w.heap.size 3 u2 ps[i].pl.v (plOf g wl[i]))(q:Le u1 w9)(H:Le u2 w9)
  (K:Own BH 130 uH (.slice (some ⟨gh,0,none⟩) c.slots c.slots) (List.replicate c.slots zeroH))(M:Le uH w9)(N:w.heap.size<=BH)(z:∀i,BH<=i->i<uH.heap.size->i≠bs/\i≠gr)
  (P:Own w.heap.size 114 w9 (.slice (some ⟨gr,0,none⟩) c.slots c.slots) (List.replicate c.slots zRun))
  (S:Bk w9 bs (refL c ⟨gr,y,revL g,⟨pa,ps.length,pc⟩,wl,ps⟩ ⟨none,0,0⟩ ⟨some ⟨gh,0,none⟩,c.slots,c.slots⟩) 98)
  (V:u1.heap.size<=bs/\u1.heap.size<=gr)(W:u2.heap.size<=bs/\u2.heap.size<=gr)(Q:bs≠gr)(R:gr<w9.heap.size)(I:w.heap.size<=bs/\w.heap.size<=gr):
  RefP (λi=>w.heap.size<=i/\i<w9.heap.size) w.heap.size w9 bs g c (newS c):=by
 have A:=S.lt
 have row:∀{α:Type} [Enc α] {e:TypeId} {C:Nat} {v:Value} {l:List α} {u:World},Own C e u v l->Le u w9->w.heap.size<=C->(∀i,C<=i->i<u.heap.size->i≠bs/\i≠gr)->Fz (mutR bs gr) (λi=>w.heap.size<=i/\i<w9.heap.size) w9 λu=>SlF u v l:=λ{α _ e C v l u} O L X T =>
  O.fzB (haveI:=L;O.sl.up) λi hi U=>⟨⟨by omega,by have:=L.e.size;omega⟩,λh=>by have:=T i hi U;rcases h with h|h <;> omega⟩
 have n1:∀i,w.heap.size<=i->i<u1.heap.size->i≠bs/\i≠gr:=λi _ hi=>by omega
 have n2:∀i,w.heap.size<=i->i<u2.heap.size->i≠bs/\i≠gr:=λi _ hi=>by omega
 have f:=row d.off q (Qe _) n1;have B:=row d.to q (Qe _) n1;have m:=row d.rof q (Qe _) n1;have o:=row d.rev q (Qe _) n1;have E:=row J H (Qe _) n2;have F:∀i (h:i<ps.length) (b:i<wl.length),Fz (mutR bs gr) (λi=>w.heap.size<=i/\i<w9.heap.size) w9 λu=>SlF u ps[i].pl.v (plOf g wl[i]):=λi h b=>row (x i h b) H (Qe _) n2;have G:=row K M N z;refine⟨⟨gr,y,revL g,⟨pa,ps.length,pc⟩,wl,ps⟩,⟨none,0,0⟩,⟨some ⟨gh,0,none⟩,c.slots,c.slots⟩,[],List.replicate c.slots zeroH,List.replicate c.slots zRun,λi hi=>hi,⟨I.1,A⟩,⟨I.2,R⟩,Q,S,P,λu' f'=>?_,r,s,t,(new_ok g c).w⟩;refine⟨⟨d.rev',f u' f',B u' f',m u' f',o u' f'⟩,⟨p.ris,p.all,p.len,λi h b=>⟨(p.at' i h b).1,F i h b u' f'⟩⟩,E u' f',SlF.nil _,G u' f',rfl,λi h=>absurd h (Nat.not_lt_zero _),by simp [newS],by simp [newS],λk h b=>?_⟩
 have e:(newS c).held.getD k none=none:=by
  show (List.replicate c.slots none).getD k none=none;rw [Qk,Vk];split <;> rfl
 rw [e];show ((List.replicate c.slots zeroH)[k]).used=false/\(List.replicate c.slots zRun)[k]=zRun;simp [zeroH]
end
theorem zNJ{x:RCfg}{f:List UInt8}{w:World}(hf:f.length<=1000000):
  Sp PP 11 #[agg x,txt f] w λv w'=>((¬cfgOk x/\v=.tuple #[.pointer none,.int .i64 1])\/(cfgOk x/\imgOf f=none/\v=.tuple #[.pointer none,.int .i64 30]) \/
   ∃g bs,cfgOk x/\imgOf f=some g/\v=.tuple #[.pointer (some ⟨bs,0,none⟩),.int .i64 0]/\RefP (λi=>w.heap.size<=i/\i<w'.heap.size) w.heap.size w' bs g (cfOf x) (newS (cfOf x)))/\Stp w w':=by
 refine eN ?_;refine rbx λbc w1 n1 E=>?_;have E:Bk w1 bc (enc x) 23:=E;refine rldG (B:=E) rfl rfl ?_;refine rcall zJM ?_;rintro _ w2 ⟨⟨rfl,d⟩|⟨rfl,d⟩,e2⟩
 case' inr=>exact⟨.inl ⟨d,rfl⟩,stp⟩
 have s:=zDQ d;have W:=id d;obtain⟨a8,a9,b0,b1,b2⟩:=W
 have K:enc x=[.int .i64 ((cfOf x).workers:Nat),.int .i64 ((cfOf x).slots:Nat),.int .i64 ((cfOf x).queue:Nat),.int .i64 ((cfOf x).pool:Nat),.int .i64 ((cfOf x).budget:Nat)]:=by
  show [Value.int .i64 x.workers,.int .i64 x.slots,.int .i64 x.queue,.int .i64 x.pool,.int .i64 x.budget]=_;simp only [cfOf];rw [Jh (by omega),Jh (by omega),Jh (by omega),Jh (by omega),Jh (by omega)]
 have W:∃c,c=cfOf x:=⟨_,rfl⟩;obtain⟨c,hc⟩:=W;rw [<-hc] at K s ⊢;have b3:=s.slots;rw [K] at E;refine rcall (zKQ hf) ?_;rintro _ w3 ⟨⟨g,S,vs,o,rfl,V3⟩|⟨o,rfl⟩,e3⟩
 case' inr =>
  refine ral λbg w5 X L=>rE L zGr λJ M N _=>?_;have s6:Stp w3 J:=X.st N;clear L N;refine iT (by first|omega|decide|(dsimp only <;> omega)) ?_;exact⟨.inr (.inl ⟨d,o,rfl⟩),stp⟩
 have t:=zKp o;refine ral λbg w5 X L=>rE L S λJ M N _=>?_;have M:Bk J bg (enc S) 77:=M;have s6:Stp w3 J:=X.st N;clear L N;refine iF (· rfl) (rG M S (rcall (zLR (V3.up (w':=J)) t) ?_));rintro _ Y ⟨⟨y,rfl,C⟩,e7⟩;refine ral λZ w8 n8 Y8=>rE Y8 y λT Y9 f9 _=>?_;have Y9:Bk T Z (enc y) 82:=Y9;have s9:Stp Y T:=n8.st f9;clear Y8 f9;refine rG M S (rcall (zLT (V3.up (w':=T)) t) ?_);rintro _ p ⟨⟨pa,pc,ps,wl,rfl,PM,O,U,z⟩,b4⟩;have V:=lz w J;have z9:=lz w T;have a7:=lz Y p;have zz:w.heap.size<=Y.heap.size:=Le.size;have C:=RowO.mk C.rev' (C.off.mono V) (C.to.mono V) (C.rof.mono V) (C.rev.mono V);have U:=U.mono z9;have z:=λi h h'=>(z i h h').mono z9;refine dT (λ_=>False) (oL [0,1,2,3,4,6,7] (.two 5 (oL [8,9,10,11,12] .nil) 8 (oL [5,9,10,11,12] .nil))) λA b5=>tldG (ds:=[.int .i64 (c.workers:Nat),.int .i64 (c.slots:Nat),.int .i64 (c.queue:Nat),.int .i64 (c.pool:Nat),.int .i64 (c.budget:Nat)]) (B:=E) rfl rfl nf (tG Y9 y nf (tX E rfl nf (tX E rfl nf ?_)));refine⟨?_,?_⟩
 ·refine rmk zeroH rfl rfl (by omega) λgh m OH F a0=>⟨Fr.fr F.e,?_⟩;refine rmk zRun rfl rfl (by omega) λgr l P G a1=>⟨Fr.fr G.e,?_⟩;refine tbuild (cs:=refL c ⟨gr,y,revL g,⟨pa,ps.length,pc⟩,wl,ps⟩ ⟨none,0,0⟩ ⟨some ⟨gh,0,none⟩,c.slots,c.slots⟩) rfl (rbx λbs q r H=>⟨Fr.fr r.e,?_⟩);have a2:=r.b;have a3:=lz p l
  have Q:gr<l.heap.size:=by
   obtain⟨gq,R,_,h3⟩:=P.lt (by intro h;have:=congrArg List.length h;simp at this;omega);cases R;exact h3
  have a4:=lz p A;have a5:=lz A m;have I:=lz m l;have a6:=lz l q;exact⟨.inr (.inr ⟨g,bs,d,o,rfl,zMV t s C PM O U z inferInstance inferInstance OH inferInstance (by omega) (λi R h2=>by omega) ((P.up (w':=q)).mono (by omega)) H (by omega) (by omega) (by omega) (by omega) (by omega)⟩),stp⟩
 ·refine rmk zRun rfl rfl (by omega) λgr m P F a1=>⟨Fr.fr F.e,?_⟩;refine rmk zeroH rfl rfl (by omega) λgh l OH G a0=>⟨Fr.fr G.e,?_⟩;refine tbuild (cs:=refL c ⟨gr,y,revL g,⟨pa,ps.length,pc⟩,wl,ps⟩ ⟨none,0,0⟩ ⟨some ⟨gh,0,none⟩,c.slots,c.slots⟩) rfl (rbx λbs q r H=>⟨Fr.fr r.e,?_⟩);have a2:=r.b;have a3:=lz p l
  have Q:gr<m.heap.size:=by
   obtain⟨gq,R,_,h3⟩:=P.lt (by intro h;have:=congrArg List.length h;simp at this;omega);cases R;exact h3
  have a4:=lz p A;have a5:=lz A m;have I:=lz m l;have a6:=lz l q;exact⟨.inr (.inr ⟨g,bs,d,o,rfl,zMV t s C PM O U z inferInstance inferInstance OH inferInstance (by omega) (λi R h2=>by omega) ((P.up (w':=q)).mono (by omega)) H (by omega) (by omega) (by omega) (by omega) (by omega)⟩),stp⟩
section
variable {R R' R2:Nat->Prop} {B B2:Nat} {u u' w w':World} {bs bt:Nat} {g:GrD} {c:CfD} {s t:SvD}
theorem RefP.stw(S:RefP R B w bs g c s)(f:Fr R w w')(b:w1.heap.size<=B):Stw w1 w w':=⟨f.mono λi _ hi=>by have:=(S.reg.1 i hi).1;omega⟩
theorem RefP.frB(S:RefP R B w bs g c s)(f:Fr R w w'):Fr (λi=>B<=i) w w':=f.mono λi _ hi=>(S.reg.1 i hi).1
end
theorem zJ4{x:RCfg}{im:List UInt8}(c:im.length<=1000000){w:World}:
  Sp PP 11 #[agg x,txt im] w λv w'=>((errN x im≠0/\v=.tuple #[.pointer none,.int .i64 (errN x im)]) \/
   ∃g bs,cfgOk x/\imgOf im=some g/\errN x im=0/\v=.tuple #[.pointer (some ⟨bs,0,none⟩),.int .i64 0]/\RefP (λi=>w.heap.size<=i/\i<w'.heap.size) w.heap.size w' bs g (cfOf x) (newS (cfOf x)))/\Stp w w':=
 (zNJ c).mono λv w' ⟨h,e⟩=>⟨by
  rcases h with ⟨b,rfl⟩|⟨b,hi,rfl⟩|⟨g,bs,b,hi,rfl,S⟩
  ·left;unfold errN;rw [if_neg b];exact⟨by decide,rfl⟩
  ·left;unfold errN;rw [if_pos b,if_pos hi];exact⟨by decide,rfl⟩
  ·right;exact⟨g,bs,b,hi,zDo.2 ⟨b,g,hi⟩,rfl,S⟩,e⟩
def AuRf {α:Type} [Enc α] (B C:Nat) (w2 u:World) (e:TypeId) (v:Value) (L:List α) (bs:Nat) (g:GrD) (c:CfD) (s:SvD):Prop:=
 ∃R,RefP R B u bs g c s/\Own C e u v L/\(∀b,Value.blk v=some b->b<u.heap.size/\¬R b)/\Fr (λi=>B<=i) w2 u
section
variable {α:Type} [Enc α] {B C:Nat} {w2 u u' u2 u3:World} {e:TypeId} {v v':Value} {L M:List α} {bs:Nat} {g:GrD} {c:CfD} {s s':SvD} {R R':Nat->Prop}
theorem AuRf.go(o:RefP R' B u' bs g c s')(d:∀i,R' i->gR R u u' i)(f:Fr R u u')(S:RefP R B u bs g c s)(O:Own C e u v L)(l:∀b,Value.blk v=some b->b<u.heap.size/\¬R b)(p:Fr (λi=>B<=i) w2 u):AuRf B C w2 u' e v L bs g c s':=by
 have z:=f.size;refine⟨R',o,O.fr f λb _ h=>(l b h).2,λb h=>?_,p.trans (S.frB f)⟩;have q:=l b h;refine⟨by omega,λr=>?_⟩;have t:=d b r;rcases t with m|m
 ·exact q.2 m
 ·omega
theorem AuRf.eq{b:List α}{s':SvD}(h:AuRf B C w2 u e v L bs g c s)(d:b=L)(f:s'=s):AuRf B C w2 u e v b bs g c s':=by subst d;subst f;exact h
theorem AuRf.up[l:Le u u'](h:AuRf B C w2 u e v L bs g c s):AuRf B C w2 u' e v L bs g c s:=by
 obtain⟨R,S,O,d,f⟩:=h;have:=l.e.size;exact⟨R,S.up,O.up,λb m=>⟨by have:=(d b m).1;omega,(d b m).2⟩,f.trans (Fr.fr l.e)⟩
theorem AuRf.app(h:AuRf B C w2 u e v L bs g c s)(m:B<=C)(O:Own C e u' v' (L++M))(f:Fr (ownD C v) u u')(l:Value.blk v'=Value.blk v\/Value.blk v'=some u.heap.size/\M≠[]):AuRf B C w2 u' e v' (L++M) bs g c s:=by
 obtain⟨R,S,_,o,q⟩:=h;have z:=f.size;refine⟨R,S.away f λi hi r=>(o i hi.2.1).2 r,O,λb d=>?_,q.trans (f.mono λi _ hi=>Qw m hi.1)⟩;rcases l with l|⟨l,t⟩
 ·rw [l] at d;have:=o b d;exact⟨by omega,this.2⟩
 ·have w:=O.lt (by simp [t]);obtain⟨A,p,_,x⟩:=w;rw [l] at d p;cases p;cases d;exact⟨x,λy=>by have:=(S.reg.1 _ y).2;omega⟩
end
theorem zNK{x:RCfg}{im:List UInt8}(a1:im.length<=1000000){c:Nat}{l:List REv}{w:World}(h:SlF w (.slice a n c) l)(hf:l.length<=1000->∀y∈l,y.frame.length<=1000000):
  Sp PP 27 #[agg x,txt im,.slice a n c] w λv w'=>(∃vt M,v=.tuple #[vt,M,.int .i64 (errA x im l.length)]/\Own w.heap.size 9 w' vt ((toldA x im (evD l)).map bsOf)/\Own w.heap.size 3 w' M (liveA x im (evD l)))/\Stp w w':=by
 have q:=h.len;obtain rfl:=q
 have N:errA x im l.length≠0->∀w':World,Own w.heap.size 9 w' (.slice none 0 0) ((toldA x im (evD l)).map bsOf)/\Own w.heap.size 3 w' (.slice none 0 0) (liveA x im (evD l)):=λz w'=>by
  unfold toldA liveA;rw [if_neg (by rw [zAU];exact z),if_neg (by rw [zAU];exact z)];exact⟨Own.nil _ _ _,Own.nil _ _ _⟩
 refine eN ?_;refine rbx λb w1 n1 B1=>?_;have B1:Bk w1 b (enc x) 23:=B1;refine ite (λh1=>?_) (λh1=>?_)
 ·have z:errA x im l.length=2:=if_pos (by omega);have P:Value.tuple #[.slice none 0 0,.slice none 0 0,.int .i64 2]=.tuple #[.slice none 0 0,.slice none 0 0,.int .i64 (errA x im l.length)]:=by rw [z]
  exact⟨⟨_,_,P,N (by rw [z];decide) _⟩,stp⟩
 have Q:l.length<=1000:=by omega
 have hf:=hf Q;refine rldG (B:=B1) rfl rfl ?_;refine rcall (zJ4 a1) ?_;rintro _ w2 ⟨⟨z,rfl⟩|⟨g,bs,hc,hi,z,rfl,S⟩,e2⟩
 ·have m:errA x im l.length=errN x im:=if_neg (by omega);refine iT z ?_;have P:Value.tuple #[.slice none 0 0,.slice none 0 0,.int .i64 (errN x im)]=.tuple #[.slice none 0 0,.slice none 0 0,.int .i64 (errA x im l.length)]:=by rw [m]
  exact⟨⟨_,_,P,N (by rw [m];exact z) _⟩,stp⟩
 have m:errA x im l.length=0:=zCp.2 ⟨Q,z⟩;have z2:=e2.e.size;have z1:=lz w w1;have T:=zDQ hc;refine iF (· rfl) ?_
 refine cO 13 [] 11 12 l.length (λk v u=>AuRf w1.heap.size w2.heap.size w2 u 9 v ((audR g (cfOf x) ((evD l).take k)).told.map bsOf) bs g (cfOf x) (audR g (cfOf x) ((evD l).take k)).s)
  ⟨_,S,Own.nil _ _ _,(λb U=>nomatch U),Fr.refl _ _⟩ ?_
 rintro k v G u hk ⟨R,S,O,U,V⟩;have su:Stw w1 w2 u:=⟨V⟩;have zu:=V.size;have E:=zFW (g:=g) T ((evD l).take k);have a9:((evD l).take k).length<=1000:=by rw [Qm,zA4];omega
 have a2:((audR g (cfOf x) ((evD l).take k)).told.map bsOf).length=(audR g (cfOf x) ((evD l).take k)).told.length:=Qr ..;refine ite (λhlt=>?_) (λb0=>?_)
 ·have p:k<l.length:=by omega
  have C:l[k]? = some l[k]:=by simp
  have q:∃y,y=l[k]:=⟨_,rfl⟩;obtain⟨y,hy⟩:=q;rw [<-hy] at C;have a4:y∈l:=by rw [hy];exact Qa p
  have F:=hf y a4
  have d:audR g (cfOf x) ((evD l).take (k+1))=audS g (cfOf x) (audR g (cfOf x) ((evD l).take k)) (y.tick,y.frame):=by
   rw [zFi (by rw [zA4];exact p),zIj p,<-hy]
  have a5:=zFR T E.1;have q:∃r,r=audR g (cfOf x) ((evD l).take k):=⟨_,rfl⟩;obtain⟨r,hr⟩:=q;rw [<-hr] at S O E d a2 a5;have q:∃A,A=audR g (cfOf x) ((evD l).take (k+1)):=⟨_,rfl⟩;obtain⟨A,W⟩:=q;rw [<-W] at d;have H:∀{v':Value} {u':World},AuRf w1.heap.size w2.heap.size w2 u' 9 v' (A.told.map bsOf) bs g (cfOf x) A.s->AuRf w1.heap.size w2.heap.size w2 u' 9 v' ((audR g (cfOf x) ((evD l).take (k+1))).told.map bsOf) bs g (cfOf x) (audR g (cfOf x) ((evD l).take (k+1))).s:=λ{v' u'} h=>by rw [<-W];exact h
  have X:w1.heap.size<=u.heap.size:=by omega
  obtain⟨yt,Y,pa,pn,pc⟩:=y;have F:Y.length<=1000000:=F;have a8:((tickS g (cfOf x) r.s).2.map bsOf).length=(tickS g (cfOf x) r.s).2.length:=Qr ..
  cases yt with
  |true =>
   rw [zBl] at d;refine rix (i:=k) (h.up (w':=u)) C λb6 o6 A6=>rload1 (A6.cell0 rfl) (rcall (zGI S E.1 X) ?_);rintro v3 K ⟨R3,V3,_,Z,a6,I⟩;have z3:=I.size;have L:=AuRf.go Z a6 I S O U V;have q:=V3.shape;obtain⟨a3,c3,rfl⟩:=q;have O3:Own w2.heap.size 9 K v (r.told.map bsOf):=by obtain⟨_,_,O3,_⟩:=L;exact O3
   refine rappF ⟨rfl,rfl⟩ O3 V3.sl (by omega) (by constructor <;> omega) λv5 w5 O5 f5 J=>?_;have Q5:=L.app z2 O5 f5 J;have eL:A.told.map bsOf=r.told.map bsOf++(tickS g (cfOf x) r.s).2.map bsOf:=by rw [d];exact QB
   have es:A.s=(tickS g (cfOf x) r.s).1:=by rw [d]
   have Q6:=H (Q5.eq eL es);exact rA ⟨rfl,p,Q6⟩
  |false =>
   refine rix (i:=k) (h.up (w':=u)) C λb6 o6 A6=>rload1 (A6.cell0 rfl) (rix (i:=k) (h.up (w':=u)) C λb7 o7 A7=>rload1 (A7.cell 1 rfl) ?_);have D:=zGG (f:=Y) S X F;have q:∃o,(comeS g (cfOf x) r.s Y).2=o:=⟨_,rfl⟩;obtain⟨o,ho⟩:=q;rw [ho] at D
   cases o with
   |some t =>
    rw [zBS ho] at d;refine rcall D ?_;rintro _ K ⟨rfl,Z,I⟩;have z3:=I.size;have L:=AuRf.go (R':=gR R u K) Z (λi h=>h) I S O U V;refine bS (bsOf t) λb4 w4 e4 _ S4=>?_;have z4:=e4.e.size;have s4:Stp K w4:=⟨e4.e⟩;have Q4:=L.up (u':=w4);have O4:Own w2.heap.size 9 w4 v (r.told.map bsOf):=by obtain⟨_,_,O4,_⟩:=Q4;exact O4
    refine rappF ⟨rfl,rfl⟩ O4 S4 (by omega) (by simp only [QA,QZ];omega) λv5 w5 O5 f5 J=>?_;have Q5:=Q4.app z2 O5 f5 J;have eL:A.told.map bsOf=r.told.map bsOf++[bsOf t]:=by rw [d];exact QB
    have es:A.s=(comeS g (cfOf x) r.s Y).1:=by rw [d]
    have Q6:=H (Q5.eq eL es);exact rA ⟨rfl,p,Q6⟩
   |none =>
    refine rcall D ?_;rintro _ K ⟨rfl,Z,I⟩;have L:=AuRf.go (R':=gR R u K) Z (λi h=>h) I S O U V;rw [zBk ho] at d;have eL:A.told.map bsOf=r.told.map bsOf:=by rw [d]
    have es:A.s=(comeS g (cfOf x) r.s Y).1:=by rw [d]
    have Q6:=H (L.eq eL es);exact rA ⟨rfl,p,Q6⟩
 ·have a7:k=l.length:=by omega
  have a0:(evD l).take k=evD l:=by rw [a7,<-zA4 l,Qg]
  rw [a0] at S O;have ht:toldA x im (evD l)=(audR g (cfOf x) (evD l)).told:=by unfold toldA;rw [if_pos (by rw [zAU];exact m),zAY hi]
  have hl:liveA x im (evD l)=(List.range (cfOf x).workers).map λk=>(liveW g (cfOf x).workers (audR g (cfOf x) (evD l)).s.held k:Int):=by unfold liveA;rw [if_pos (by rw [zAU];exact m),zAY hi]
  refine rcall (zGH S) ?_;rintro M w4 ⟨O4,e4⟩;have P:Value.tuple #[v,M,.int .i64 0]=.tuple #[v,M,.int .i64 (errA x im l.length)]:=by rw [m]
  refine⟨⟨_,_,P,?_,?_⟩,stp⟩
  ·rw [ht];exact(O.up (w':=w4)).mono (by omega)
  ·rw [hl];exact O4.mono (by omega)
theorem zK0{x:RCfg}{im:List UInt8}(a1:im.length<=1000000){c:Nat}{l:List REv}{w:World}(h:SlF w (.slice a n c) l)(hf:l.length<=1000->∀y∈l,y.frame.length<=1000000):
  Sp PP 29 #[agg x,txt im,.slice a n c] w λv w'=>(∃vk,v=.tuple #[vk,.int .i64 (errA x im l.length)]/\Own w.heap.size 3 w' vk (tookA x im (evD l)))/\Stp w w':=by
 have F:=h.len;obtain rfl:=F
 have T:errA x im l.length≠0->∀w':World,Own w.heap.size 3 w' (.slice none 0 0) (tookA x im (evD l)):=λH w'=>by
  unfold tookA;rw [if_neg (by rw [zAU];exact H)];exact Own.nil _ _ _
 refine eN ?_;refine rbx λb w1 n1 B1=>?_;have B1:Bk w1 b (enc x) 23:=B1;refine ite (λh1=>?_) (λh1=>?_)
 ·have H:errA x im l.length=2:=if_pos (by omega);have U:Value.tuple #[.slice none 0 0,.int .i64 2]=.tuple #[.slice none 0 0,.int .i64 (errA x im l.length)]:=by rw [H]
  exact⟨⟨_,U,T (by rw [H];decide) _⟩,stp⟩
 have V:l.length<=1000:=by omega
 have hf:=hf V;refine rldG (B:=B1) rfl rfl ?_;refine rcall (zJ4 a1) ?_;rintro _ w2 ⟨⟨H,rfl⟩|⟨g,bs,hc,hi,H,rfl,S⟩,e2⟩
 ·have A:errA x im l.length=errN x im:=if_neg (by omega);refine iT H ?_;have U:Value.tuple #[.slice none 0 0,.int .i64 (errN x im)]=.tuple #[.slice none 0 0,.int .i64 (errA x im l.length)]:=by rw [A]
  exact⟨⟨_,U,T (by rw [A];exact H) _⟩,stp⟩
 have A:errA x im l.length=0:=zCp.2 ⟨V,H⟩;have z2:=e2.e.size;have z1:=lz w w1;have a2:=zDQ hc;refine iF (· rfl) ?_
 refine cO 12 [] 10 11 l.length (λk v u=>AuRf w1.heap.size w2.heap.size w2 u 3 v (audR g (cfOf x) ((evD l).take k)).took bs g (cfOf x) (audR g (cfOf x) ((evD l).take k)).s)
  ⟨_,S,Own.nil _ _ _,(λb hb=>nomatch hb),Fr.refl _ _⟩ ?_
 rintro k v G u hk ⟨R,S,O,hb,fu⟩;have su:Stw w1 w2 u:=⟨fu⟩;have zu:=fu.size;have W:=zFW (g:=g) a2 ((evD l).take k);have a8:((evD l).take k).length<=1000:=by rw [Qm,zA4];omega
 refine ite (λhlt=>?_) (λa9=>?_)
 ·have p:k<l.length:=by omega
  have C:l[k]? = some l[k]:=by simp
  have F:∃y,y=l[k]:=⟨_,rfl⟩;obtain⟨y,hy⟩:=F;rw [<-hy] at C;have a3:y∈l:=by rw [hy];exact Qa p
  have I:=hf y a3
  have m:audR g (cfOf x) ((evD l).take (k+1))=audS g (cfOf x) (audR g (cfOf x) ((evD l).take k)) (y.tick,y.frame):=by
   rw [zFi (by rw [zA4];exact p),zIj p,<-hy]
  have F:∃r,r=audR g (cfOf x) ((evD l).take k):=⟨_,rfl⟩;obtain⟨r,hr⟩:=F;rw [<-hr] at S O W m;have F:∃z,z=audR g (cfOf x) ((evD l).take (k+1)):=⟨_,rfl⟩;obtain⟨z,X⟩:=F;rw [<-X] at m;have E:∀{v':Value} {u':World},AuRf w1.heap.size w2.heap.size w2 u' 3 v' z.took bs g (cfOf x) z.s->AuRf w1.heap.size w2.heap.size w2 u' 3 v' (audR g (cfOf x) ((evD l).take (k+1))).took bs g (cfOf x) (audR g (cfOf x) ((evD l).take (k+1))).s:=λ{v' u'} h=>by rw [<-X];exact h
  have Y:w1.heap.size<=u.heap.size:=by omega
  obtain⟨yt,L,pa,pn,pc⟩:=y;have I:L.length<=1000000:=I
  cases yt with
  |true =>
   rw [zBl] at m;refine rix (i:=k) (h.up (w':=u)) C λb6 o6 A6=>rload1 (A6.cell0 rfl) (rcall (zGI S W.1 Y) ?_);rintro v3 Z ⟨R3,V3,_,S3,a4,f3⟩;have Q3:=AuRf.go S3 a4 f3 S O hb fu;have J:z.took=r.took:=by rw [m]
   have K:z.s=(tickS g (cfOf x) r.s).1:=by rw [m]
   have M:=E (Q3.eq J K);exact rA ⟨rfl,p,M⟩
  |false =>
   refine rix (i:=k) (h.up (w':=u)) C λb6 o6 A6=>rload1 (A6.cell0 rfl) (rix (i:=k) (h.up (w':=u)) C λb7 o7 A7=>rload1 (A7.cell 1 rfl) ?_);have D:=zGG (f:=L) S Y I;have F:∃o,(comeS g (cfOf x) r.s L).2=o:=⟨_,rfl⟩;obtain⟨o,ho⟩:=F;rw [ho] at D;refine rcall D ?_;rintro _ Z ⟨rfl,S3,f3⟩;have z3:=f3.size;have t3:Stw w1 u Z:=S.stw f3 (Qe _);have Q3:=AuRf.go (R':=gR R u Z) S3 (λi h=>h) f3 S O hb fu;refine rix (i:=k) (h.up (w':=Z)) C λb8 o8 A8=>rload1 (A8.cell 1 rfl) (rcall (zCL I) ?_);rintro _ w4 ⟨⟨d,q,N,rfl,hO⟩|⟨N,rfl⟩,e4⟩
   ·have a5:=hO.1;refine ral λbq w5 n5 X5=>rE X5 q λQ X6 f6 _=>?_;have X6:Bk Q bq (enc q) 55:=X6;have t6:Stp w4 Q:=n5.st f6;have M:=Q3.up (u':=Q);clear X5 f6
    cases o with
    |some t =>
     rw [zBS ho] at m;have J:z.took=r.took:=by rw [m]
     have K:z.s=(comeS g (cfOf x) r.s L).1:=by rw [m]
     have P:=E (M.eq J K);exact rA ⟨rfl,p,P⟩
    |none =>
     refine iT rfl (rld (B:=X6) (v:=.int .i64 d.id) (by rw [<-a5];rfl) (bS d.id λb7 w7 e7 _ S7=>?_));have z7:=lz Z w7;have Q7:=M.up (u':=w7);have O7:Own w2.heap.size 3 w7 v r.took:=by obtain⟨_,_,O7,_⟩:=Q7;exact O7
     refine rappF ⟨rfl,rfl⟩ O7 S7 (by omega) (by simp only [QA,QZ];omega) λv8 w8 O8 f8 a6=>?_;have Q8:=Q7.app z2 O8 f8 a6;rw [zBk ho,N] at m;have J:z.took=r.took++[d.id]:=by rw [m];rfl
     have K:z.s=(comeS g (cfOf x) r.s L).1:=by rw [m]
     have P:=E (Q8.eq J K);exact rA ⟨rfl,p,P⟩
   ·refine ral λbq w5 n5 X5=>rE X5 zRq λQ X6 f6 _=>?_;have t6:Stp w4 Q:=n5.st f6;have M:=Q3.up (u':=Q);clear X5 f6
    cases o with
    |some t =>
     rw [zBS ho] at m;have J:z.took=r.took:=by rw [m]
     have K:z.s=(comeS g (cfOf x) r.s L).1:=by rw [m]
     have P:=E (M.eq J K);exact rA ⟨rfl,p,P⟩
    |none =>
     refine iF (by decide) ?_;rw [zBk ho,N] at m;have J:z.took=r.took:=by rw [m];exact QE _
     have K:z.s=(comeS g (cfOf x) r.s L).1:=by rw [m]
     have P:=E (M.eq J K);exact rA ⟨rfl,p,P⟩
 ·have a7:k=l.length:=by omega
  have a0:(evD l).take k=evD l:=by rw [a7,<-zA4 l,Qg]
  rw [a0] at O;have ht:tookA x im (evD l)=(audR g (cfOf x) (evD l)).took:=by unfold tookA;rw [if_pos (by rw [zAU];exact A),zAY hi]
  have U:Value.tuple #[v,.int .i64 0]=.tuple #[v,.int .i64 (errA x im l.length)]:=by rw [A]
  refine⟨⟨_,U,?_⟩,stp⟩;rw [ht];exact O.mono (by omega)
theorem zMb{c:Nat}{l:List REv}{w:World}(h:SlF w (.slice a n c) l)(S:l.length<=1000000):Sp PP 33 #[.slice a n c] w λv w'=>Own w.heap.size 36 w' v (calmL l)/\Stp w w':=by
 have m:=h.len;obtain rfl:=m;refine eN ?_;refine cO 5 [] 3 4 l.length (λk v u=>Own w.heap.size 36 u v (calmL (l.take k))/\Stp w u) ⟨Own.nil _ _ _,stp⟩ ?_;rintro k v G u T ⟨O,B⟩;refine ite (λhlt=>?_) (λC=>?_)
 ·have d:k<l.length:=by omega
  have f:l[k]? = some l[k]:=by simp
  have o:l≠[]:=λh0=>by rw [h0] at d;exact absurd d (Nat.not_lt_zero _)
  have y:∀b,Value.blk (.slice a l.length c)=some b->¬ownD w.heap.size v b:=λb E hd=>by
   have m:=h.lt o;obtain⟨U,z,V⟩:=m;rw [E] at z;cases z;have:=hd.1;omega
  refine dD (ownD w.heap.size v) (upF 15 0) λA W=>tix (h.up (w':=A)) f λF X H p=>tload1 (H.cell0 rfl) (y F p) (tix (h.up (w':=A)) f λI Y J q=>tload1 (J.cell 1 rfl) (y I q) (tbuild (cs:=enc (⟨l[k].tick,l[k].frame,none,0,0⟩:REv)) rfl (bS (⟨l[k].tick,l[k].frame,none,0,0⟩:REv) λZ K L _ M=>⟨Fr.fr L.e,?_⟩)));have N:(calmL (l.take k)).length<=1000000:=by rw [zEh,Qm];omega
  refine rapp1 (u:=w) ⟨rfl,rfl⟩ (O.up (w':=K)) M (by omega) λP Q r s R=>⟨s,?_⟩;refine rA ⟨rfl,d,?_,stp⟩;have t:calmL (l.take (k+1))=calmL (l.take k)++[⟨l[k].tick,l[k].frame,none,0,0⟩]:=by rw [take_add d];unfold calmL;rw [QB];rfl
  rw [t];exact r
 ·have x:k=l.length:=by omega
  rw [x,Qg] at O;exact⟨O,B⟩
theorem zG5{x:RCfg}{im:List UInt8}(o:im.length<=4611686018427387904){c:Nat}{l:List REv}{w:World}(h:SlF w (.slice a n c) l)(J:EvsM w l)(K:∀y∈l,y.frame.length<=4611686018427387904):
  Sp PP 4 #[agg x,txt im,.slice a n c] w λv w'=>v=.bool true/\Stp w w':=by
 have d:=h.len;obtain rfl:=d;refine eN ?_;refine rbx λb w1 n1 m=>?_;have m:Bk w1 b (enc x) 23:=m;refine rldG (B:=m) rfl rfl ?_;refine rcall (zNv h.up) ?_;rintro _ w2 ⟨rfl|⟨rfl,N,hl,hi⟩,e2⟩
 ·exact⟨rfl,stp⟩
 have p:l.length<=1000->∀y∈l,y.frame.length<=1000000:=λh0 y O=>by have:=((N h0).2 y O).1;omega
 have L:=zOD (x:=x) (im:=im) (evD l);have P:((toldA x im (evD l)).map bsOf).length=(toldA x im (evD l)).length:=Qr ..;refine rldG (B:=m) rfl rfl ?_;refine rcall (zC2 o (h.up (w':=w2)) J.up K) ?_;rintro _ Q ⟨⟨vt,vl,rfl,z,A⟩,e3⟩;refine rldG (B:=m) rfl rfl ?_;refine rcall (zNK (by omega) (h.up (w':=Q)) p) ?_;rintro _ R ⟨⟨S,T,rfl,C,E⟩,e6⟩;refine rldG (B:=m) rfl rfl ?_;refine rcall (zDP o (h.up (w':=R)) J.up K) ?_;rintro _ U ⟨⟨V,rfl,F⟩,e7⟩;refine rldG (B:=m) rfl rfl ?_;refine rcall (zK0 (by omega) (h.up (w':=U)) p) ?_;rintro _ W ⟨⟨M,rfl,f⟩,X⟩;refine rcall zIp ?_;rintro _ e ⟨rfl,Y⟩;have z:=z.up (w':=e);have A:=A.up (w':=e);have C:=C.up (w':=e);have E:=E.up (w':=e);have F:=F.up (w':=e);have f:=f.up (w':=e);have d:=z.shape;obtain⟨Z,a0,rfl⟩:=d;have d:=A.shape;obtain⟨a1,a2,rfl⟩:=d;have d:=C.shape;obtain⟨a3,a4,rfl⟩:=d;have d:=E.shape;obtain⟨a5,a6,rfl⟩:=d;have d:=F.shape;obtain⟨a7,a8,rfl⟩:=d;have d:=f.shape;obtain⟨a9,b0,rfl⟩:=d;refine rcall ((zDc z.sl C.sl (by omega)).tt rfl) ?_;rintro _ q ⟨rfl,b1⟩;refine rcall ((zBI (A.sl.up (w':=q)) (E.sl.up (w':=q)) (by omega)).tt rfl) ?_;rintro _ r ⟨rfl,b2⟩;refine iT rfl (rcall ((zBI (F.sl.up (w':=r)) (f.sl.up (w':=r)) (by omega)).tt rfl) ?_);rintro _ G ⟨rfl,b3⟩;refine iT rfl (rcall (zET (h.up (w':=G)) (by omega)) ?_);rintro b4 H ⟨s,b5⟩;refine rcall (zMb (h.up (w':=H)) (by omega)) ?_;rintro b6 I ⟨t,b7⟩;have d:=s.shape;obtain⟨b8,b9,rfl⟩:=d;have d:=t.shape;obtain⟨c0,c1,rfl⟩:=d;refine rcall (zMc (s.sl.up (w':=I)) t.sl (by omega)) ?_;rintro _ c2 ⟨rfl,c3⟩;exact⟨rfl,stp⟩
end Go.W
