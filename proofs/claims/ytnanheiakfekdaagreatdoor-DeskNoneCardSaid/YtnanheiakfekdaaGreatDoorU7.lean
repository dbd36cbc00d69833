/-
  Proved here: parts of this claim.
  Conditions: told at each.
-/
import Derived.Lib.AppendStr
import Derived.Handed
import Derived.LaidLaws
import Derived.MakeChecks
import Derived.Stop.Joined
import Derived.Test.YtnanheiakfekdaaGreatDoorRows
import Derived.Test.YtnanheiakfekdaaGreatDoorChecked
import Derived.Lib.LaidTab
import Derived.Stop.LaidErr
import Derived.Lay
import Derived.SevenTiedAt
import Derived.Test.YtnanheiakfekdaaGreatDoorU6
set_option maxHeartbeats 4000000
set_option linter.unusedVariables false
set_option linter.unusedSimpArgs false
namespace Go.W
open Go Go.Proofs
open AK (enc)
set_option maxRecDepth 10000
variable {B i k n:Nat} {D:Nat -> Prop} {P:Program} {g:An} {w w' w1 w2:World}
theorem La{a b:Int}(c:0<=a/\a<=2147483647)(hb:0<=b/\b<=2147483647):BW [a,b]=AL a.toNat++AL b.toNat:=by simp[BW,c,hb]
theorem Kf{n:Int}(h:0<=n/\n<=2147483647):(AL n.toNat).length<=5:=LH (by omega)
theorem zFl{x:Ay}{d:Bt}(V:MV w x d)(hl:d.q.words.length<=1000000)(hs:∀s∈d.q.words,s.size<=1000000):
  Sp PP 105 #[agg x] w λv w'=>((Eo d/\v=.tuple #[Ag (Fy d),.int .i64 0])\/(¬Eo d/\v=.tuple #[Ag [],.int .i64 1]))/\AC w w':=by
 have k1:=V.id;have k2:=V.kind;have Q:=V.q;have H:=Q.frm;have a0:=Q.to;have a1:=Q.ws.len;have a2:=Q.rad;have a3:=Q.most;refine eN ?_;refine BM λb1 w1 n1 I=>rG I x (AA (eP (V.up (w':=w1)) hl hs) ?_);rintro _ w2 ⟨⟨rfl,hd⟩|⟨rfl,hd⟩,e2⟩
 case' inr=>exact⟨.inr ⟨hd,rfl⟩,stp⟩
 have J:=hd.2.1;have o:d.kind≠4->d.q.kind=d.kind:=λh=>(hd.1.resolve_left h).1;have hy:d.kind≠4->CD d.q 200:=λh=>(hd.1.resolve_left h).2
 have a8:d.kind=1\/d.kind=2\/d.kind=3\/d.kind=4:=by
  by_cases h:d.kind=4
  ·omega
  ·have:=o h;have:=(hy h).1;omega
 have a9:=Kf (n:=d.kind) (by omega);have b0:=Kf J;have b3:=n1.lo (u:=w);refine Ap λbb Y n3 B3=>?_;have a4:=n3.lo (u:=w);have L0:Fc w.heap.size bb [] Y:=dI a4 B3;clear B3;refine rG I x.q (Ap λb2 w4 n4 z4=>?_);have b4:=n4.lo (u:=w);have a7:=n4.lo (u:=Y);have lb:=L0.lt;refine rE z4 x.q λp B5 f5 _=>?_;have B5:Bk p b2 (enc x.q) 101:=B5;have g5:Fr (λi=>i=b2) Y p:=Fr.trans (fE Y w4) f5
 have L5:Fc w.heap.size bb [] p:=L0.fr g5 λi c t z hi ht hd=>by
  subst hd;have:=(Array.getElem?_eq_some_iff.1 hi).1;omega
 have s5:AC w p:=⟨Fr.st (lE w w4) f5 λi hi=>by omega⟩;have E:Bk p b1 (enc x) 103:=(I.mv (w:=w4)).fr f5 (by have:=I.lt;have:=n4.lo (u:=w1);omega);have z5:=s5.e.size;have zw:∀{u:World},GJ w.heap.size bb p u->AC w u:=λf=>⟨Cm.st s5.e f (Qe _) λi hi=>by omega⟩;have K:∀{u:World},GJ w.heap.size bb p u->Bk u b1 (enc x) 103:=λf=>E.keptX f (by have:=I.lt;have:=n3.lo (u:=w1);omega) (by decide);have j:∀{u:World},GJ w.heap.size bb p u->Bk u b2 (enc x.q) 101:=λf=>B5.keptX f (by omega) (by decide);refine Cx (B:=E) (v:=.int .i64 d.id) (by rw[<-k1];rfl) (Cx (B:=E) (v:=.int .i64 d.kind) (by rw[<-k2];rfl) ?_);refine LE (α:=Int) [d.id,d.kind] rfl (vs:=[.int .i64 d.id,.int .i64 d.kind]) rfl rfl (by decide) λb6 w6 n6 S6=>?_;have M:GJ w.heap.size bb p w6:=Cm.ext n6.ext;have z6:=M.size;refine AA (Uy (L5.fr n6.ext λ_ _ _ _ _ _ h=>h) (Bh.of_new S6 n6) (by omega) (by simp) (by simp)) ?_;rintro _ w7 ⟨rfl,Z,f7⟩;rw[Je,La J (by omega)]at Z;have b:=M.trans f7;have z7:=b.size
 have fin:∀{u:World} {l:U8},l=Fy d->Fc w.heap.size bb l u->GJ w.heap.size bb p u->Sp PP 16 #[.pointer (some ⟨bb,0,none⟩)] u λv w'=>v=Ag (Fy d)/\AC w w':=λ{u l} e L f=>by
  have zu:=f.size;refine(XT L (by omega)).mono ?_;rintro _ u2 ⟨rfl,_,f2⟩;exact⟨by rw[e],zw (f.trans f2)⟩
 refine Cx (B:=K b) (v:=.int .i64 d.kind) (by rw[<-k2];rfl) (ite (λh3=>?_) (λh3=>?_))
 ·have N:=hy (by omega);have a5:=N.2.1;have o:=o (by omega);have b5:=N.2.2.1 (by omega);refine Cx (B:=j b) (v:=.int .i64 d.q.frm) (by rw[<-H];rfl) (Cx (B:=j b) (v:=.int .i64 d.q.to) (by rw[<-a0];rfl) ?_);refine LE (α:=Int) [d.q.frm,d.q.to] rfl (vs:=[.int .i64 d.q.frm,.int .i64 d.q.to]) rfl rfl (by decide) λb8 w8 r O=>?_;have y:=b.trans (Cm.ext r.ext);have z8:=y.size;refine AA (Uy (Z.fr r.ext λ_ _ _ _ _ _ h=>h) (Bh.of_new O r) (by omega) (by simp) (by simp only[Qb];omega)) ?_;rintro _ w9 ⟨rfl,C,R⟩;rw[La (by omega) (by omega)]at C;refine AA (fin (l:=AL d.id.toNat++AL d.kind.toNat++(AL d.q.frm.toNat++AL d.q.to.toNat)) ?_ C (y.trans R)) ?_
  ·unfold Fy MQ;rw[if_neg (by omega),if_neg (by omega),Qp]
  rintro _ S ⟨rfl,A⟩;exact⟨.inl ⟨hd,rfl⟩,A⟩
 refine Cx (B:=K b) (v:=.int .i64 d.kind) (by rw[<-k2];rfl) (ite (λh4=>?_) (λh4=>?_))
 case' refine_2 =>
  have a6:d.kind=4:=by omega
  refine AA (fin (l:=AL d.id.toNat++AL d.kind.toNat) ?_ Z b) ?_
  ·unfold Fy MQ;rw[if_pos a6,QE]
  rintro _ S ⟨rfl,A⟩;exact⟨.inl ⟨hd,rfl⟩,A⟩
 have N:=hy (by omega);have o:=o (by omega);have a5:=N.2.1;have T:=N.2.2.2 (by omega);have l3:=Kf (n:=d.q.frm) (by omega);have l4:=Kf (n:=(x.q.words.n:Int)) (by omega)
 have U:∀k,((d.q.words.take k).flatMap DZ).length<=8*17:=λk=>by
  have h:=aQ (f:=DZ) (m:=17) (l:=d.q.words.take k) λs hs=>by
   have h1:=(T.2.2.2 s (Vu hs)).2.2;have b7:s.data.toList.length=s.size:=Vc;have:=LH (n:=s.size) (by omega);unfold DZ;rw[Qb];omega
  have h8:(d.q.words.take k).length*17<=8*17:=Ji _ (by rw[Qm];omega);omega
 refine Cx (B:=j b) (v:=.int .i64 d.q.frm) (by rw[<-H];rfl) (Cx (B:=j b) (v:=.slice x.q.words.a x.q.words.n x.q.words.c) rfl ?_);refine LE (α:=Int) [d.q.frm,(x.q.words.n:Int)] rfl (vs:=[.int .i64 d.q.frm,.int .i64 (x.q.words.n:Int)]) rfl rfl (by decide) λb8 w8 r O=>?_;have y:=b.trans (Cm.ext r.ext);have z8:=y.size;refine AA (Uy (Z.fr r.ext λ_ _ _ _ _ _ h=>h) (Bh.of_new O r) (by omega) (by simp) (by simp only[Qb];omega)) ?_;rintro _ w9 ⟨rfl,C,R⟩;rw[La (by omega) (by omega)]at C;have W:=y.trans R;have⟨Q0,hQ⟩:∃Q0,Q0=AL d.id.toNat++AL d.kind.toNat++(AL d.q.frm.toNat++AL ((x.q.words.n:Int)).toNat):=⟨_,rfl⟩;rw[<-hQ]at C;have c0:Q0.length<=20:=by rw[hQ];simp only[Qb];omega
 refine Cx (B:=j W) (v:=.slice x.q.words.a x.q.words.n x.q.words.c) rfl (cN 46 [7,8,9] 45 d.q.words.length (λk u=>Fc w.heap.size bb (Q0++(d.q.words.take k).flatMap DZ) u/\GJ w.heap.size bb p u) ?_ ?_)
 ·exact⟨by simpa using C,W⟩
 rintro k G u hk ⟨L,f⟩;have zu:=f.size;have su:=zw f;have c1:=U k;refine ite (λAY=>?_) (λc2=>?_)
 ·have F:k<d.q.words.length:=by omega
  have c3:=(T.2.2.2 _ (Qa F)).2.2;have c4:=wA (s:=d.q.words[k]) (by omega);refine Bv (Q.ws.up (w':=u)) (i:=k) (x:=d.q.words[k]) (by simp) λb9 o9 A9=>AF (A9.cell0 rfl) (AA (wN (s:=d.q.words[k]) (by omega)) ?_);rintro _ u1 ⟨rfl,e1⟩;have z1:=e1.e.size;refine AA (Uj (L.up (w':=u1)) (by omega) (by simp only[Qb];omega)) ?_;rintro _ u2 ⟨rfl,L2,f2⟩;refine rA ⟨rfl,F,?_,(f.trans (Cm.ext e1.e)).trans f2⟩;rw[Cs F,Jl,<-Qp];simpa using L2
 ·have q_:k=d.q.words.length:=by omega
  obtain rfl:=q_;rw[Qg]at L;refine Cx (B:=j f) (v:=.int .i64 d.q.rad) (by rw[<-a2];rfl) (Cx (B:=j f) (v:=.int .i64 d.q.most) (by rw[<-a3];rfl) ?_);refine LE (α:=Int) [d.q.rad,d.q.most] rfl (vs:=[.int .i64 d.q.rad,.int .i64 d.q.most]) rfl rfl (by decide) λb8 u8 r O=>?_;have f8:=f.trans (Cm.ext r.ext);have z8:=f8.size;have X:=U d.q.words.length;rw[Qg]at X;refine AA (Uy (L.fr r.ext λ_ _ _ _ _ _ h=>h) (Bh.of_new O r) (by omega) (by simp) (by simp only[Qb];omega)) ?_;rintro _ u9 ⟨rfl,C,R⟩;rw[La (by omega) (by omega)]at C;refine AA (fin ?_ C (f8.trans R)) ?_
  ·rw[hQ];unfold Fy MQ Lw;rw[if_neg (by omega),if_pos (by omega),a1];simp only[Qp,QW]
  rintro _ S ⟨rfl,A⟩;exact⟨.inl ⟨hd,rfl⟩,A⟩
open Go Go.Proofs Go.RowKit
theorem qQ{l:List AG}(h:∀y∈l,Ey y)(z:l.length<=100){p:Int×Int×Gk}(s:p.2.2.hits=l)(u:BG (BN p.1 p.2.1 p.2.2) p.2.2.hits):(Da p).length<=10000:=by
 obtain⟨⟨b,c⟩,⟨e,f⟩,⟨j,o⟩,_⟩:=u;have b:0<=p.1:=b;have c:p.1<=2147483647:=c;have e:0<=p.2.1:=e;have f:p.2.1<=1000:=f;have j:0<=p.2.2.num:=j;have o:p.2.2.num<=400:=o;have A:=Mj (n:=p.1) (by omega);have C:=Mj (n:=p.2.1) (by omega);have E:=Mj (n:=p.2.2.num) (by omega);unfold Da;split
 ·simp only[Qb,QA,QZ];omega
 ·have:=Wo (sep:=[32]) (m:=43) (l:=[Lib.itoa p.1,if p.2.2.found then[121,101,115] else[110,111],Lib.itoa p.2.2.num]++p.2.2.hits.map HQ) λt a=>by
   have q:=Qf.1 a;rcases q with a|a
   ·simp only[Ql,Xf,or_false]at a;rcases a with rfl|rfl|rfl
    ·omega
    ·split<;>simp
    ·omega
   ·have q:=Qq.1 a;obtain⟨y,x,rfl⟩:=q;have q:=h y (s ▸ x);obtain⟨F,G,H,I⟩:=q;have J:=Mj (n:=y.v) (by omega);have K:=Mj (n:=y.d) (by omega);unfold HQ;simp only[Qb,QA,QZ];omega
  have r:([Lib.itoa p.1,if p.2.2.found then[121,101,115] else[110,111],Lib.itoa p.2.2.num]++p.2.2.hits.map HQ).length=3+l.length:=by
   rw[Qb,Qr,s];rfl
  rw[r,VC]at this;omega
theorem mT{l:List Int}(a:∀x∈l,-9223372036854775808<=x/\x<=9223372036854775807):(EA l).length<=l.length*22+1:=by
 unfold EA EO;split
 ·simp
 ·have:=Wo (sep:=[32]) (m:=21) (l:=l.map Lib.itoa) λt b=>by
   have c:=Qq.1 b;obtain⟨x,d,rfl⟩:=c;exact Mj (a x d)
  rw[Qr,VC]at this;omega
theorem KC:Is.length<=100000000:=by show 2<=_;omega
structure LO (D:Nat->Prop) (B bd:Nat) (d:DF) (w:World) (R:Nat->Prop) (ev:SV) (gw cw:Nat) (X:List SV) (sp:OA):Prop where
 reg:∀i,D i->B<=i/\i<w.heap.size
 bdD:D bd
 blk:Bk w bd [.int .i64 (d.g.n:Int),ev.v,.slice (some ⟨gw,0,none⟩) d.g.n cw,.pointer sp] 38
 es:AD B 74 w ev.v d.g.es
 esD:∀b,Value.blk ev.v=some b->D b
 ws:DH 28 9 B gw d.g.n cw X (λv=>d.g.ws.getD v []) w
 gwD:D gw
 wsD:∀(v:Nat) (z:SV) b,X[v]? = some z->Value.blk z.v=some b->D b
 chk:DK d.g
 RD:∀i,R i->D i
 Rbd:¬R bd
 Res:∀b,Value.blk ev.v=some b->¬R b
 Rgw:¬R gw
 Rws:∀(v:Nat) (z:SV) b,X[v]? = some z->Value.blk z.v=some b->¬R b
 srv:match d.s with
  |none=>sp=none/\∀i,¬R i
  |some (g,c,s)=>∃bs B',sp=some ⟨bs,0,none⟩/\B'<=w.heap.size/\BB R B' w bs g c s
def EF (D:Nat->Prop) (B bd:Nat) (d:DF) (w:World):Prop:=∃R ev gw cw X sp,LO D B bd d w R ev gw cw X sp
section
variable {D:Nat->Prop} {B bd:Nat} {d:DF} {w w':World} {R:Nat->Prop} {ev:SV} {gw cw:Nat} {X:List SV} {sp:OA}
abbrev PA (n:Nat) (ev:SV) (gw cw:Nat):FY:=⟨(n:Int),ev,⟨some ⟨gw,0,none⟩,n,cw⟩⟩
theorem LO.gr(I:LO D B bd d w R ev gw cw X sp):Kt w (PA d.g.n ev gw cw) d.g X:=by
 have a:=I.chk;have f:=a.n2;have h:=a.nw;have j:=I.ws.len;refine⟨rfl,I.es.sl,I.ws.row.sl,⟨by omega,λi m c=>?_⟩,⟨by have:=a.ne;omega,by omega,λl b=>by have:=(a.word l b).1;omega⟩,λl b s e=>by have:=((a.word l b).2 s e).2.2;omega⟩;have:=(I.ws.own i X[i] (by simp)).sl;rw[Qk,Qd c]at this;exact this
theorem LO.ext(I:LO D B bd d w R ev gw cw X sp)(e:Fr (λ_=>False) w w'):LO (gR D w w') B bd d w' R ev gw cw X sp:=by
 have z:=e.size;have L:Le w w':=⟨e⟩;refine⟨λi hi=>?_,.inl I.bdD,I.blk.mv,I.es.up,λb hb=>.inl (I.esD b hb),I.ws.up,.inl I.gwD,λv z b h hb=>.inl (I.wsD v z b h hb),I.chk,λi hi=>.inl (I.RD i hi),I.Rbd,I.Res,I.Rgw,I.Rws,?_⟩
 ·rcases hi with hi|hi
  ·have:=I.reg i hi;omega
  ·have:=I.reg bd I.bdD;omega
 ·have h:=I.srv
  cases a:d.s with
  |none=>rw[a]at h;exact h
  |some p =>
   obtain⟨g,c,s⟩:=p;rw[a]at h;obtain⟨bs,B',f,l,j⟩:=h;exact⟨bs,B',f,by omega,j.up⟩
theorem EF.ext(P:EF D B bd d w)(e:Fr (λ_=>False) w w'):EF (gR D w w') B bd d w':=by
 obtain⟨R,ev,gw,cw,X,sp,I⟩:=P;exact⟨R,ev,gw,cw,X,sp,I.ext e⟩
def GG (D:Nat->Prop) (B bd:Nat) (w:World) (r:Except Int (Tx×DF)) (v:Value) (w':World):Prop:=∃t d',r=.ok (t,d')/\t.length<=100000000/\v=Ag t/\EF (gR D w w') B bd d' w'/\Fr D w w'
def FW (D:Nat->Prop) (B bd:Nat) (w:World) (d:DF) (r:Except Int (Tx×DF)) (c:List PanicEntry) (w':World):Prop:=∃e,r=.error e/\c=NF e/\EF (gR D w w') B bd d w'/\Fr D w w'
theorem LO.rows(I:LO D B bd d w R ev gw cw X sp):Sp PP 47 #[.pointer (some ⟨bd,0,none⟩)] w λv w'=>(∃x r,v=agg (x:CP)/\IF w' x (CI d.g) r)/\AC w w':=by
 have V:=I.gr;refine eN ?_;refine Ap λp w2 n2 h=>?_;have q:=n2.lo (u:=w);refine rG I.blk (PA d.g.n ev gw cw) (AA (cY (V.up (w':=w2))) ?_);rintro _ z (⟨A,⟨x,vs,rfl,Vn,_,s⟩,C⟩|⟨c,_⟩)
 case' inr=>exact absurd I.chk c
 refine AA fI ?_;rintro _ j ⟨rfl,E⟩;refine AA (tP (Vn.up (w':=j)) (eB I.chk)) ?_;rintro _ t ⟨⟨y,r,rfl,a⟩,F⟩;refine AA zNQ ?_;rintro _ e ⟨rfl,G⟩;refine rE h y λm f o _=>?_;have f:Bk m p (enc y) 82:=f;refine AR (B:=f) rfl ?_;have b:∀{v:Value} {l:List Int},AD j.heap.size 3 t v l->AQ m v l:=λO=>((O.up (w':=e)).frc o (h.mv (w:=e))).sl;exact⟨⟨y,r,rfl,⟨a.rev',b a.off,b a.to,b a.rof,b a.rev⟩⟩,⟨Fr.st (lE w e) o λi hi=>by omega⟩⟩
theorem zKr{x:CP}{r:List BP}{f t:Nat}{w:World}(m:Bb g)(o:IF w x g r)(h:g.n<=f\/g.n<=t)(C:f<=1000000)(E:t<=1000000):
  Sp PP 79 #[agg x,.int .i64 (f:Int),.int .i64 (t:Int)] w λv w'=>(∃cs,v=.tuple #[.agg cs,.int .i64 1]/\cs=#[.pointer none,.pointer none])/\AC w w':=by
 have F:=o.off.len;have G:=Mk g.n g.es;have H:=m.ok.n2;refine eN ?_;refine BM λs w1 n1 c=>?_;have c:Bk w1 s (enc x) 82:=c;refine Ap λp w2 n2 q=>?_;have y:=n2.lo (u:=w);refine rX c rfl (rI (g.n:Int) (rG c x (AA (Tv m (o.up (w':=w2))) ?_)));rintro _ e ⟨rfl,I⟩;refine iF (by omega) ?_;have fin:∀{u:World},u=e->True:=λ_=>trivial;refine ite (λz=>?_) (λz=>?_)
 ·refine AJ (cs:=[.pointer none,.pointer none]) rfl (rS q [.pointer none,.pointer none] (by intro u b;simp at b;subst b;rfl) λj a l _=>?_);have a:Bk j p [.pointer none,.pointer none] 126:=a;refine AR (B:=a) rfl ?_;exact⟨⟨_,rfl,rfl⟩,⟨Fr.st (lE w e) l λi hi=>by omega⟩⟩
 ·refine iF (by omega) (ite (λA=>?_) (λA=>absurd h (by omega)));refine AJ (cs:=[.pointer none,.pointer none]) rfl (rS q [.pointer none,.pointer none] (by intro u b;simp at b;subst b;rfl) λj a l _=>?_);have a:Bk j p [.pointer none,.pointer none] 126:=a;refine AR (B:=a) rfl ?_;exact⟨⟨_,rfl,rfl⟩,⟨Fr.st (lE w e) l λi hi=>by omega⟩⟩
theorem zKp{x:CP}{r:List BP}{f t:Nat}{w:World}(c:Bb g)(e:IF w x g r)(h:g.n<=f\/g.n<=t)(j:f<=1000000)(l:t<=1000000):
  Sp PP 46 #[agg x,.int .i64 (f:Int),.int .i64 (t:Int)] w λv w'=>v=.tuple #[.slice none 0 0,.bool false,.int .i64 1]/\AC w w':=by
 refine eN ?_;refine BM λbo w1 n1 a=>?_;have a:Bk w1 bo (enc x) 82:=a;refine Cq (B:=a) rfl rfl ?_;refine AA (zKr c (e.up (w':=w1)) h j l) ?_;rintro _ w2 ⟨⟨cs,rfl,rfl⟩,s⟩;refine Ap λy m n3 o=>?_;have p:=n3.lo (u:=w);refine rS o [.pointer none,.pointer none] (by intro u b;simp at b;subst b;rfl) λz A q _=>iT (by decide) ?_;exact⟨rfl,⟨Fr.st (lE w m) q λi hi=>by omega⟩⟩
theorem fC{nb:Nat->List Nat}{a:List Int}:∀{k u x:Nat},x∈Hb nb a k u->∃y,x∈nb y
 |0,_,_,h=>(by cases h)
 |k+1,u,x,h=>by
  unfold Hb at h;split at h
  ·rename_i w b;have c:=Ql.1 h;rcases c with h|h
   ·exact⟨u,by rw[h];exact List.mem_of_find?_eq_some b⟩
   ·exact fC h
  ·exact fC h
theorem vN(c:NU g){f t:Nat}(j:f<g.n):∀x∈DC g f t,x<g.n:=λx a=>by
 unfold DC at a;split at a
 ·cases a
 ·have b:=Ql.1 a;rcases b with h|h
  ·omega
  ·have b:=fC h;obtain⟨y,e⟩:=b;exact IX c e
theorem HV(P:EF D B bd d w)(e:AC w w'):EF (gR D w w') B bd d w'/\Fr D w w':=⟨P.ext e.e,Fr.fr e.e⟩
theorem zKk(P:EF D B bd d w)(G:HY w){a c:Nat}{H:OA}{J:Nat}{ta:OA}{N tc:Nat}{s:List Tx}(S:AQ w (.slice H 2 J) [(a:Int),(c:Int)])(O:a<=1000000)(Q:c<=1000000):
  El PP 22 #[.pointer (some ⟨bd,0,none⟩),.slice H 2 J,.slice ta N tc] w (GG D B bd w (EW d .path [(a:Int),(c:Int)] s)) (FW D B bd w d (EW d .path [(a:Int),(c:Int)] s)):=by
 have K:=P;obtain⟨R,ev,gw,cw,X,sp,I⟩:=P;have v:=I.chk;have j:(CI d.g).n=d.g.n:=rfl;have m:=eB I.chk;have h2:=v.n2;refine HB Aa rfl ?_;refine dD (λ_=>False) [0,2,3,4,5,6,7,1,8,9,10,11,12,13,14,15] λL T=>CL (i:=0) (x:=(a:Int)) (S.up (w':=L)) rfl λb2 o2 U _=>AP (U.cell0 rfl) nf (CL (i:=1) (x:=(c:Int)) (S.up (w':=L)) rfl λb3 o3 V _=>AP (V.cell0 rfl) nf ?_);have W:=I.ext T.e;refine AA W.rows ?_;rintro _ u2 ⟨⟨x,r,rfl,M⟩,Y⟩;refine⟨Y.e,?_⟩;by_cases Z:d.g.n<=a\/d.g.n<=c
 ·refine AA (zKp m M (by rw[j];exact Z) O Q) ?_;rintro _ u3 ⟨rfl,A⟩;refine⟨A.e,?_⟩;have hd:EW d .path [(a:Int),(c:Int)] s=.error 1:=if_pos (by show(d.g.n:Int)<=(a:Int)\/(d.g.n:Int)<=(c:Int);omega);refine AO Tl ?_ ?_
  ·rintro _ _ ⟨h,_⟩;exact absurd h (by decide)
  ·rintro _ u ⟨_,rfl,rfl⟩;have p:=HV K (w':=u) stp;exact⟨1,hd,rfl,p.1,p.2⟩
 ·have hd:EW d .path [(a:Int),(c:Int)] s=.ok (EA (AH (DC (CI d.g) a c)),d):=if_neg (by show ¬((d.g.n:Int)<=(a:Int)\/(d.g.n:Int)<=(c:Int));omega);refine AA (zJJ m M (by rw[j];omega) (by rw[j];omega)) ?_;rintro _ u3 ⟨⟨pa,pc,b,rfl,SP,a0⟩,A⟩;refine⟨A.e,?_⟩;refine AO Tl ?_ ?_
  ·rintro _ u ⟨_,rfl⟩;refine AA (mW (G.up (w':=u)) SP (λy C=>?_) (by rw[PQ];omega)) ?_
   ·have E:=Qq.1 C;obtain⟨z,F,rfl⟩:=E;have o:=vN m.ok (f:=a) (t:=c) (by rw[j];omega) z F;rw[j]at o;omega
   ·rintro _ u4 ⟨rfl,e4⟩;have p:=HV K (w':=u4) stp
    have q:=mT (l:=AH (DC (CI d.g) a c)) (λy C=>by
     have E:=Qq.1 C;obtain⟨z,F,rfl⟩:=E;have o:=vN m.ok (f:=a) (t:=c) (by rw[j];omega) z F;rw[j]at o;omega)
    rw[PQ]at q;exact⟨_,_,hd,by omega,rfl,p.1,p.2⟩
  ·rintro _ u ⟨h,_⟩;exact absurd rfl h
theorem zPE{L:Rv}(m:n<=200)(a:∀s v,v<n->(L s v).length<=1000):GX n L<=400000:=by
 have h:∀s,((List.range n).map λv=>(L s v).length).sum<=200000:=λs=>by
  have b:=Rx (l:=(List.range n).map λv=>(L s v).length) (c:=1000) λx e=>by
   have f:=Qq.1 e;obtain⟨v,j,rfl⟩:=f;exact a s v (Q0.1 j)
  rw[Qr,Vm]at b;omega
 have:=h true;have:=h false;unfold GX;omega
theorem zKi(P:EF D B bd d w)(G:HY w){m ta:Value}{l:List Int}{c:List Tx}:
  El PP 23 #[.pointer (some ⟨bd,0,none⟩),m,ta] w (GG D B bd w (EW d .hubs l c)) (FW D B bd w d (EW d .hubs l c)):=by
 have o:=P;obtain⟨R,ev,gw,cw,X,sp,I⟩:=P;have e:=eB I.chk;have a:(CI d.g).n=d.g.n:=rfl;have C:=I.chk.n2;refine HB Aa rfl ?_;refine AA I.rows ?_;rintro _ E ⟨⟨x,r,rfl,p⟩,F⟩;refine AA (zHQ e p) ?_;rintro _ H ⟨⟨J,bl,K,L,N,q,rfl,M,f,t⟩,O⟩;refine AA zNO ?_;rintro _ u ⟨rfl,Q⟩
 have b:∀s v,v<(CI d.g).n->(L s v).length<=1000:=λs v _=>by
  have:=t.hb (by rw[a];omega) v;cases s
  ·exact this.2.1
  ·exact this.1.1
 refine AA (zJ (M.up (w':=u)) (by rw[a];omega) b) ?_;rintro _ y ⟨rfl,S⟩;have z:=zPE (by rw[a];omega) b;refine AA (TD (G.up (w':=y)) (n:=(GX (CI d.g).n L:Nat)) (by omega)) ?_;rintro _ A ⟨rfl,T⟩;have h:=HV o (w':=A) stp;have hd:EW d .hubs l c=.ok (Lib.itoa (GX (CI d.g).n L:Nat),d):=by rw[q];rfl
 have j:=Mj (n:=(GX (CI d.g).n L:Nat)) (by omega);exact⟨_,_,hd,by omega,rfl,h.1,h.2⟩
end
open Go
section
variable {α:Type} [AK α] {P:Program} {k:KW} {pn:PW} {w:World}
theorem zPV{t ty e:TypeId}{z:Value}{sz r:Nat}(J:DQ P t e)(W:AX P e z sz r)(K:AK.sz α=sz){v x:Value}{l m:List α}
  (H:AD B e w v l)(X:AQ w x m)(s:m≠[])(hb:(l.length+m.length)*r<=140737488355328)(S:l.length+m.length<=maxLen){q:Value}(h:(Builtin.append_ #[t,t] ty #[v,x]).run P w=.ok q w'):
  (∃a c,v=.slice a l.length c/\q=.slice a (l.length+m.length) c)\/(Value.blk q=some w.heap.size/\Bp w w'):=by
 have L:=info_parts W.h;obtain⟨i,hi,T,y,A⟩:=L;subst K;obtain⟨xa,C,rfl,Y,M⟩:=X;rcases M with M|⟨b,o,rfl,N⟩
 ·exact absurd M s
 have d:∀j u,(Ac m)[j]? = some u->w.cell? ((⟨b,o,none⟩:Addr).add j)=some u:=λj u O=>by rw[Oj];exact N j u O
 have I:(Ac m).length=m.length*AK.sz α:=KZ m;have U:0<m.length:=JI.2 s;have Z:m.length<=maxLen:=by omega
 have V:Bp w w.drew:=⟨rfl,rfl,rfl,Qe _,λ_ _ _=>rfl,λ_ _ h _=>h⟩
 have nil:(Builtin.append_ #[t,t] ty #[.slice none 0 0,.slice (some ⟨b,o,none⟩) m.length C]).run P w=.ok q w'->l.length=0->Value.blk q=some w.heap.size/\Bp w w':=λh h0=>by
  have E:=run_append_nil (P:=P) w t ty e i z J.h hi T ⟨b,o,none⟩ m.length C (Ac m) (by rw[I,y]) d (by omega) (by simp only[maxLen]at S;omega) (by rw[A];have hb:=hb;rw[h0,JO]at hb;omega);rw[E]at h;cases h;exact⟨rfl,V.t (Bp.alloc w.drew _)⟩
 have p:∀(a:Addr) (n cap:Nat) (xs:List Value),xs.length=n*i.size->(∀j u,xs[j]? = some u->w.cell? (a.add j)=some u)->cap<n+m.length->n=l.length ->
   (Builtin.append_ #[t,t] ty #[.slice (some a) n cap,.slice (some ⟨b,o,none⟩) m.length C]).run P w=.ok q w'->Value.blk q=some w.heap.size/\Bp w w':=λa n cap xs h1 h2 h3 h4 h=>by
  subst h4
  have E:=run_append_grow (P:=P) w t ty e i z J.h hi T a l.length cap xs h1 h2 ⟨b,o,none⟩ m.length C (Ac m) (by rw[I,y]) d (by omega) (by simp only[maxLen]at S;omega)
   (by rw[A];exact growslice_fits (by omega) hb)
  rw[E]at h;cases h;exact⟨rfl,V.t (Bp.alloc w.drew _)⟩
 rcases H with⟨rfl,a,rfl⟩|H
 ·cases a with
  |none=>exact .inr (nil h rfl)
  |some a=>exact .inr (p a 0 0 [] (by simp) (by simp) (by omega) rfl h)
 ·have L:=H.2;rcases L with⟨rfl,hn⟩|⟨g,cap,F,rfl,a0,hg,a1,a2,Q,R⟩
  ·exact .inr (nil h hn)
  ·by_cases f:l.length+m.length<=cap
   ·left;have G:l.length*i.size+(Ac m).length<=F.size:=by rw[I,Q,y,<-Jo];exact Ji _ f
    have E:=run_append_room (P:=P) w t ty e i J.h hi g l.length cap F hg ⟨b,o,none⟩ m.length C (Ac m) (by rw[I,y]) d (UY m) f G;rw[E]at h;cases h;exact⟨_,_,rfl,rfl⟩
   ·exact .inr (p ⟨g,0,none⟩ l.length cap (Ac l) (by rw[KZ,y]) (λj u O=>(H.cells (g:=g) rfl) j u O) (by omega) rfl h)
theorem Tz{t ty e:TypeId}{z:Value}{sz d:Nat}[q:DQ P t e][r:AX P e z sz d]{v x:Value}{l m:List α}(b:AK.sz α=sz/\z.cells.size=sz)
  (o:AD B e w v l)(s:AQ w x m)(f:m≠[])(E:B<=w.heap.size)(hb:(l.length+m.length)*d<=140737488355328/\l.length+m.length<=9223372036854775807)
  (u:∀j w',AD B e w' j (l++m)->AD B e w' v l->Fr (AV B v) w w'->(Value.blk j=Value.blk v\/(Value.blk j=some w.heap.size/\Bp w w'))->k j w'):AI P (Builtin.append_ #[t,t] ty #[v,x]) k pn w:=by
 obtain⟨j,w',y,p,A⟩:=Yf (ty:=ty) q r b.1 b.2 o s hb.1 (by unfold maxLen;omega) E;refine AI.of y ?_;have F:=zPV q r b.1 o s f hb.1 (by unfold maxLen;omega) y;rcases F with⟨a,c,rfl,rfl⟩|⟨G,h5⟩
 ·have C:=(p.cut (m:=l.length) (by omega) (by simp[f])).1;rw[V6]at C;exact u _ _ p C A (.inl (by cases a<;>rfl))
 ·exact u _ _ p (o.fr h5 λ_ _ _ h=>h) A (.inr ⟨G,h5⟩)
end
theorem Bh.neB{α:Type}[AK α]{e d:TypeId}{v:Value}{l:List α}{b f:Nat}{cs:List Value}(h:Bh e w v l)(j:l≠[])(hb:Value.blk v=some b)(K:Bk w f cs d)(c:e≠d):b≠f:=by
 have m:=h.2;rcases m with h|⟨s,o,z,a,p⟩
 ·exact absurd h j
 ·rw[hb]at a;have q:=QL a;subst q;intro r;subst r;have:=K.h;rw[p]at this;injection this with this;injection this with _ h3;exact c h3
section
variable {D:Nat->Prop} {B bd:Nat} {d:DF} {w w':World} {R:Nat->Prop} {ev:SV} {gw cw:Nat} {X:List SV} {sp:OA}
theorem LO.srvR(I:LO D B bd d w R ev gw cw X sp){Z:Nat->Prop}(f:Fr Z w w')(hE:∀i,Z i->¬R i):match d.s with
  |none=>sp=none/\∀i,¬R i
  |some (g,c,s)=>∃bs B',sp=some ⟨bs,0,none⟩/\B'<=w'.heap.size/\BB R B' w' bs g c s:=by
 have h:=I.srv
 cases a:d.s with
 |none=>rw[a]at h;exact h
 |some p =>
  obtain⟨g,c,s⟩:=p;rw[a]at h;obtain⟨bs,B',b,j,e⟩:=h;have:=f.size;exact⟨bs,B',b,by omega,e.away f hE⟩
theorem nX{w0:World}(f:EF D B bd d w0)(e:AC w0 w){r:Except Int (Tx×DF)}{n:Int}(h:r=.error n)(j:n≠0):El PP 42 #[.int .i64 n] w (λ_ _=>False) (FW D B bd w0 d r):=by
 refine⟨(Tl (e:=n) (w:=w)).can,(Tl (e:=n) (w:=w)).calls.mono ?_⟩;intro en w' a
 cases en with
 |returned v=>exact absurd a.1 j
 |panicked c =>
  obtain⟨_,rfl,rfl⟩:=a;have b:=HV f (w':=w') e;exact⟨n,h,rfl,b.1,b.2⟩
 |outgrown=>exact a
theorem P5{a v:Nat}{z:SV}(h:(List.replicate a (⟨none,0,0⟩:SV))[v]? = some z):z=⟨none,0,0⟩:=by simp_all[Vk,QL]
theorem zJH(P:EF D B bd d w){a:Nat}{q:OA}{r:Nat}{ta:Value}{o:List Tx}(S:Bh 3 w (.slice q 1 r) [(a:Int)])(ha:a<=1000000):
  El PP 19 #[.pointer (some ⟨bd,0,none⟩),.slice q 1 r,ta] w (GG D B bd w (EW d .graph [(a:Int)] o)) (FW D B bd w d (EW d .graph [(a:Int)] o)):=by
 have L:=P;obtain⟨R,ev,gw,cw,X,sp,I⟩:=P;have M:=I.reg bd I.bdD;refine HB Aa rfl ?_;have no:(a:Int)<1\/200<(a:Int)->El PP 42 #[.int .i64 1] w (λ_ _=>False) (FW D B bd w d (EW d .graph [(a:Int)] o)):=λh=>nX L stp (if_pos h) (by decide);refine Bv (i:=0) (x:=(a:Int)) S.1 rfl λN O t=>AF (t.cell0 rfl) (ite (λh=>?_) (λh=>?_))
 ·refine AO (no (.inl h)) ?_ ?_
  ·intro _ _ h;exact h.elim
  ·intro _ _ h;exact h
 refine Bv (i:=0) (x:=(a:Int)) S.1 rfl λN O t=>AF (t.cell0 rfl) (ite (λG=>?_) (λG=>?_))
 ·refine AO (no (.inr G)) ?_ ?_
  ·intro _ _ h;exact h.elim
  ·intro _ _ h;exact h
 have hd:EW d .graph [(a:Int)] o=.ok (Is,{ d with g:=⟨a,[],List.replicate a []⟩ }):=if_neg (show ¬((a:Int)<1\/200<(a:Int)) by omega);refine dD (λi=>i=bd) [1,2,3,4,5,6,0,7,8,9,10,11] λu e=>?_;have j:∀b,Value.blk (.slice q 1 r)=some b->¬b=bd:=λb hb=>S.neB (by simp) hb I.blk (by decide);refine CL (i:=0) (x:=(a:Int)) (Bh.up (w':=u) S).1 rfl λb3 o3 Q H=>AP (Q.cell0 rfl) (j _ H) (CL (i:=0) (x:=(a:Int)) (Bh.up (w':=u) S).1 rfl λb4 o4 T U=>AP (T.cell0 rfl) (j _ U) (Id (α:=SV) ⟨none,0,0⟩ rfl rfl (by omega) λc p V W Y=>⟨Fr.fr W.e,?_⟩));refine As (cs:=[.int .i64 (a:Int),.slice none 0 0,.slice (some ⟨c,0,none⟩) a a]) rfl (DI (B:=I.blk.mv (w:=p)) (vs:=[.int .i64 (a:Int),.slice none 0 0,.slice (some ⟨c,0,none⟩) a a]) rfl rfl rfl (by intro u J;simp at J;rcases J with rfl|rfl|rfl<;>rfl) λm y A z4=>⟨A.mono λi _ h=>h,?_⟩);have z3:=lz w p;have y:Bk m bd [.int .i64 (a:Int),.slice none 0 0,.slice (some ⟨c,0,none⟩) a a,.pointer sp] 38:=y;have f:Fr (λi=>i=bd) w m:=Fr.trans (fE w p) A;have C:w.heap.size<=c:=by have:=e.e.size;omega
 have K:AD B 28 m (.slice (some ⟨c,0,none⟩) a a) (List.replicate a (⟨none,0,0⟩:SV)):=(V.mono (B':=B) (by have:=e.e.size;omega)).frc A (I.blk.mv (w:=p))
 have E:c<m.heap.size:=by
  obtain⟨b,Z,_,H⟩:=K.lt (by intro h;have:=congrArg List.length h;simp at this;omega);have:=QL Z;simp only at this;omega
 refine⟨_,_,hd,KC,rfl,⟨R,⟨none,0,0⟩,c,a,List.replicate a ⟨none,0,0⟩,sp,⟨λi hi=>?_,.inl I.bdD,y,AD.nil _ _ _,(λb hb=>(by cases hb)),?_,.inr ⟨C,E⟩,λv z b h hb=>?_,?_,λi hi=>.inl (I.RD i hi),I.Rbd,(λb hb=>(by cases hb)),λF=>by have:=(I.reg _ (I.RD _ F)).2;omega,λv z b h hb=>?_,I.srvR f λi hi F=>I.Rbd (hi ▸ F)⟩⟩,f.mono λi _ hi=>hi ▸ I.bdD⟩
 ·rcases hi with hi|hi
  ·have:=I.reg i hi;have:=f.size;omega
  ·omega
 ·have hL:(λv=>(List.replicate a ([]:List ByteArray)).getD v [])=λ_=>[]:=by
   funext v;rw[Qk,Vk];split<;>rfl
  show DH 28 9 B c a a _ (λv=>(List.replicate a ([]:List ByteArray)).getD v []) m;rw[hL];exact DH.new K
 ·rw[P5 h]at hb;cases hb
 ·refine⟨by show 1<=a;omega,by show a<=200;omega,by simp,by simp,(λe he=>(by cases he)),λl hl=>?_⟩;rw[List.eq_of_mem_replicate hl];exact⟨by simp,(λs hs=>(by cases hs))⟩
 ·rw[P5 h]at hb;cases hb
theorem LO.re(I:LO D B bd d w R ev gw cw X sp){Z:Nat->Prop}{j:An}{c:SV}{a l:Nat}{u:List SV}(fz:Fr Z w w')(hE:∀i,Z i->¬R i)
  (p:Bk w' bd [.int .i64 (j.n:Int),c.v,.slice (some ⟨a,0,none⟩) j.n l,.pointer sp] 38)(x:AD B 74 w' c.v j.es)
  (e:∀b,Value.blk c.v=some b->Value.blk ev.v=some b\/(w.heap.size<=b/\b<w'.heap.size))(y:DH 28 9 B a j.n l u (λv=>j.ws.getD v []) w')
  (f:a=gw\/(w.heap.size<=a/\a<w'.heap.size))(q:∀(v:Nat) (z:SV) b,u[v]? = some z->Value.blk z.v=some b->(∃(r:Nat) (o:SV),X[r]? = some o/\Value.blk o.v=some b)\/(w.heap.size<=b/\b<w'.heap.size))(s:DK j):
  LO (gR D w w') B bd { d with g:=j } w' R c a l u sp:=by
 have F:=I.reg bd I.bdD;have z:=fz.size;have A:∀i,R i->i<w.heap.size:=λi hi=>(I.reg i (I.RD i hi)).2;refine⟨λi hi=>?_,.inl I.bdD,p,x,λb hb=>?_,y,?_,λv z b h hb=>?_,s,λi hi=>.inl (I.RD i hi),I.Rbd,λb hb=>?_,?_,λv z b h hb=>?_,I.srvR fz hE⟩
 ·rcases hi with hi|hi
  ·have:=I.reg i hi;omega
  ·omega
 ·have m:=e b hb;rcases m with h|h
  ·exact .inl (I.esD b h)
  ·exact .inr h
 ·rcases f with h|h
  ·exact .inl (h ▸ I.gwD)
  ·exact .inr h
 ·have m:=q v z b h hb;rcases m with⟨r,o,C,E⟩|h
  ·exact .inl (I.wsD r o b C E)
  ·exact .inr h
 ·have m:=e b hb;rcases m with h|h
  ·exact I.Res b h
  ·intro t;have:=A b t;omega
 ·rcases f with h|h
  ·rw[h];exact I.Rgw
  ·intro t;have:=A _ t;omega
 ·have m:=q v z b h hb;rcases m with⟨r,o,C,E⟩|h
  ·exact I.Rws r o b C E
  ·intro t;have:=A b t;omega
theorem DH.fro{α l:Type}[AK α][AK l]{a e j:TypeId}{B B' g c:Nat}{X:List SV}{L:Nat->List α}{w w':World}{m:Value}{l':List l}(M:DH a e B g n c X L w)(O:AD B' j w m l')(f:Fr (AV B' m) w w')(o:a≠j:=by decide)(p:e≠j):DH a e B g n c X L w':=
 ⟨M.row.fro O f o,M.len,λv z h=>(M.own v z h).fro O f p,λv z b h hb=>QJ (M.lt v z b h hb) f.size,M.apart⟩
theorem DH.frc{α:Type}[AK α]{a e j:TypeId}{B g c l:Nat}{cs:List Value}{X:List SV}{L:Nat->List α}{w w':World}(M:DH a e B g n c X L w)(f:Fr (λi=>i=l) w w')(k:Bk w l cs j)(m:a≠j:=by decide)(o:e≠j):DH a e B g n c X L w':=
 ⟨M.row.frc f k m,M.len,λv z h=>(M.own v z h).frc f k o,λv z b h hb=>QJ (M.lt v z b h hb) f.size,M.apart⟩
theorem Bh.notOwn{α p:Type}[AK α][AK p]{e q:TypeId}{B B':Nat}{w:World}{v r:Value}{l:List α}{l':List p}{b:Nat}(h:Bh e w v l)(s:l≠[]:=by decide)(hb:Value.blk v=some b)(O:AD B q w r l')(j:e≠q):¬AV B' r b:=by
 intro m;have o:=h.2;rcases o with h|⟨C,t,z,c,f⟩
 ·exact absurd h s
 ·rw[hb]at c;have u:=QL c;subst u;rcases O with⟨_,a,rfl⟩|O
  ·exact absurd rfl (m.2.2 a)
  ·have o:=O.2;rcases o with⟨rfl,_⟩|⟨g,cap,x,rfl,_,y,_⟩
   ·cases m.2.1
   ·have A:g=b:=QL m.2.1;subst A;rw[y]at f;injection f with f;injection f with _ h3;exact j h3.symm
theorem zKh(P:EF D B bd d w){a c:Nat}{na:OA}{nc:Nat}{ta:Value}{tx:List Tx}(S:Bh 3 w (.slice na 2 nc) [(a:Int),(c:Int)])(ha:a<=1000000)(hc:c<=1000000):
  El PP 20 #[.pointer (some ⟨bd,0,none⟩),.slice na 2 nc,ta] w (GG D B bd w (EW d .edge [(a:Int),(c:Int)] tx)) (FW D B bd w d (EW d .edge [(a:Int),(c:Int)] tx)):=by
 obtain⟨R,ev,gw,cw,X,sp,I⟩:=P;have a2:=I.reg bd I.bdD;have a3:=I.chk.ne;have a4:d.g=⟨d.g.n,d.g.es,d.g.ws⟩:=rfl;refine HB Aa rfl ?_;refine Cq (ds:=enc (PA d.g.n ev gw cw)) (B:=I.blk) rfl rfl (Ap λb7 w1 n1 Z1=>?_);have a5:=n1.lo (u:=w);refine DI (B:=Z1) (vs:=enc (PA d.g.n ev gw cw)) rfl rfl rfl (AK.one _) λw2 K f2 _=>?_;have K:Bk w2 b7 (enc (PA d.g.n ev gw cw)) 35:=K;have s2:AC w w2:=⟨Fr.st (Le.e (a:=w) (b:=w1)) f2 λi hi=>by omega⟩;have z2:=s2.e.size;have l7:=K.lt;refine WE Aa mixed (λi=>i=b7\/AV B ev.v i) (.one 0 (.one 2 (.one 3 (.one 4 (.one 5 (.one 6 (.one 7 (.one 8 (.duo 1 (.one 9 (.one 10 (.one 11 (.one 12 .nil)))) 9 (.lone 1 (.one 10 (.one 11 (.one 12 .nil))))))))))))) (by kernel_rfl) λu e _=>?_
 have L:∀b,Value.blk (.slice na 2 nc)=some b->¬(b=b7\/AV B ev.v b):=λb hb=>by
  rintro(h|h)
  ·exact(Bh.up (w':=w2) S).neB (by simp) hb K (by decide) h
  ·exact(Bh.up (w':=w2) S).notOwn (by simp) hb (I.es.up (w':=w2)) (by decide) h
 refine CL (i:=0) (x:=(a:Int)) (Bh.up (w':=u) S).1 rfl λb3 o3 A3 h3=>AP (A3.cell0 rfl) (L _ h3) (CL (i:=1) (x:=(c:Int)) (Bh.up (w':=u) S).1 rfl λb4 o4 A4 h4=>AP (A4.cell0 rfl) (L _ h4) (As (cs:=enc (⟨a,c⟩:BP)) rfl ?_));have su:AC w2 u:=⟨e.e⟩;have a6:AC w u:=stp;have Zu:=K.mv (w:=u);refine⟨Cx (B:=Zu) rfl ⟨Fr.refl _ _,HS (⟨a,c⟩:BP) rfl rfl (by decide) λb5 y e5 _ S5=>⟨Fr.fr e5.e,?_⟩⟩,HS (⟨a,c⟩:BP) rfl rfl (by decide) λb5 y e5 _ S5=>⟨Fr.fr e5.e,Cx (B:=Zu.mv (w:=y)) rfl ⟨Fr.refl _ _,?_⟩⟩⟩
 all_goals
  have z5:=Le.size (a:=w) (b:=y);have O5:AD B 74 y ev.v d.g.es:=I.es.up;refine Tz ⟨rfl,rfl⟩ O5 S5 (by simp) (by omega) (by simp only[List.length_cons,List.length_nil];omega) λv6 u6 O6 P6 J a0=>⟨J.mono λi _ h=>.inr h,?_⟩;have M:AC w y:=stp;have z6:=J.size;have Z6:=(Zu.mv (w:=y)).fro O5 J (by decide);have E:=O6.shape;obtain⟨N,O,rfl⟩:=E;refine DI (B:=Z6) (vs:=[.slice N _ O]) rfl rfl rfl (by intro u hu;simp at hu;subst hu;rfl) λt Z7 F z7=>⟨F.mono λi _ h=>.inl h,?_⟩;have E:∃f:An,f = { d.g with es:=d.g.es++[⟨a,c⟩] }:=⟨_,rfl⟩;obtain⟨f,q⟩:=E;have r:f.n=d.g.n:=by rw[q]
  have A:f.es=d.g.es++[⟨a,c⟩]:=by rw[q]
  have j:f.ws=d.g.ws:=by rw[q]
  have E:∃p:SV,p=⟨N,(d.g.es++[(⟨a,c⟩:BP)]).length,O⟩:=⟨_,rfl⟩;obtain⟨p,Q⟩:=E;have C:p.v=.slice N (d.g.es++[(⟨a,c⟩:BP)]).length O:=by rw[Q];rfl
  have Z7:Bk t b7 (enc (PA d.g.n p gw cw)) 35:=by rw[Q];exact Z7
  have O7:AD B 74 t p.v f.es:=by rw[C,A];exact O6.frc F Z6 (by decide)
  have P7:AD B 74 t ev.v d.g.es:=P6.frc F Z6 (by decide);have M7:=((I.ws.up (w':=y)).fro O5 J (by decide) (by decide)).frc F Z6 (by decide) (by decide);have K7:Bk t bd [.int .i64 (d.g.n:Int),ev.v,.slice (some ⟨gw,0,none⟩) d.g.n cw,.pointer sp] 38:=((I.blk.mv (w:=y)).fro O5 J (by decide)).fr F (by omega);have F7:Fr (λi=>Value.blk ev.v=some i) w t:=Fr.new ((Fr.fr M.e).trans (J.mono λi _ h=>h.2.1)) F λi hi=>by omega
  have a7:=F7.size
  have T:∀b,Value.blk p.v=some b->Value.blk ev.v=some b\/(w.heap.size<=b/\b<t.heap.size):=λb hb=>by
   rw[C]at hb;rcases a0 with h|⟨h,_⟩
   ·have h':Value.blk (.slice N (d.g.es++[(⟨a,c⟩:BP)]).length O)=Value.blk ev.v:=h;left;rw[<-h'];exact hb
   ·right;have h:Value.blk (.slice N (d.g.es++[(⟨a,c⟩:BP)]).length O)=some y.heap.size:=h;rw[hb]at h;have a8:=Option.some.inj h;have E:=O6.lt (by simp);obtain⟨b',h1,_,h3⟩:=E;rw[hb]at h1;have:=Option.some.inj h1;have:=F.size;omega
  have U:DH 28 9 B gw f.n cw X (λv=>f.ws.getD v []) t:=by rw[r,j];exact M7
  have hX:=M7.len;have a9:=I.chk.nw;have b0:=I.chk.n2
  have V7:Kt t (PA d.g.n p gw cw) f X:=by
   refine⟨by rw[r],O7.sl,M7.row.sl,⟨by rw[j];omega,λi h1 h2=>?_⟩,⟨by rw[A,List.length_append,List.length_singleton];omega,by omega,λl V=>?_⟩,λl V s hs=>?_⟩
   ·have:=(U.own i X[i] (by simp)).sl;rw[List.getD_eq_getElem?_getD,List.getElem?_eq_getElem h2]at this;exact this
   ·rw[j]at V;have:=(I.chk.word l V).1;omega
   ·rw[j]at V;have:=((I.chk.word l V).2 s hs).2.2;omega
  have a1:DK f->EW d .edge [(a:Int),(c:Int)] tx=.ok (Is,{ d with g:=f }):=λh=>by
   rw[q]at h ⊢;exact if_pos h
  have hdn:¬DK f->EW d .edge [(a:Int),(c:Int)] tx=.error 20:=λh=>by
   rw[q]at h;exact if_neg h
  refine Cq (ds:=enc (PA d.g.n p gw cw)) (B:=Z7) rfl rfl (AA (cY V7) ?_);rintro _ u8 (⟨m,⟨xn,vs,rfl,_,_,_⟩,e8⟩|⟨m,rfl,e8⟩)
  ·refine AA fI ?_;rintro _ o ⟨rfl,e9⟩;refine Cq (ds:=enc (PA d.g.n p gw cw)) (B:=Z7.mv (w:=o)) rfl rfl (DI (B:=K7.mv (w:=o)) (vs:=enc (PA d.g.n p gw cw)) rfl rfl rfl (AK.one _) λW G H b1=>?_);have Y:AC t o:=stp;have z9:=Y.e.size;have G:Bk W bd [.int .i64 (f.n:Int),p.v,.slice (some ⟨gw,0,none⟩) f.n cw,.pointer sp] 38:=by rw[r];exact G
   have Z:Fr (λi=>Value.blk ev.v=some i\/i=bd) w W:=((F7.mono λi _ h=>.inl h).trans (Fr.fr Y.e)).trans (H.mono λi _ h=>.inr h);refine⟨_,_,a1 m,KC,rfl,⟨R,p,gw,cw,X,sp,I.re Z (λi hi=>?_) G ((O7.up (w':=o)).frc H (K7.mv (w:=o)) (by decide)) (λb hb=>(T b hb).imp id λh=>by omega) ((U.up (w':=o)).frc H (K7.mv (w:=o)) (by decide) (by decide)) (.inl rfl) (λv z b h hb=>.inl ⟨v,z,h,hb⟩) m⟩,Z.mono λi _ hi=>?_⟩
   ·rcases hi with hi|hi
    ·exact I.Res i hi
    ·rw[hi];exact I.Rbd
   ·rcases hi with hi|hi
    ·exact I.esD i hi
    ·rw[hi];exact I.bdD
  ·refine AO zNN ?_ ?_
   ·rintro _ _ ⟨h,_⟩;exact absurd h (by decide)
   ·rintro _ o ⟨_,rfl,e9⟩;have Y:AC t o:=stp;have F9:Fr (λi=>Value.blk ev.v=some i) w o:=F7.trans (Fr.fr Y.e);have z9:=Y.e.size;refine⟨20,hdn m,rfl,⟨R,ev,gw,cw,X,sp,I.re F9 (λi hi=>I.Res i hi) (K7.mv (w:=o)) (P7.up (w':=o)) (λb hb=>.inl hb) (M7.up (w':=o)) (.inl rfl) (λv z b h hb=>.inl ⟨v,z,h,hb⟩) I.chk⟩,F9.mono λi _ hi=>I.esD i hi⟩
end
section
variable {α:Type} [AK α] {e1 e2:TypeId} {B g n c:Nat} {X:List SV} {L:Nat->List α} {w w':World}
theorem DH.back(d:e1≠e2){v:Nat}{z:SV}{l m:World}(M:DH e1 e2 B g n c X L w)(f:X[v]? = some z)(r:AD B e2 l z.v (L v))(p:Fr (AV B z.v) w l)
  (q:AD B e1 l (.slice (some ⟨g,0,none⟩) n c) X)(s:AD B e1 m (.slice (some ⟨g,0,none⟩) n c) X)(o:Fr (AV B (.slice (some ⟨g,0,none⟩) n c)) l m):DH e1 e2 B g n c X L m:=by
 refine⟨s,M.len,λj y a=>?_,λj y b a hb=>?_,M.apart⟩
 ·by_cases e:j=v
  ·subst e;rw[f]at a;cases a;exact r.fro q o (λe=>d e.symm)
  ·exact((M.own j y a).fr p λb _ hb h=>M.apart j y v z a f e b hb h.2.1).fro q o (λe=>d e.symm)
 ·have:=M.lt j y b a hb;have:=p.size;have:=o.size;omega
end
theorem zLR{α:Type}{l:List (List α)}{v:Nat}{f:List α->List α}(a:v<l.length):(λu=>(l.modify v f).getD u [])=λu=>if u=v then f (l.getD v []) else l.getD u []:=by
 funext u;rw[Qk,List.getElem?_modify];by_cases e:u=v
 ·subst e;rw[if_pos rfl,Qk,Qd a];simp
 ·rw[if_neg e,Qk];have b:¬v=u:=λh=>e h.symm;cases l[u]?<;>simp[b]
section
variable {D:Nat->Prop} {B bd:Nat} {d:DF} {w w':World} {R:Nat->Prop} {ev:SV} {gw cw:Nat} {X:List SV} {sp:OA}
theorem zKo(P:EF D B bd d w){a:Nat}{na:OA}{nc:Nat}{ta:OA}{tc:Nat}{t:Tx}(S:Bh 3 w (.slice na 1 nc) [(a:Int)])(T:Bh 9 w (.slice ta 1 tc) (Ej [t]))(hT:∀b,Value.blk (.slice ta 1 tc)=some b->¬D b)(ha:a<=1000000)(ht:t.length<=1000000):
  El PP 21 #[.pointer (some ⟨bd,0,none⟩),.slice na 1 nc,.slice ta 1 tc] w (GG D B bd w (EW d .word [(a:Int)] [t])) (FW D B bd w d (EW d .word [(a:Int)] [t])):=by
 have P0:=P;obtain⟨R,ev,gw,cw,X,sp,I⟩:=P;have e7:=I.reg bd I.bdD;have c2:=I.reg gw I.gwD;have e9:=I.chk.n2;have c3:=I.chk.nw;refine HB Aa rfl ?_;refine dQ 9 λu1 e1=>CL (i:=0) (x:=(a:Int)) (Bh.up (w':=u1) S).1 rfl λb3 o3 A3 _=>AP (A3.cell0 rfl) nf (tX I.blk rfl nf (ite (λf0=>?_) (λAY=>?_)))
 ·refine AO (nX P0 (r:=EW d .word [(a:Int)] [t]) stp (if_pos (show(d.g.n:Int)<=(a:Int) by omega)) (by decide)) ?_ ?_
  ·intro _ _ h;exact h.elim
  ·intro _ _ h;exact h
 have a2:EW d .word [(a:Int)] [t]=_:=if_neg (show ¬(d.g.n:Int)<=(a:Int) by omega);have hX:=I.ws.len;have c:X[a]? = some (X[a]'(by omega)):=by simp
 have H:∃z,z=X[a]'(by omega):=⟨_,rfl⟩;obtain⟨z,hz⟩:=H;rw[<-hz]at c;refine dQ 11 λu2 e2=>tX I.blk rfl nf (CL (i:=0) (x:=(a:Int)) (Bh.up (w':=u2) S).1 rfl λb4 o4 A4 _=>AP (A4.cell0 rfl) nf (CL (i:=a) (x:=z) ((I.ws.up (w':=u2)).row.sl) c λb5 o5 A5 _=>AP (A5.cell0 rfl) nf (dD (λi=>i=gw\/AV B z.v i) (Hn 16 0) λu3 e3=>?_)));have f1:=I.chk.n1;have f2:AC w u3:=stp;have Oz:=I.ws.own a z c;have a3:AV B (.slice (some ⟨gw,0,none⟩) d.g.n cw) gw:=⟨c2.1,rfl,λa h=>by injection h with _ h2;omega⟩
 have M:¬(bd=gw\/AV B z.v bd):=by
  rintro(h|h)
  ·exact I.blk.notOwn I.ws.row (by decide) (by rw[h];exact a3)
  ·exact I.blk.notOwn Oz (by decide) h
 have a4:∀b,Value.blk (.slice na 1 nc)=some b->¬(b=gw\/AV B z.v b):=λb hb=>by
  rintro(h|h)
  ·exact S.notOwn (by simp) hb I.ws.row (by decide) (by rw[h];exact a3)
  ·exact S.notOwn (by simp) hb Oz (by decide) h
 have c4:∀b,Value.blk (.slice ta 1 tc)=some b->¬(b=gw\/AV B z.v b):=λb hb=>by
  rintro(h|h)
  ·exact hT b hb (h ▸ I.gwD)
  ·exact hT b hb (I.wsD a z b c h.2.1)
 refine tX I.blk rfl M (CL (i:=0) (x:=(a:Int)) (Bh.up (w':=u3) S).1 rfl λb6 o6 A6 h6=>AP (A6.cell0 rfl) (a4 _ h6) (CL (i:=0) (x:=(⟨t.toArray⟩:ByteArray)) (Bh.up (w':=u3) T).1 rfl λb7 o7 A7 h7=>AP (A7.cell0 rfl) (c4 _ h7) (bS (⟨t.toArray⟩:ByteArray) λb8 u8 e8 _ S8=>⟨Fr.fr e8.e,?_⟩)));have z8:=lz w u8;have M8:=I.ws.up (w':=u8);have O8:=M8.own a z c
 have f3:(d.g.ws.getD a []).length<=8:=by
  rw[Qk,Qd (by omega)];exact(I.chk.word _ (Qa _)).1
 refine Tz ⟨rfl,rfl⟩ O8 S8 (by simp) (by omega) (by simp only[QA,QZ];omega) λW u9 O9 P9 J a5=>⟨J.mono λi _ h=>.inr h,?_⟩;have R9:=M8.row.fro O8 J;refine ET rfl R9 (i:=a) c λc5 N _ f4=>?_;have Y:gw=c5:=QL N;subst Y;refine CZ rfl (Fi W) R9 N (by omega) (by obtain⟨a7,c7,rfl⟩:=O9.shape;rfl) λm c6 o c8=>⟨o.mono λi _ h=>.inl (QL h.2.1).symm,?_⟩;have z9:=J.size;have a6:AC w u8:=stp;have H:∃q:An,q = { d.g with ws:=d.g.ws.modify a (·++[AS t]) }:=⟨_,rfl⟩;obtain⟨q,A⟩:=H;have f:q.n=d.g.n:=by rw[A]
 have C:q.es=d.g.es:=by rw[A]
 have E:q.ws=d.g.ws.modify a (·++[AS t]):=by rw[A]
 have e4:q.ws.length=d.g.n:=by rw[E,List.length_modify];exact c3
 have F:DH 28 9 B gw q.n cw (X.set a (Fi W)) (λv=>q.ws.getD v []) m:=by
  rw[f,E,zLR (by omega)];exact M8.put (by decide) c O9 J a5 c6 o c8
 have Z:AD B 74 m ev.v d.g.es:=((I.es.up (w':=u8)).fro O8 J).fro R9 o;have K:Bk m bd [.int .i64 (d.g.n:Int),ev.v,.slice (some ⟨gw,0,none⟩) d.g.n cw,.pointer sp] 38:=((I.blk.mv (w:=u8)).fro O8 J).fro R9 o;have a8:Fr (λi=>i=gw\/Value.blk z.v=some i) w m:=((Fr.fr a6.e).trans (J.mono λi _ h=>.inr h.2.1)).trans (o.mono λi _ h=>.inl (QL h.2.1).symm)
 have a9:∀i,(i=gw\/Value.blk z.v=some i)->¬R i:=λi hi=>by
  rcases hi with rfl|hi
  ·exact I.Rgw
  ·exact I.Rws a z i c hi
 have b0:∀i,(i=gw\/Value.blk z.v=some i)->D i:=λi hi=>by
  rcases hi with rfl|hi
  ·exact I.gwD
  ·exact I.wsD a z i c hi
 have e5:=F.len
 have O:∀l∈q.ws,l.length<=9/\∀s∈l,s.size<=1000000:=λl hl=>by
  rw[E]at hl;have H:=QI.1 hl;obtain⟨j,hj,rfl⟩:=H;rw[List.length_modify]at hj;have hw:=I.chk.word _ (Qa hj);rw[List.getElem_modify];split
  ·refine⟨by rw[Qb,VC];omega,λs hs=>?_⟩;have H:=Qf.1 hs;rcases H with hs|hs
   ·have:=(hw.2 s hs).2.2;omega
   ·rw[Qc.1 hs];show(⟨t.toArray⟩:ByteArray).size<=_;rw[AM];exact ht
  ·exact⟨by omega,λs hs=>by have:=(hw.2 s hs).2.2;omega⟩
 have c9:Kt m (PA d.g.n ev gw cw) q (X.set a (Fi W)):=by
  have Q:=F.row.sl;rw[f]at Q;refine⟨by rw[f],by rw[C];exact Z.sl,Q,⟨by omega,λi h1 h2=>?_⟩,⟨by rw[C];have:=I.chk.ne;omega,by omega,λl hl=>by have:=(O l hl).1;omega⟩,λl hl=>(O l hl).2⟩;have:=(F.own i (X.set a (Fi W))[i] (by rw[Qd h1])).sl;rw[Qk,Qd h2]at this;exact this
 have d0:DK q->EW d .word [(a:Int)] [t]=.ok (Is,{ d with g:=q }):=λh=>by
  rw[A]at h ⊢;exact a2.trans (if_pos h)
 have d1:¬DK q->EW d .word [(a:Int)] [t]=.error 20:=λh=>by
  rw[A]at h;exact a2.trans (if_neg h)
 refine rG K (PA d.g.n ev gw cw) (AA (eE c9) ?_);rintro _ a0 ⟨⟨rfl,p⟩|⟨rfl,p⟩,b1⟩
 ·have b2:=a8.trans (Fr.fr b1.e);have f5:=b1.e.size;refine⟨_,_,d0 p,KC,rfl,⟨R,ev,gw,cw,_,sp,I.re b2 a9 (by rw[f];exact K.mv) (by rw[C];exact Z.up) (λb hb=>.inl hb) F.up (.inl rfl) (λv y b h hb=>?_) p⟩,b2.mono λi _ hi=>b0 i hi⟩;rw[Vw]at h;split at h
  ·rename_i hv;split at h
   ·have hy:=QL h;subst hy;rw[NL O9.sl]at hb;rcases a5 with h9|⟨h9,_⟩
    ·rw[h9]at hb;exact .inl ⟨a,z,c,hb⟩
    ·rw[h9]at hb;have f6:=QL hb;have H:=O9.lt (by simp);obtain⟨b',h1,_,h3⟩:=H;rw[h9]at h1;have:=QL h1;exact .inr (by omega)
   ·cases h
  ·exact .inl ⟨v,y,h,hb⟩
 ·have d2:AD B 28 a0 (.slice (some ⟨gw,0,none⟩) d.g.n cw) (X.set a (Fi W)):=by
   have:=F.row.up (w':=a0);rw[f]at this;exact this
  have d3:=K.mv (w:=a0);refine dD (λi=>i=gw) (Hn 11 0) λG f7=>?_;have U:AC m G:=stp;have d4:¬bd=gw:=λh=>M (.inl h)
  have d5:Bh 3 G (.slice na 1 nc) [(a:Int)]:=by
   have h8:=Bh.up (w':=u8) S;exact Bh.up (w:=m) (Bh.fro (Bh.fro h8 O8 J (by decide)) R9 o)
  refine tX d3 rfl d4 (CL (i:=0) (x:=(a:Int)) d5.1 rfl λf8 f9 d6 d7=>AP (d6.cell0 rfl) (λh=>a4 _ d7 (.inl h)) ?_);have L:=d2.up (w':=G);refine ET rfl L (i:=a) (x:=Fi W) (by rw[Vw,if_pos rfl,if_pos (by omega)]) λd8 V _ g0=>?_;have Y:gw=d8:=QL V;subst Y;refine CZ rfl z L V (by rw[Jc];omega) rfl λb9 c0 u g1=>⟨u.mono λi _ h=>(QL h.2.1).symm,?_⟩
  have d9:(X.set a (Fi W)).set a z=X:=by
   rw[List.set_set];apply Vl;intro j;rw[Vw];split
   ·rename_i h;subst h;rw[if_pos (by omega),c]
   ·rfl
  rw[d9]at c0;have a1:Fr (AV B (.slice (some ⟨gw,0,none⟩) d.g.n cw)) u9 b9:=(o.trans (Fr.fr U.e)).trans u;have e0:=M8.back (by decide) c P9 J R9 c0 a1;have e6:=u.size;have c1:Fr (λi=>i=gw\/Value.blk z.v=some i) w b9:=(a8.trans (Fr.fr U.e)).trans (u.mono λi _ h=>.inl (QL h.2.1).symm);refine AO Tl ?_ ?_
  ·rintro _ _ ⟨h,_⟩;exact absurd h (by decide)
  ·rintro _ w9 ⟨_,rfl,rfl⟩;exact⟨20,d1 p,rfl,⟨R,ev,gw,cw,X,sp,I.re c1 a9 (((K.mv (w:=G)).fro L u)) ((Z.up (w':=G)).fro L u) (λb hb=>.inl hb) e0 (.inl rfl) (λv y b h hb=>.inl ⟨v,y,h,hb⟩) I.chk⟩,c1.mono λi _ hi=>b0 i hi⟩
end
section
variable {D:Nat->Prop} {B bd:Nat} {d:DF} {w w':World} {R:Nat->Prop} {ev:SV} {gw cw:Nat} {X:List SV} {sp:OA}
theorem zO(P:EF D B bd d w){q a2 r t y:Nat}{N:OA}{O:Nat}{ta:Value}{J:List Tx}(S:Bh 3 w (.slice N 5 O) [(q:Int),(a2:Int),(r:Int),(t:Int),(y:Int)]):
  El PP 24 #[.pointer (some ⟨bd,0,none⟩),.slice N 5 O,ta] w (GG D B bd w (EW d .server [(q:Int),(a2:Int),(r:Int),(t:Int),(y:Int)] J)) (FW D B bd w d (EW d .server [(q:Int),(a2:Int),(r:Int),(t:Int),(y:Int)] J)):=by
 have P0:=P;obtain⟨R,ev,gw,cw,X,sp,I⟩:=P;have a4:=I.reg bd I.bdD;have Q:=S.blkN (by simp);obtain⟨bn,T,a3⟩:=Q
 have j:∀b,Value.blk (.slice N 5 O)=some b->¬w.heap.size<=b:=λb hb=>by
  rw[T]at hb;have:=Option.some.inj hb;omega
 refine HB Aa rfl ?_;refine Nw Aa mixed (λi=>w.heap.size<=i) [0,1,2,3,4,5,6,7,8,9,10,11,12,13,14,15,16,17] (by kernel_rfl) λu e _=>CL (i:=0) (x:=(q:Int)) (Bh.up (w':=u) S).1 rfl λK L l m=>AP (l.cell0 rfl) (j _ m) (CL (i:=1) (x:=(a2:Int)) (Bh.up (w':=u) S).1 rfl λK L l m=>AP (l.cell0 rfl) (j _ m) (CL (i:=2) (x:=(r:Int)) (Bh.up (w':=u) S).1 rfl λK L l m=>AP (l.cell0 rfl) (j _ m) (CL (i:=3) (x:=(t:Int)) (Bh.up (w':=u) S).1 rfl λK L l m=>AP (l.cell0 rfl) (j _ m) (CL (i:=4) (x:=(y:Int)) (Bh.up (w':=u) S).1 rfl λK L l m=>AP (l.cell0 rfl) (j _ m) ?_))));have Q:∃x:NV,x=⟨q,a2,r,t,y⟩:=⟨_,rfl⟩;obtain⟨x,U⟩:=Q;refine As (cs:=enc x) (by rw[U];rfl) (Ap λb7 w1 n1 Z1=>⟨Fr.fr n1.e,?_⟩);have a5:=n1.lo (u:=w);refine DI (B:=Z1) (vs:=enc x) rfl rfl rfl (AK.one _) λw2 M f2 _=>⟨f2.mono λi _ hi=>by omega,?_⟩;have M:Bk w2 b7 (enc x) 93:=M;have s2:AC w w2:=⟨Fr.st (Le.e (a:=w) (b:=w1)) f2 λi hi=>by omega⟩;have l7:=M.lt;refine WE Aa mixed (λi=>i=bd) (.one 0 (.one 1 (.one 2 (.one 3 (.one 4 (.lone 5 (.one 6 (.one 7 (.one 8 (.one 9 (.one 10 (.one 11 (.one 12 (.one 13 (.one 14 (.one 15 (.one 16 (.one 17 (.one 18 (.one 19 (.one 20 .nil))))))))))))))))))))) (by kernel_rfl) λu3 e3 _=>MG (ds:=enc x) (B:=M) rfl rfl (λh=>by omega) ?_;have V:=I.gr;refine Cq (ds:=enc (PA d.g.n ev gw cw)) (B:=I.blk.mv (w:=w2)) rfl rfl ⟨Fr.refl _ _,?_⟩;refine AA (cY (V.up (w':=u3))) ?_;rintro _ w4 (⟨hc,⟨xn,vs,rfl,Vn,_,a6⟩,e4⟩|⟨C,_⟩)
 case' inr=>exact absurd I.chk C
 refine⟨Fr.fr e4.e,?_⟩;refine AA fI ?_;rintro _ w5 ⟨rfl,e5⟩;refine⟨Fr.fr e5.e,?_⟩;have o:=eB I.chk;refine AA (zHO (Vn.up (w':=w5)) o) ?_;rintro _ w6 ⟨rfl,e6⟩;refine⟨Fr.fr e6.e,?_⟩;refine AA uZ ?_;rintro _ G ⟨rfl,rfl⟩;refine⟨Fr.refl _ _,?_⟩;have a7:=fG o (k:=(CI d.g).n) (Nat.le_refl _);refine AA (zJT (x:=x) (by omega)) ?_;have A:TL ((q:Int),(a2:Int),(r:Int),(t:Int),(y:Int))↔Iz x:=by rw[U];exact Iff.rfl
 rintro _ w8 ⟨⟨C,rfl⟩|⟨_,hi,_⟩|⟨g2,bs,W,hi,rfl,SP⟩,Y⟩
 ·refine⟨Fr.fr Y.e,?_⟩;have hd:EW d .server [(q:Int),(a2:Int),(r:Int),(t:Int),(y:Int)] J=.error 1:=if_neg λh=>C (A.1 h);refine AO tW ?_ ?_
  ·rintro _ _ ⟨h,_⟩;exact absurd h (by decide)
  ·rintro _ p ⟨_,rfl,rfl⟩;have h9:=HV P0 (w':=p) stp;exact Mq rfl rfl ⟨1,hd,rfl,h9.1,h9.2⟩
 ·rw[oP o]at hi;cases hi
 ·refine⟨Fr.fr Y.e,?_⟩;rw[oP o]at hi;have Z:=Option.some.inj hi
  have hd:EW d .server [(q:Int),(a2:Int),(r:Int),(t:Int),(y:Int)] J=.ok (Is,{ d with s:=some (g2,Md x,Du (Md x)) }):=by
   rw[<-Z,U];exact if_pos (A.2 W)
  refine AO tW ?_ ?_
  ·rintro _ p ⟨_,rfl,rfl⟩;refine⟨Fr.refl _ _,?_⟩;have H:AC w p:=stp;have z9:=H.e.size;have K9:=I.blk.mv (w:=p);refine DI (B:=K9) (vs:=[.pointer (some ⟨bs,0,none⟩)]) rfl rfl rfl (by intro u hu;simp at hu;subst hu;rfl) λE F f a8=>⟨f,?_⟩;have F:Bk E bd [.int .i64 (d.g.n:Int),ev.v,.slice (some ⟨gw,0,none⟩) d.g.n cw,.pointer (some ⟨bs,0,none⟩)] 38:=F;have a0:Fr (λi=>i=bd) w E:=(Fr.fr H.e).trans f;have a9:=Le.size (a:=w) (b:=G);have b0:=Y.e.size;have a1:∀i,(G.heap.size<=i/\i<p.heap.size)->w.heap.size<=i/\i<E.heap.size:=λi hi=>by omega
   have c:∀i,D i->¬(G.heap.size<=i/\i<p.heap.size):=λi hi=>by have:=I.reg i hi;omega
   refine⟨_,_,hd,KC,rfl,⟨λi=>G.heap.size<=i/\i<p.heap.size,ev,gw,cw,X,_,⟨λi hi=>?_,.inl I.bdD,F,(I.es.up (w':=p)).frc f K9 (by decide),λb hb=>.inl (I.esD b hb),(I.ws.up (w':=p)).frc f K9 (by decide) (by decide),.inl I.gwD,λv z b h hb=>.inl (I.wsD v z b h hb),I.chk,λi hi=>.inr (a1 i hi),c bd I.bdD,λb hb=>c b (I.esD b hb),c gw I.gwD,λv z b h hb=>c b (I.wsD v z b h hb),⟨bs,G.heap.size,rfl,by have:=f.size;omega,SP.away f λi hi=>by rw[hi];exact c bd I.bdD⟩⟩⟩,a0.mono λi _ hi=>hi ▸ I.bdD⟩;rcases hi with hi|hi
   ·have:=I.reg i hi;omega
   ·omega
  ·rintro _ _ ⟨h,_⟩;exact absurd rfl h
end
theorem yJ{c:DN}{s:ES}{y:Bt}(a:Eo y):Hd g c s (Fy y)=((Fw g c s y).1,(Fw g c s y).2.map λp=>Ga (p.1,p.2,ER)):=by
 unfold Hd Fw Ga;rw[WM a];dsimp only;by_cases h:y.kind=4
 ·rw[if_pos h,if_pos h];rfl
 ·rw[if_neg h,if_neg h];split<;>rfl
theorem zNK{y:Bt}(a:Eo y):(Fy y).length<=1000:=by
 have b:=a.2.1;have v:=Kf b
 have e:y.kind=1\/y.kind=2\/y.kind=3\/y.kind=4:=by
  by_cases h:y.kind=4
  ·omega
  ·have j:=(a.1.resolve_left h).1;have:=(a.1.resolve_left h).2.1;omega
 have x:=Kf (n:=y.kind) (by omega)
 have z:(MQ y).length<=200:=by
  unfold MQ;split
  ·simp
  ·rename_i d;have c:=(a.1.resolve_left d).2;have A:=(a.1.resolve_left d).1;have C:=Kf (n:=y.q.frm) (by have:=c.2.1;omega);split
   ·rename_i o;have p:=c.2.2.2 (by omega);have r:=Kf (n:=y.q.rad) (by omega);have E:=Kf (n:=y.q.most) (by omega);have F:=LH (n:=y.q.words.length) (by omega)
    have h:=aQ (f:=DZ) (m:=17) (l:=y.q.words) λs t=>by
     have j:=(p.2.2.2 s t).2.2;have u:s.data.toList.length=s.size:=Vc;have:=LH (n:=s.size) (by omega);unfold DZ;rw[Qb];omega
    unfold Lw;simp only[Qb];omega
   ·rename_i o;have r:=Kf (n:=y.q.to) (by have:=c.2.2.1 (by omega);omega);rw[Qb];omega
 unfold Fy;rw[Qb,Qb];omega
theorem zNG(s:ES)(id:Int):(DJ s id).2=253\/(DJ s id).2=141:=by
 unfold DJ;split
 ·exact .inl rfl
 ·split
  ·exact .inl rfl
  ·exact .inr rfl
theorem zOL{c:DN}{s:ES}{y:Bt}(f:DX g c s)(j:Eo y){p:Int×Int}(b:(Fw g c s y).2=some p):BG (BN p.1 p.2 ER) ER.hits:=by
 have d:=j.2.1;have mk:∀a:Int,0<=a/\a<=1000->BG (BN y.id a ER) ER.hits:=λa l=>⟨d,l,⟨Vr 0,(show(0:Int)<=400 by decide)⟩,XE _,λ_=>⟨rfl,rfl,rfl⟩,λ_=>⟨rfl,rfl⟩,.inl rfl,λh m=>(by cases m)⟩;unfold Fw at b;split at b
 ·have:=QL b;subst this;have:=zNG s y.id;exact mk _ (by dsimp only;omega)
 ·split at b
  ·cases b
  ·rename_i h0;have:=QL b;subst this;have o:=Nj (x:=y) f d;rcases o with⟨e,_⟩|⟨e,_⟩
   ·exact absurd e h0
   ·exact mk _ (by dsimp only;omega)
section
variable {D:Nat->Prop} {B bd:Nat} {d:DF} {w w':World} {R:Nat->Prop} {ev:SV} {gw cw:Nat} {X:List SV} {sp:OA}
def Gn (B:Nat) (w:World):Prop:=∀u,Fr (λi=>B<=i) w u->HY u
theorem Gn.at(G:Gn B w):HY w:=G w (Fr.refl _ _)
theorem Gn.next(G:Gn B w)(f:Fr (λi=>B<=i) w w'):Gn B w':=λu g=>G u (f.trans g)
theorem LO.wide{Z:Nat->Prop}(I:LO D B bd d w R ev gw cw X sp)(h:∀i,D i->Z i)(a:∀i,Z i->B<=i/\i<w.heap.size):LO Z B bd d w R ev gw cw X sp:=
 ⟨a,h _ I.bdD,I.blk,I.es,λb hb=>h b (I.esD b hb),I.ws,h _ I.gwD,λv z b c hb=>h b (I.wsD v z b c hb),I.chk,λi hi=>h i (I.RD i hi),I.Rbd,I.Res,I.Rgw,I.Rws,I.srv⟩
theorem EF.next{b:DF}(P:EF (gR D w w1) B bd b w1)(e:Fr (λ_=>False) w1 w2)(f:w.heap.size<=w1.heap.size):EF (gR D w w2) B bd b w2:=by
 obtain⟨R,ev,gw,cw,X,sp,I⟩:=P;have z:=e.size;have J:=I.ext e
 have h:∀i,gR (gR D w w1) w1 w2 i↔gR D w w2 i:=λi=>by
  constructor
  ·rintro((h|h)|h)
   ·exact .inl h
   ·exact .inr (by omega)
   ·exact .inr (by omega)
  ·rintro(h|h)
   ·exact .inl (.inl h)
   ·have c:=QH i w1.heap.size;rcases c with a|a
    ·exact .inl (.inr ⟨h.1,a⟩)
    ·exact .inr ⟨a,h.2⟩
 exact⟨R,ev,gw,cw,X,sp,J.wide (λi hi=>(h i).1 hi) λi hi=>J.reg i ((h i).2 hi)⟩
theorem LO.went(I:LO D B bd d w R ev gw cw X sp){e:Nat->Prop}{c:DN}{s:ES}{bs B':Nat}(j:sp=some ⟨bs,0,none⟩)(x:B'<=w.heap.size)(f:Fr R w w')(m:BB e B' w' bs g c s)(l:∀i,e i->gR R w w' i):
  LO (gR D w w') B bd { d with s:=some (g,c,s) } w' e ev gw cw X sp:=by
 have o:=I.reg bd I.bdD;have p:=f.size
 have a:∀i,D i->¬R i->¬e i:=λi q r t=>by
  have:=I.reg i q;have u:=l i t;rcases u with h|h
  ·exact r h
  ·omega
 refine⟨λi hi=>?_,.inl I.bdD,I.blk.fr f I.Rbd,I.es.fr f λb _ hb=>I.Res b hb,λb hb=>.inl (I.esD b hb),?_,.inl I.gwD,λv z b h hb=>.inl (I.wsD v z b h hb),I.chk,λi hi=>(l i hi).imp (I.RD i) id,a _ I.bdD I.Rbd,λb hb=>a b (I.esD b hb) (I.Res b hb),a _ I.gwD I.Rgw,λv z b h hb=>a b (I.wsD v z b h hb) (I.Rws v z b h hb),⟨bs,B',j,by omega,m⟩⟩
 ·rcases hi with hi|hi
  ·have:=I.reg i hi;omega
  ·omega
 ·exact⟨I.ws.row.fr f λb _ hb=>by have:=QL hb;subst this;exact I.Rgw,I.ws.len,λv z h=>(I.ws.own v z h).fr f λb _ hb=>I.Rws v z b h hb,λv z b h hb=>QJ (I.ws.lt v z b h hb) p,I.ws.apart⟩
theorem eW(P:EF D B bd d w)(G:Gn B w){x:Ay}{y:Bt}(hk:x.kind=y.kind)(h4:y.kind=4->y=⟨x.id,4,L3⟩)(hV:y.kind≠4->MV w ⟨x.id,x.kind,{ x.q with kind:=x.kind }⟩ y)(hl:y.q.words.length<=1000000)(hw:∀s∈y.q.words,s.size<=1000000)(Z:d.s.isSome=true):
  El PP 56 #[.pointer (some ⟨bd,0,none⟩),agg x] w (GG D B bd w (CY d y)) (FW D B bd w d (CY d y)):=by
 have P0:=P;obtain⟨R,ev,gw,cw,X,sp,I⟩:=P;have a1:=I.reg bd I.bdD
 cases f:d.s with
 |none=>rw[f]at Z;cases Z
 |some p =>
 obtain⟨g,c,s⟩:=p;have A:=I.srv;rw[f]at A;obtain⟨bs,B',rfl,hB,SP⟩:=A
 have a:Eo y->CY d y=.ok (match (Fw g c s y).2 with|none=>Is|some p=>Da (p.1,p.2,ER),{ d with s:=some (g,c,(Fw g c s y).1) }):=λh=>by
  unfold CY;rw[f];exact if_pos h
 have L:¬Eo y->CY d y=.error 1:=λh=>by
  unfold CY;rw[f];exact if_neg h
 refine HB Aa rfl ?_;refine BM λC w1 n1 F=>?_;have F:Bk w1 C (enc x) 103:=F;have a2:=n1.lo (u:=w);refine Cx (B:=F) (v:=.int .i64 x.kind) rfl (DI (B:=F) (vs:=[.int .i64 x.kind]) rfl rfl rfl (HT _) λw2 r f2 z2=>?_);have r:Bk w2 C (enc (⟨x.id,x.kind,{ x.q with kind:=x.kind }⟩:Ay)) 103:=r;have s2:AC w w2:=⟨Fr.st (lE w w1) f2 λi hi=>by omega⟩;have l2:=r.lt;refine Cx (B:=r) (v:=.int .i64 x.kind) rfl ?_;have M:∃t:Ay,t=if y.kind=4 then ⟨x.id,4,⟨0,0,0,⟨none,0,0⟩,0,0⟩⟩ else ⟨x.id,x.kind,{ x.q with kind:=x.kind }⟩:=⟨_,rfl⟩
 obtain⟨t,b⟩:=M
 have V:∀u,AC w u->MV u t y:=λu e=>by
  by_cases h:y.kind=4
  ·rw[if_pos h]at b;rw[b,h4 h];exact⟨rfl,rfl,⟨rfl,rfl,rfl,AQ.nil _,rfl,rfl⟩⟩
  ·rw[if_neg h]at b;rw[b];exact(hV h).up
 have a3:=s2.e.size;refine ite (λN=>?_) (λN=>?_)
 case' refine_1 =>
  refine AJ (cs:=[.int .i64 0,.int .i64 0,.int .i64 0,.slice none 0 0,.int .i64 0,.int .i64 0]) rfl (rS r [.int .i64 0,.int .i64 0,.int .i64 0,.slice none 0 0,.int .i64 0,.int .i64 0] (by intro u hu;simp at hu;rcases hu with rfl|rfl|rfl<;>rfl) λj H f3 _=>?_);have O:y.kind=4:=by omega
  have H:Bk j C (enc t) 103:=by
   rw[b,if_pos O];have Q:x.kind=4:=by omega
   have:Bk j C [.int .i64 x.id,.int .i64 x.kind,.int .i64 0,.int .i64 0,.int .i64 0,.slice none 0 0,.int .i64 0,.int .i64 0] 103:=H;rw[Q]at this;exact this
  have s3:AC w j:=⟨Fr.st (lE w w2) f3 λi hi=>by omega⟩
 case' refine_2 =>
  have M:∃j,j=w2:=⟨_,rfl⟩;obtain⟨j,rfl⟩:=M
  have H:Bk j C (enc t) 103:=by
   rw[b,if_neg (by omega)];exact r
  have s3:AC w j:=s2
 all_goals
  have z3:=s3.e.size;refine dD (λi=>R i) (Hn 15 0) λu e=>tX I.blk rfl I.Rbd (tG H t (λh=>by have:=(I.reg _ (I.RD _ h)).2;omega) ?_);have su:AC w u:=stp;refine AA (zFl (V u su) hl hw) ?_;rintro _ w5 ⟨⟨m,rfl⟩|⟨m,rfl⟩,e5⟩
  ·refine⟨Fr.fr e5.e,?_⟩;refine AA uZ ?_;rintro _ S ⟨rfl,rfl⟩;refine⟨Fr.refl _ _,?_⟩;have s6:AC w S:=stp;have z6:=s6.e.size;have a4:=zNK m;refine AA (zIH (SP.up (w':=S)) (by omega) (by omega)) ?_;rintro _ z ⟨rfl,E,T⟩;refine⟨T,?_⟩;rw[yJ m]at E ⊢;have K:Fr R w z:=(Fr.fr s6.e).trans T;have z7:=T.size;have U:∀i,gR R S z i->gR R w z i:=λi hi=>hi.imp id λh=>by omega
   have J:=I.went rfl hB K E U;have W:=(CU.reg SP).2.2.2;have a:=a m
   cases Y:(Fw g c s y).2 with
   |none =>
    rw[Y]at a;exact⟨_,_,a,KC,rfl,⟨_,_,_,_,_,_,J⟩,K.mono λi _ hi=>I.RD i hi⟩
   |some p =>
    rw[Y]at a;have o:=zOL W m Y;have G7:HY z:=G z (K.mono λi _ hi=>(I.reg i (I.RD i hi)).1);refine AA (tH (p:=(p.1,p.2,ER)) o G7) ?_;rintro _ w8 ⟨rfl,e8⟩;have a0:(Da (p.1,p.2,ER)).length<=10000:=qQ (l:=[]) (λy m=>(by cases m)) (XE _) rfl o;exact⟨_,_,a,by show(Da (p.1,p.2,ER)).length<=_;omega,rfl,EF.next (w1:=z) ⟨_,_,_,_,_,_,J⟩ e8.e (by omega),(K.mono λi _ hi=>I.RD i hi).trans (Fr.fr e8.e)⟩
  ·refine⟨Fr.fr e5.e,?_⟩;refine AO zNg ?_ ?_
   ·rintro _ _ ⟨h,_⟩;exact absurd h (by decide)
   ·rintro _ w9 ⟨_,rfl,rfl⟩;have h9:=HV P0 (w':=w9) stp;exact Mq rfl rfl ⟨1,L m,rfl,h9.1,h9.2⟩
end
section
variable {D:Nat->Prop} {B bd:Nat} {d:DF} {w w' u:World} {R:Nat->Prop} {ev:SV} {gw cw:Nat} {X:List SV} {sp:OA}
theorem EF.pre{b:DF}(P:EF (gR (gR D w u) u w') B bd b w')(e:Fr (λ_=>False) w u)(z:u.heap.size<=w'.heap.size):EF (gR D w w') B bd b w':=by
 obtain⟨R,ev,gw,cw,X,sp,I⟩:=P;have f:=e.size
 have h:∀i,gR (gR D w u) u w' i↔gR D w w' i:=λi=>by
  constructor
  ·rintro((h|h)|h)
   ·exact .inl h
   ·exact .inr (by omega)
   ·exact .inr (by omega)
  ·rintro(h|h)
   ·exact .inl (.inl h)
   ·have c:=QH i u.heap.size;rcases c with a|a
    ·exact .inl (.inr ⟨h.1,a⟩)
    ·exact .inr ⟨a,h.2⟩
 exact⟨R,ev,gw,cw,X,sp,I.wide (λi hi=>(h i).1 hi) λi hi=>I.reg i ((h i).2 hi)⟩
theorem Rf(e:Fr (λ_=>False) w u)(f:Fr (gR D w u) u w'):Fr D w w':=((Fr.fr e).trans f).mono λi hi h=>by
 rcases h with h|h
 ·exact h
 ·omega
theorem GG.pre{r:Except Int (Tx×DF)}{v:Value}(e:Fr (λ_=>False) w u)(h:GG (gR D w u) B bd u r v w'):GG D B bd w r v w':=by
 obtain⟨t,d',b,c,f,j,a⟩:=h;exact⟨t,d',b,c,f,j.pre e a.size,Rf e a⟩
theorem FW.pre{r:Except Int (Tx×DF)}{c:List PanicEntry}(e:Fr (λ_=>False) w u)(h:FW (gR D w u) B bd u d r c w'):FW D B bd w d r c w':=by
 obtain⟨n,b,f,j,a⟩:=h;exact⟨n,b,f,j.pre e a.size,Rf e a⟩
theorem pB(P:EF D B bd d w)(G:Gn B w){a b c:Nat}{fn:FuncId}(j:fn=25/\k=1\/fn=26/\k=2){o:OA}{p:Nat}{ta:Value}(S:Bh 3 w (.slice o 3 p) [(a:Int),(b:Int),(c:Int)])(I:∀i,Value.blk (.slice o 3 p)=some i->¬D i)(r:d.s.isSome=true):
  El PP fn #[.pointer (some ⟨bd,0,none⟩),.slice o 3 p,ta] w (GG D B bd w (CY d (Ly a k b c [] 0 0))) (FW D B bd w d (CY d (Ly a k b c [] 0 0))):=by
 have J:=S.blkN (by simp);obtain⟨Q,z,E⟩:=J
 have f:∀i,Value.blk (.slice o 3 p)=some i->¬(D i\/w.heap.size<=i):=λi hi=>by
  have h:=I i hi;rw[z]at hi;have:=QL hi;rintro(q|q)
  ·exact h q
  ·omega
 have K:∀u,Fr (λ_=>False) w u->El PP 56 #[.pointer (some ⟨bd,0,none⟩),agg (⟨a,k,⟨0,b,c,⟨none,0,0⟩,0,0⟩⟩:Ay)] u (GG (gR D w u) B bd u (CY d (Ly a k b c [] 0 0))) (FW (gR D w u) B bd u d (CY d (Ly a k b c [] 0 0))):=λu e=>by
  have A:((k:Nat):Int)≠4:=by rcases j with⟨_,rfl⟩|⟨_,rfl⟩<;>decide
  exact eW (P.ext e) (G.next (Fr.fr e)) (x:=⟨a,k,⟨0,b,c,⟨none,0,0⟩,0,0⟩⟩) (y:=Ly a k b c [] 0 0) rfl (λh=>absurd h A) (λ_=>⟨rfl,rfl,⟨rfl,rfl,rfl,AQ.nil _,rfl,rfl⟩⟩) (XE _) (λs r=>(by cases r)) r
 rcases j with⟨rfl,rfl⟩|⟨rfl,rfl⟩
 all_goals
  refine HB Aa rfl ?_;refine dD (λi=>D i\/w.heap.size<=i) (Hn 14 0) λu e=>CL (i:=0) (x:=(a:Int)) (Bh.up (w':=u) S).1 rfl λF H l m=>AP (l.cell0 rfl) (f _ m) (CL (i:=1) (x:=(b:Int)) (Bh.up (w':=u) S).1 rfl λF H l m=>AP (l.cell0 rfl) (f _ m) (CL (i:=2) (x:=(c:Int)) (Bh.up (w':=u) S).1 rfl λF H l m=>AP (l.cell0 rfl) (f _ m) (As (cs:=[.int .i64 0,.int .i64 (b:Int),.int .i64 (c:Int),.slice none 0 0,.int .i64 0,.int .i64 0]) rfl (As (cs:=enc (⟨a,_,⟨0,b,c,⟨none,0,0⟩,0,0⟩⟩:Ay)) rfl (AO (K u e.e) ?_ ?_)))))
  ·rintro v L h;have q:=h.pre e.e;obtain⟨t,d',M,C,rfl,N,h5⟩:=q;obtain⟨_,_,_,_,_,_,O⟩:=h;exact⟨O.mono λi _ hi=>hi.imp id λh=>h.1,⟨t,d',M,C,rfl,N,h5⟩⟩
  ·rintro c2 L h;exact Mq rfl rfl (h.pre e.e)
theorem xP(P:EF D B bd d w)(G:Gn B w){a b c:Nat}{p:OA}{q:Nat}{ta:OA}{o tc:Nat}{f:List Tx}(S:Bh 3 w (.slice p 4 q) [(a:Int),(b:Int),(c:Int),(k:Int)])(J:∀i,Value.blk (.slice p 4 q)=some i->¬D i)
  (T:AQ w (.slice ta o tc) (Ej f))(K:f.length<=1000000)(L:∀t∈f,t.length<=1000000)(z:d.s.isSome=true):
  El PP 27 #[.pointer (some ⟨bd,0,none⟩),.slice p 4 q,.slice ta o tc] w (GG D B bd w (CY d (Ly a 3 b 0 (f.map AS) c k))) (FW D B bd w d (CY d (Ly a 3 b 0 (f.map AS) c k))):=by
 have A:=S.blkN (by simp);obtain⟨W,C,I⟩:=A
 have j:∀i,Value.blk (.slice p 4 q)=some i->¬(D i\/w.heap.size<=i):=λi hi=>by
  have h:=J i hi;rw[C]at hi;have:=QL hi;rintro(r|r)
  ·exact h r
  ·omega
 have M:∀u,Fr (λ_=>False) w u->El PP 56 #[.pointer (some ⟨bd,0,none⟩),agg (⟨a,3,⟨0,b,0,⟨ta,o,tc⟩,c,k⟩⟩:Ay)] u (GG (gR D w u) B bd u (CY d (Ly a 3 b 0 (f.map AS) c k))) (FW (gR D w u) B bd u d (CY d (Ly a 3 b 0 (f.map AS) c k))):=λu e=>by
  refine eW (P.ext e) (G.next (Fr.fr e)) (x:=⟨a,3,⟨0,b,0,⟨ta,o,tc⟩,c,k⟩⟩) (y:=Ly a 3 b 0 (f.map AS) c k) rfl (λh=>absurd h (show ¬(3:Int)=4 by decide)) (λ_=>⟨rfl,rfl,⟨rfl,rfl,rfl,AQ.ext T e,rfl,rfl⟩⟩) ?_ (λs z=>?_) z
  ·show(f.map AS).length<=_;rw[Qr];exact K
  ·have A:=Qq.1 (show s∈f.map AS from z);obtain⟨t,N,rfl⟩:=A;show(⟨t.toArray⟩:ByteArray).size<=_;rw[AM];exact L t N
 refine HB Aa rfl ?_;refine dD (λi=>D i\/w.heap.size<=i) (Hn 18 0) λu e=>CL (i:=0) (x:=(a:Int)) (Bh.up (w':=u) S).1 rfl λE F l m=>AP (l.cell0 rfl) (j _ m) (CL (i:=1) (x:=(b:Int)) (Bh.up (w':=u) S).1 rfl λE F l m=>AP (l.cell0 rfl) (j _ m) (CL (i:=2) (x:=(c:Int)) (Bh.up (w':=u) S).1 rfl λE F l m=>AP (l.cell0 rfl) (j _ m) (CL (i:=3) (x:=(k:Int)) (Bh.up (w':=u) S).1 rfl λE F l m=>AP (l.cell0 rfl) (j _ m) (As (cs:=[.int .i64 0,.int .i64 (b:Int),.int .i64 0,.slice ta o tc,.int .i64 (c:Int),.int .i64 (k:Int)]) rfl (As (cs:=enc (⟨a,3,⟨0,b,0,⟨ta,o,tc⟩,c,k⟩⟩:Ay)) rfl (AO (M u e.e) ?_ ?_))))))
 ·rintro v O h;have r:=h.pre e.e;obtain⟨t,d',Q,H,rfl,U,h5⟩:=r;obtain⟨_,_,_,_,_,_,V⟩:=h;exact⟨V.mono λi _ hi=>hi.imp id λh=>h.1,⟨t,d',Q,H,rfl,U,h5⟩⟩
 ·rintro c2 O h;exact Mq rfl rfl (h.pre e.e)
theorem zIm(P:EF D B bd d w)(G:Gn B w){a:Nat}{e:OA}{f:Nat}{ta:Value}(S:Bh 3 w (.slice e 1 f) [(a:Int)])(b:d.s.isSome=true):
  El PP 28 #[.pointer (some ⟨bd,0,none⟩),.slice e 1 f,ta] w (GG D B bd w (CY d ⟨a,4,L3⟩)) (FW D B bd w d (CY d ⟨a,4,L3⟩)):=by
 refine HB Aa rfl ?_;refine Bv (i:=0) (x:=(a:Int)) S.1 rfl λp q j=>AF (j.cell0 rfl) (AJ (cs:=enc (⟨a,4,⟨0,0,0,⟨none,0,0⟩,0,0⟩⟩:Ay)) rfl (AO (eW P G (x:=⟨a,4,⟨0,0,0,⟨none,0,0⟩,0,0⟩⟩) (y:=⟨a,4,L3⟩) rfl (λ_=>rfl) (λh=>absurd rfl h) (XE _) (λs b=>(by cases b)) b) ?_ ?_))
 ·rintro v l ⟨t,d',m,c,rfl,o,h5⟩;exact⟨t,d',m,c,rfl,o,h5⟩
 ·rintro c2 l h;exact h
theorem iI{fn fs:FuncId}(e:fn=30/\fs=60\/fn=31/\fs=61\/fn=32/\fs=62)(P:EF D B bd d w)(G:Gn B w){l:List Int}{q ta:Value}
  (t:∀R bs B' g c s,d.s=some (g,c,s)->BB R B' w bs g c s->Sp PP fs #[.pointer (some ⟨bs,0,none⟩)] w λv w'=>AD w.heap.size 3 w' v l/\AC w w')(h:d.s.isSome=true)(y:l.length<=1000000)(j:∀x∈l,-9223372036854775808<=x/\x<=9223372036854775807){r:Except Int (Tx×DF)}(z:r=.ok (EA l,d)):
  El PP fn #[.pointer (some ⟨bd,0,none⟩),q,ta] w (GG D B bd w r) (FW D B bd w d r):=by
 have A:=P;obtain⟨R,ev,gw,cw,X,sp,I⟩:=P
 cases a:d.s with
 |none=>rw[a]at h;cases h
 |some p =>
 obtain⟨g,c,s⟩:=p;have b:=I.srv;rw[a]at b;obtain⟨bs,B',rfl,F,C⟩:=b;have f:=t R bs B' g c s a C;rcases e with⟨rfl,rfl⟩|⟨rfl,rfl⟩|⟨rfl,rfl⟩
 all_goals
  refine HB Aa rfl ?_;refine rX I.blk rfl (AA f ?_);rintro v w1 ⟨O,H⟩;have E:=O.shape;obtain⟨J,K,rfl⟩:=E;refine AA (mW (G.at.up (w':=w1)) O.sl j y) ?_;rintro _ w2 ⟨rfl,L⟩;have m:=HV A (w':=w2) stp;have o:=mT j;exact⟨_,_,z,by omega,rfl,m.1,m.2⟩
end
section
variable {D:Nat->Prop} {B bd:Nat} {d:DF} {w w' u:World} {R:Nat->Prop} {ev:SV} {gw cw:Nat} {X:List SV} {sp:OA}
theorem zZ(P:EF D B bd d w)(G:Gn B w){K:OA}{L M:Nat}{ta:Value}{l:List Int}{N:List Tx}(S:Bh 3 w (.slice K L M) l)(hS:l≠[]->∀i,Value.blk (.slice K L M)=some i->¬D i)(hs:d.s.isSome=true):
  El PP 29 #[.pointer (some ⟨bd,0,none⟩),.slice K L M,ta] w (GG D B bd w (EW d .tick l N)) (FW D B bd w d (EW d .tick l N)):=by
 have P0:=P;obtain⟨R,ev,gw,cw,X,sp,I⟩:=P
 cases q:d.s with
 |none=>rw[q]at hs;cases hs
 |some p =>
 obtain⟨g,c,s⟩:=p;have A:=I.srv;rw[q]at A;obtain⟨bs,B',rfl,hB,Q⟩:=A;have j:=CU.reg Q
 have a1:(Ck g c s).length<=64:=by
  have:=zPN Q;rw[rN,Qr]at this;exact this
 have hr:EW d .tick l N=.ok (EO ((Ck g c s).map Da) [44,32],{ d with s:=some (g,c,(Eq g c s).1) }):=by unfold EW;rw[q]
 refine HB Aa rfl ?_;refine rX I.blk rfl ?_
 refine AA (zIK (ps:=l) Q hB λu f=>by
  by_cases h0:l=[]
  ·have o:=S.1;obtain⟨a,c,h1,T,_⟩:=o;exact⟨a,c,h1,T,.inl h0⟩
  ·exact(S.fr f λb cs z hb _ hR=>hS h0 b hb (I.RD b hR)).1) ?_
 rintro v w1 ⟨R2,O,a2,U,V,F⟩;have J:=I.went rfl hB F U V;rw[rN,VM]at O;have o:=O.shape;obtain⟨aa,ac,rfl⟩:=o;have z1:=F.size;have F1:Fr D w w1:=F.mono λi _ hi=>I.RD i hi;have G1:Gn B w1:=G.next (F.mono λi _ hi=>(I.reg i (I.RD i hi)).1);have a3:((Ck g c s).map (AS ∘ Ga)).length=(Ck g c s).length:=Qr ..;refine cO 18 [9] 7 17 (Ck g c s).length (λk v u=>AD w1.heap.size 9 u v (Ej (((Ck g c s).take k).map Da))/\AC w1 u) ?_ ?_
 ·exact⟨AD.nil _ _ _,stp⟩
 rintro k v G2 u hk ⟨H,su⟩;have C:∀p∈Ck g c s,BG (BN p.1 p.2.1 p.2.2) p.2.2.hits:=λp W=>(zL9 j.2.1.ok j.2.2.1 j.2.2.2 W).1;refine ite (λAY=>?_) (λa4=>?_)
 ·have r:k<(Ck g c s).length:=by omega
  have o:∃y,y=(Ck g c s)[k]:=⟨_,rfl⟩;obtain⟨y,Y⟩:=o;have Z:=C y (by rw[Y];exact Qa _);refine Bv (O.sl.up (w':=u)) (i:=k) (x:=AS (Ga y)) (by rw[QK,Qd r,<-Y];rfl) λb4 o4 A4=>AF (A4.cell0 rfl) (AA (tH Z (G1.at.up (w':=u))) ?_);rintro _ u5 ⟨rfl,e5⟩;refine bS (⟨(Da y).toArray⟩:ByteArray) λb6 u6 e6 _ S6=>Ax (u:=w1) ⟨rfl,rfl⟩ ((H.up (w':=u5)).up (w':=u6)) S6 (by rw[Qr,Qr,Qm];omega) λv7 u7 O7 f7 s7=>?_;have t7:AC w1 u7:=stp;have e:Ej (((Ck g c s).take (k+1)).map Da)=Ej (((Ck g c s).take k).map Da)++[(⟨(Da y).toArray⟩:ByteArray)]:=by rw[Cs r,QB,Ug,<-Y];rfl
  rw[<-e]at O7;exact rA ⟨rfl,r,O7,t7⟩
 ·have a0:k=(Ck g c s).length:=by omega
  rw[a0,Qg]at H;have o:=H.shape;obtain⟨ba,bc,rfl⟩:=o
  have hj:=Wo (sep:=[44,32]) (m:=10000) (l:=(Ck g c s).map Da) λt ht=>by
   have o:=Qq.1 ht;obtain⟨p,W,rfl⟩:=o;have h:=C p W;exact qQ h.2.2.2.2.2.2.2 h.2.2.2.1 rfl h
  rw[Qr]at hj;have T:([44,32]:Tx).length=2:=rfl;rw[T]at hj;refine AA (wJ H.sl (sep:=[44,32]) (by omega) (by rw[Qr];omega)) ?_;rintro _ u5 ⟨rfl,e5⟩;have t5:AC w1 u5:=stp
  have E:(EO ((Ck g c s).map Da) [44,32]).length<=100000000:=by
   unfold EO;split
   ·simp
   ·omega
  exact⟨_,_,hr,E,rfl,EF.next (w1:=w1) ⟨_,_,_,_,_,_,J⟩ t5.e (by omega),F1.trans (Fr.fr t5.e)⟩
end
theorem Hf{k:KW}{a:PW}{o:Oper}{F:Nat->Value}{s:Sem Unit}(e:execOp (ev F) o=(do s;pure Next.skip))(h:Ed P s k a w):DT P (execOp (ev F) o) k a w:=by
 have c:(do s;pure Next.skip:Sem Next).run P w=(s.run P w).andThen λ_ w'=>.ok .skip w':=by rw[Qo];rfl
 rw[Si,e,c];rw[bB]at h
 cases b:s.run P w with
 |ok v w'=>rw[b]at h;exact h
 |halt x w'=>rw[b]at h;cases x<;>exact h
def Sq:Ln->FuncId
 |.graph=>19
 |.edge=>20
 |.word=>21
 |.path=>22
 |.hubs=>23
 |.server=>24
 |.dist=>25
 |.reach=>26
 |.near=>27
 |.cancel=>28
 |.tick=>29
 |.live=>30
 |.held=>31
 |.waits=>32
def Lu:Ln->Tx
 |.near=>[110,110,110,110,116,43]
 |.tick=>[42]
 |k=>CS k
theorem yL(k:Ln):∃a,LV (Lu k) 43=(a,Cl k)/\LV a 42=(CS k,Cc k):=by
 cases k<;>exact⟨_,rfl,rfl⟩
theorem zOU(k:Ln):(Lu k).length<=100:=by cases k<;>decide
def CC (k:Ln):List Value:=[.func (.func (Sq k)) #[] #[],Ag (Lu k),.bool (CV k)]
def aU (k:Ln):Value:=.agg (CC k).toArray
def Li:List (ByteArray×Value):=Pb.map λk=>(AS (AZ k),aU k)
theorem sU(s:Tx):∀l:List Ln,Au (l.map λk=>(AS (AZ k),aU k)) (AS s)=(l.find? λk=>decide (AZ k=s)).map aU
 |[]=>rfl
 |k::r=>by
  rw[QS,PJ,sU s r,List.find?_cons];by_cases h:AZ k=s
  ·rw[if_pos (by rw[h]),decide_eq_true h];rfl
  ·rw[if_neg (λe=>h (ST e).symm),decide_eq_false h]
theorem wZ(s:Tx):Au Li (AS s)=(IT s).map aU:=sU s Pb
theorem jM:Sp PP 12 #[] w λv w'=>(∃b,v=.map (some b)/\BO PP 9 w' b Li/\w.heap.size<=b)/\AC w w':=by
 refine eN ?_;refine K0 (kt:=9) (κ:=ByteArray) rfl λx w1 n1 y=>AJ (cs:=CC .graph) rfl (Hf rfl (Cv y (AS (AZ .graph)) rfl λw2 z A _=>?_));refine AJ (cs:=CC .edge) rfl (Hf rfl (Cv z (AS (AZ .edge)) rfl λY C E _=>?_));refine AJ (cs:=CC .word) rfl (Hf rfl (Cv C (AS (AZ .word)) rfl λZ F G _=>?_));refine AJ (cs:=CC .path) rfl (Hf rfl (Cv F (AS (AZ .path)) rfl λw5 H I _=>?_));refine AJ (cs:=CC .hubs) rfl (Hf rfl (Cv H (AS (AZ .hubs)) rfl λw6 J K _=>?_));refine AJ (cs:=CC .server) rfl (Hf rfl (Cv J (AS (AZ .server)) rfl λw7 L M _=>?_));refine AJ (cs:=CC .dist) rfl (Hf rfl (Cv L (AS (AZ .dist)) rfl λw8 N O _=>?_));refine AJ (cs:=CC .reach) rfl (Hf rfl (Cv N (AS (AZ .reach)) rfl λw9 Q R _=>?_));refine AJ (cs:=CC .near) rfl (Hf rfl (Cv Q (AS (AZ .near)) rfl λS a c _=>?_));refine AJ (cs:=CC .cancel) rfl (Hf rfl (Cv a (AS (AZ .cancel)) rfl λT d e _=>?_));refine AJ (cs:=CC .tick) rfl (Hf rfl (Cv d (AS (AZ .tick)) rfl λU f h _=>?_));refine AJ (cs:=CC .live) rfl (Hf rfl (Cv f (AS (AZ .live)) rfl λV j m _=>?_));refine AJ (cs:=CC .held) rfl (Hf rfl (Cv j (AS (AZ .held)) rfl λW o p _=>?_));refine AJ (cs:=CC .waits) rfl (Hf rfl (Cv o (AS (AZ .waits)) rfl λX q r _=>?_));have s:=((((((((((((A.trans E).trans G).trans I).trans K).trans M).trans O).trans R).trans c).trans e).trans h).trans m).trans p).trans r;have t:=n1.lo (u:=w);exact⟨⟨x,rfl,q.l,t⟩,⟨Fr.st (lE w w1) s λi hi=>by omega⟩⟩
theorem uO{bo:Nat}:Lm PP 35 #[.pointer (some ⟨bo,0,none⟩)] .returning w λu' w'=>u'=.returning/\w'=w:=by
 refine Lm.enter Aa rfl rfl rfl rfl rfl rfl rfl (λ_ _=>rfl) rfl rfl ?_;refine Sx ?_;exact⟨rfl,rfl,rfl⟩
theorem tZ{bo:Nat}{e:Int}{t:Tx}(G:HY w)(c:Bk w bo [Ag t] 9)(b:-9223372036854775808<=e/\e<=9223372036854775807):
  Lm PP 35 #[.pointer (some ⟨bo,0,none⟩)] (.panicking (NF e)) w λu' w'=>settle u'=.returning/\Bk w' bo [Ag (Ih e)] 9/\Fr (λi=>i=bo) w w':=by
 have j:=Mj b;refine Lm.enter Aa rfl rfl rfl rfl rfl rfl rfl (λ_ _=>rfl) rfl rfl ?_;refine Tu (AA (TD G b) ?_);rintro _ w1 ⟨rfl,d⟩;refine Ic (a:=⟨[101,114,114,111,114,32].toArray⟩) (by simp only[AM,QA,QZ];omega) ?_;rw[SE];refine rS (c.mv (w:=w1)) [Ag (Ih e)] (Wx _) λw2 f h _=>?_;exact⟨rfl,rfl,f,(Fr.fr d.e).trans h⟩
section
variable {D:Nat->Prop} {B bd:Nat} {d:DF} {w w' u:World} {R:Nat->Prop} {ev:SV} {gw cw:Nat} {X:List SV} {sp:OA}
theorem EF.away(P:EF D B bd d w){Z:Nat->Prop}(f:Fr Z w w')(a:∀i,Z i->¬D i):EF D B bd d w':=by
 obtain⟨R,ev,gw,cw,X,sp,I⟩:=P;have c:=f.size;refine⟨R,ev,gw,cw,X,sp,⟨λi hi=>?_,I.bdD,I.blk.fr f (λh=>a _ h I.bdD),I.es.fr f λb _ hb h=>a b h (I.esD b hb),I.esD,?_,I.gwD,I.wsD,I.chk,I.RD,I.Rbd,I.Res,I.Rgw,I.Rws,I.srvR f λi hi e=>a i hi (I.RD i e)⟩⟩
 ·have:=I.reg i hi;omega
 ·exact⟨I.ws.row.fr f λb _ hb h=>by have:=QL hb;subst this;exact a _ h I.gwD,I.ws.len,λv z h=>(I.ws.own v z h).fr f λb _ hb j=>a b j (I.wsD v z b h hb),λv z b h hb=>QJ (I.ws.lt v z b h hb) c,I.ws.apart⟩
theorem EF.up[L:Le w w'](P:EF D B bd d w):EF D B bd d w':=P.away L.e λ_ h=>h.elim
theorem EF.reg(P:EF D B bd d w):∀i,D i->B<=i/\i<w.heap.size:=by
 obtain⟨R,ev,gw,cw,X,sp,I⟩:=P;exact I.reg
theorem EF.lo(P:EF D B bd d w):B<=w.heap.size:=by
 obtain⟨R,ev,gw,cw,X,sp,I⟩:=P;have:=I.reg _ I.bdD;omega
theorem EF.wide{Z:Nat->Prop}(P:EF D B bd d w)(h:∀i,D i->Z i)(a:∀i,Z i->B<=i/\i<w.heap.size):EF Z B bd d w:=by
 obtain⟨R,ev,gw,cw,X,sp,I⟩:=P;exact⟨R,ev,gw,cw,X,sp,I.wide h a⟩
theorem EF.none(P:EF D B bd d w):∃n es b p,Bk w bd [n,es,b,.pointer p] 38/\(p.isNone=d.s.isNone):=by
 obtain⟨R,ev,gw,cw,X,sp,I⟩:=P;refine⟨_,_,_,sp,I.blk,?_⟩;have h:=I.srv
 cases a:d.s with
 |none=>rw[a]at h;rw[h.1];rfl
 |some p =>
  obtain⟨g,c,s⟩:=p;rw[a]at h;obtain⟨bs,B',e,_⟩:=h;rw[e];rfl
end
theorem XF{least:Tx}{a:Bool}{s:Tx}{r:List Tx}(h:least[i]? = some 110):BJ least a i (s::r)=match Bx s with
  |none=>none
  |some x=>(BJ least a (i+1) r).map λp=>(x::p.1,p.2):=by
 have hi:i<least.length:=(Qy.1 h).1
 have h0:¬((i<least.length/\least[i]? = some 116)\/(least.length<=i/\a=true)):=by
  rintro(⟨_,b⟩|⟨b,_⟩)
  ·rw[h]at b;exact absurd b (by decide)
  ·omega
 rw[YC,if_neg h0,if_neg (by omega)];cases Bx s<;>rfl
theorem tV{least:Tx}{a:Bool}:∀(l:List Tx) (i:Nat) (p:List Int×List Tx),(∀j,i<=j->j<i+l.length->least[j]? = some 110)->BJ least a i l=some p->p.2=[]/\p.1.length=l.length/\∀x∈p.1,0<=x/\x<=1000000
 |[],i,p,_,h=>by cases h;simp
 |s::r,i,p,e,h=>by
  rw[XF (e i (Qe _) (by simp))]at h
  cases b:Bx s with
  |none=>rw[b]at h;cases h
  |some x =>
   rw[b]at h;have c:=Vo.1 h;obtain⟨q,f,rfl⟩:=c;have:=tV r (i+1) q (λj m o=>e j (by omega) (by simp;omega)) f
   exact⟨this.1,by simp[this.2.1],λy d=>by
    have c:=Ql.1 d;rcases c with rfl|d
    ·exact WZ b
    ·exact this.2.2 y d⟩
theorem nJ{least:Tx}:∀(l:List Tx) (i:Nat),least.length<=i->BJ least true i l=some ([],l)
 |[],_,_=>rfl
 |s::r,i,h=>by
  rw[YC,if_pos (.inr ⟨h,rfl⟩),nJ r (i+1) (by omega)];rfl
theorem CM{x:Int}(h:0<=x/\x<=1000000):∃n:Nat,x=n/\n<=1000000:=⟨x.toNat,by omega,by omega⟩
theorem Vx{least:Tx}{l:List Tx}{p:List Int×List Tx}(c:∀j,j<least.length->least[j]? = some 110)(h:Bf least false false l=some p):p.2=[]/\p.1.length=least.length/\∀x∈p.1,0<=x/\x<=1000000:=by
 unfold Bf at h;split at h
 ·cases h
 ·rename_i b
  have a:l.length=least.length:=by
   have d:¬l.length<least.length:=λh=>b (.inl h);have e:¬least.length<l.length:=λh=>b (.inr ⟨h,rfl,rfl⟩);omega
  have:=tV l 0 p (λj _ d=>c j (by omega)) h;rw[a]at this;exact this
theorem zNA{l:List Tx}{p:List Int×List Tx}(h:Bf [110,116] false false l=some p):∃(a:Nat) (t:Tx),a<=1000000/\p=([(a:Int)],[t])/\t∈l:=by
 unfold Bf at h;split at h
 ·cases h
 ·rename_i b
  match l,b,h with
  |[],b,_=>exact absurd (.inl (by decide)) b
  |[_],b,_=>exact absurd (.inl (by simp)) b
  |[s,t],_,h =>
   rw[XF rfl]at h
   cases c:Bx s with
   |none=>rw[c]at h;cases h
   |some x =>
    rw[c]at h;have d:=CM (WZ c);obtain⟨a,rfl,e⟩:=d;rw[YC,if_pos (.inl ⟨by decide,rfl⟩)]at h;cases h;exact⟨a,t,e,rfl,by simp⟩
  |_::_::_::_,b,_=>exact absurd (.inr ⟨by simp,rfl,rfl⟩) b
theorem zNz{l:List Tx}{p:List Int×List Tx}(h:Bf [110,110,110,110,116] true false l=some p):∃(a b c k:Nat),p.1=[(a:Int),(b:Int),(c:Int),(k:Int)]/\(∀t∈p.2,t∈l)/\p.2.length<=l.length/\a<=1000000/\b<=1000000/\c<=1000000/\k<=1000000:=by
 unfold Bf at h;split at h
 ·cases h
 ·rename_i d
  match l,d,h with
  |[],d,_=>exact absurd (.inl (by decide)) d
  |[_],d,_=>exact absurd (.inl (by simp)) d
  |[_,_],d,_=>exact absurd (.inl (by simp)) d
  |[_,_,_],d,_=>exact absurd (.inl (by simp)) d
  |[_,_,_,_],d,_=>exact absurd (.inl (by simp)) d
  |s1::s2::s3::s4::s5::r,_,h =>
   have o:BJ [110,110,110,110,116] true 4 (s5::r)=some ([],s5::r):=by
    rw[YC,if_pos (.inl ⟨by decide,rfl⟩),nJ r 5 (by decide)];rfl
   rw[XF rfl]at h
   cases d:Bx s1 with
   |none=>rw[d]at h;cases h
   |some x =>
   rw[d,XF rfl]at h
   cases f:Bx s2 with
   |none=>rw[f]at h;cases h
   |some y =>
   rw[f,XF rfl]at h
   cases j:Bx s3 with
   |none=>rw[j]at h;cases h
   |some z =>
   rw[j,XF rfl]at h
   cases m:Bx s4 with
   |none=>rw[m]at h;cases h
   |some A =>
   rw[m,o]at h;have e:=CM (WZ d);obtain⟨a,rfl,q⟩:=e;have e:=CM (WZ f);obtain⟨b,rfl,hb⟩:=e;have e:=CM (WZ j);obtain⟨c,rfl,s⟩:=e;have e:=CM (WZ m);obtain⟨k,rfl,u⟩:=e;cases h;exact⟨a,b,c,k,rfl,λt (v:t∈s5::r)=>QF _ (QF _ (QF _ (QF _ v))),(by show(s5::r).length<=_;simp),q,hb,s,u⟩
section
variable {D:Nat->Prop} {B bd:Nat} {d:DF} {w w' u:World}
theorem EF.srvOk(P:EF D B bd d w){c:DN}{s:ES}(h:d.s=some (g,c,s)):Km c/\DX g c s:=by
 obtain⟨R,ev,gw,e,X,f,I⟩:=P;have a:=I.srv;rw[h]at a;obtain⟨bs,B',_,_,b⟩:=a;exact⟨(CU.reg b).2.2.1,(CU.reg b).2.2.2⟩
theorem x6(k:Ln)(P:EF D B bd d w)(G:Gn B w){l:List Tx}{p:List Int×List Tx}(F:Bf (CS k) (Cl k) (Cc k) l=some p){W ta:OA}{X Y Z tc C:Nat}(S:AD C 3 w (.slice W X Y) p.1)(T:AD C 9 w (.slice ta Z tc) (Ej p.2))(hC:∀i,D i->i<C)
  (hl:l.length<=1000000)(hw:∀t∈l,t.length<=1000000)(I:CV k=true->d.s.isSome=true):
  El PP (Sq k) #[.pointer (some ⟨bd,0,none⟩),.slice W X Y,.slice ta Z tc] w (GG D B bd w (EW d k p.1 p.2)) (FW D B bd w d (EW d k p.1 p.2)):=by
 have V:p.1≠[]->∀i,Value.blk (.slice W X Y)=some i->¬D i:=λh0 i hi hd=>by
  have e:=S.lt h0;obtain⟨b,A,z,_⟩:=e;rw[hi]at A;have:=QL A;have:=hC i hd;omega
 have hT:p.2≠[]->∀i,Value.blk (.slice ta Z tc)=some i->¬D i:=λh0 i hi hd=>by
  obtain⟨b,A,z,_⟩:=T.lt (by intro h;exact h0 (List.map_eq_nil_iff.1 h));rw[hi]at A;have:=QL A;have:=hC i hd;omega
 have v:=S.sl.len;have a0:=T.sl.len;have r:=S.y;have a6:=T.y;obtain⟨J,p2⟩:=p
 cases k with
 |graph =>
  have e:=Vx (least:=[110]) (by decide) F;obtain⟨A,z,m⟩:=e
  match J,z with
  |[x],_ =>
   have e:=CM (m x (by simp));obtain⟨a,rfl,K⟩:=e;subst v;exact zJH P r K
 |edge =>
  have e:=Vx (least:=[110,110]) (by decide) F;obtain⟨A,z,m⟩:=e
  match J,z with
  |[x,y],_ =>
   have e:=CM (m x (by simp));obtain⟨a,rfl,K⟩:=e;have e:=CM (m y (by simp));obtain⟨b,rfl,hb⟩:=e;subst v;exact zKh P r K hb
 |word =>
  have e:=zNA F;obtain⟨a,t,K,L,ht⟩:=e;cases L;subst v;subst a0;exact zKo P r a6 (hT (by simp)) K (hw t ht)
 |path =>
  have e:=Vx (least:=[110,110]) (by decide) F;obtain⟨A,z,m⟩:=e
  match J,z with
  |[x,y],_ =>
   have e:=CM (m x (by simp));obtain⟨a,rfl,K⟩:=e;have e:=CM (m y (by simp));obtain⟨b,rfl,hb⟩:=e;subst v;exact zKk P G.at r.1 K hb
 |hubs=>exact zKi P G.at
 |server =>
  have e:=Vx (least:=[110,110,110,110,110]) (by decide) F;obtain⟨A,z,m⟩:=e
  match J,z with
  |[M,N,O,x4,x5],_ =>
   have e:=CM (m M (by simp));obtain⟨a1,rfl,_⟩:=e;have e:=CM (m N (by simp));obtain⟨a2,rfl,_⟩:=e;have e:=CM (m O (by simp));obtain⟨a3,rfl,_⟩:=e;have e:=CM (m x4 (by simp));obtain⟨a4,rfl,_⟩:=e;have e:=CM (m x5 (by simp));obtain⟨a5,rfl,_⟩:=e;subst v;exact zO P r
 |dist =>
  have e:=Vx (least:=[110,110,110]) (by decide) F;obtain⟨A,z,m⟩:=e
  match J,z with
  |[M,N,O],_ =>
   have e:=CM (m M (by simp));obtain⟨a1,rfl,_⟩:=e;have e:=CM (m N (by simp));obtain⟨a2,rfl,_⟩:=e;have e:=CM (m O (by simp));obtain⟨a3,rfl,_⟩:=e;subst v;exact pB P G (.inl ⟨rfl,rfl⟩) r (V (by simp)) (I rfl)
 |reach =>
  have e:=Vx (least:=[110,110,110]) (by decide) F;obtain⟨A,z,m⟩:=e
  match J,z with
  |[M,N,O],_ =>
   have e:=CM (m M (by simp));obtain⟨a1,rfl,_⟩:=e;have e:=CM (m N (by simp));obtain⟨a2,rfl,_⟩:=e;have e:=CM (m O (by simp));obtain⟨a3,rfl,_⟩:=e;subst v;exact pB P G (.inr ⟨rfl,rfl⟩) r (V (by simp)) (I rfl)
 |near =>
  have e:=zNz F;obtain⟨a,b,c,k,L,hm,Q,_⟩:=e;have L:J=[(a:Int),(b:Int),(c:Int),(k:Int)]:=L;subst L;subst v;exact xP P G r (V (by simp)) T.sl (Qw Q hl) (λt ht=>hw t (hm t ht)) (I rfl)
 |cancel =>
  have e:=Vx (least:=[110]) (by decide) F;obtain⟨A,z,m⟩:=e
  match J,z with
  |[x],_ =>
   have e:=CM (m x (by simp));obtain⟨a,rfl,K⟩:=e;subst v;exact zIm P G r (I rfl)
 |tick =>
  exact zZ P G r V (I rfl)
 |live =>
  have f:=I rfl
  cases j:d.s with
  |none=>rw[j]at f;cases f
  |some q =>
   obtain⟨g,c,s⟩:=q;have E:=P.srvOk j;refine iI (l:=(List.range c.workers).map λk=>(DG g c.workers s.held k:Int)) (.inl ⟨rfl,rfl⟩) P G (λR bs B' g2 c2 s2 h U=>?_) f ?_ (λx H=>?_) (by unfold EW;rw[j])
   ·rw[j]at h;cases h;exact zIJ U
   ·rw[Qr,Vm];have:=E.1.workers;omega
   ·have e:=Qq.1 H;obtain⟨k,a7,rfl⟩:=e;have a8:=Q0.1 a7;have F:=E.1.pool;have:=E.2.pool
    have A:¬c.pool<DG g c.workers s.held k:=λh=>by
     have:=ZD.2 ⟨k,a8,h⟩;rw[E.2.pool]at this;cases this
    omega
 |held =>
  have f:=I rfl
  cases j:d.s with
  |none=>rw[j]at f;cases f
  |some q =>
   obtain⟨g,c,s⟩:=q;have E:=P.srvOk j;refine iI (l:=Bg s.held) (.inr (.inl ⟨rfl,rfl⟩)) P G (λR bs B' g2 c2 s2 h U=>?_) f ?_ (λx H=>?_) (by unfold EW;rw[j])
   ·rw[j]at h;cases h;exact yG U
   ·have A:=List.length_filterMap_le (λo:Option (Bt×Nat)=>o.map (·.1.id)) s.held;have z:=E.2.len;have m:=E.1.slots;unfold Bg;omega
   ·unfold Bg at H;have e:=List.mem_filterMap.1 H;obtain⟨o,ho,H⟩:=e;have e:=Vo.1 H;obtain⟨y,rfl,hy⟩:=e;have:=(E.2.held y.1 y.2 ho).1.id;rw[<-hy];omega
 |waits =>
  have f:=I rfl
  cases j:d.s with
  |none=>rw[j]at f;cases f
  |some q =>
   obtain⟨g,c,s⟩:=q;have E:=P.srvOk j;refine iI (l:=Cn s.wait) (.inr (.inr ⟨rfl,rfl⟩)) P G (λR bs B' g2 c2 s2 h U=>?_) f ?_ (λx H=>?_) (by unfold EW;rw[j])
   ·rw[j]at h;cases h;exact zH8 U
   ·have z:=E.2.wl;have m:=E.1.queue;unfold Cn;rw[Qr];omega
   ·unfold Cn at H;have e:=Qq.1 H;obtain⟨y,hy,rfl⟩:=e;have:=(E.2.wait y hy).id;omega
end
section
variable {D:Nat->Prop} {B bd:Nat} {d:DF} {w w' u:World}
def Ro (D:Nat->Prop) (B bd:Nat) (d:DF) (s:Tx) (w:World) (v:Value) (w':World):Prop:=(AT d s).1.length<=100000000/\v=Ag (AT d s).1/\EF (gR D w w') B bd (AT d s).2 w'/\Fr D w w'
theorem ZI{y:UInt8}:∀{s t:Tx},t∈Bj y s->t.length<=s.length
 |[],t,h=>by
  have h:t∈[[]]:=h;rw[Qc.1 h];exact Qe _
 |c::r,t,h=>by
  unfold Bj at h;split at h
  ·have a:=Ql.1 h;rcases a with rfl|h
   ·simp
   ·have:=ZI h;simp;omega
  ·split at h
   ·rw[Qc.1 h];simp
   ·rename_i p q b;have a:=Ql.1 h;rcases a with rfl|h
    ·have:=ZI (y:=y) (s:=r) (t:=p) (by rw[b];simp);simpa using this
    ·have:=ZI (y:=y) (s:=r) (t:=t) (by rw[b];exact QF _ h);simp;omega
theorem fn3(k:Ln):∀u∈CC k,u.oneCell'=true:=by intro u a;simp[CC]at a;rcases a with rfl|rfl|rfl<;>rfl
theorem vV{k : Ln}{n : List Int}{t : List Tx}{e : Int}(h : EW d k n t = .error e) : -9223372036854775808 <= e /\ e <= 9223372036854775807 := by
  have c : ∀ x, CY d x = .error e -> e = 0 \/ e = 1 := λx a => by
    unfold CY at a;split at a
    · cases a; exact .inl rfl
    · split at a
      · cases a
      · cases a; exact .inr rfl
  have f : e = 0 \/ e = 1 \/ e = 20 := by
    cases k<;>unfold EW at h<;>dsimp only at h
    all_goals first
      | (have b := c _ h; omega)
      | cases h
      | (split at h
         all_goals first
           | (have b := Except.error.inj h; omega)
           | cases h
           | (split at h
              all_goals first
                | (have b := Except.error.inj h; omega)
                | cases h))
  omega
theorem zKn(P:EF D B bd d w)(G:Gn B w){bm:Nat}(M:BO PP 9 w bm Li){s:Tx}(hs:s.length<=1000000):
  Sp PP 15 #[.pointer (some ⟨bd,0,none⟩),Ag s,.map (some bm)] w (Ro D B bd d s w):=by
 have b2:=P.lo;have j:=P.reg;refine eN ?_;refine Ap λbo w1 n1 Z1=>?_;have Z1:Bk w1 bo [Ag []] 9:=Z1;have a0:=n1.lo (u:=w);have b0:=Z1.lt;have z:¬D bo:=λh=>by have:=(j bo h).2;omega
 have ret:∀{R:Nat->Value} {u:World} {t:Tx} {d2:DF} {Z:Nat->Prop},Bk u bo [Ag t] 9->ev R (.tmp 6)=.pointer (some ⟨bo,0,none⟩)->EF Z B bd d2 u->(∀i,Z i->gR D w u i)->Fr D w u->AT d s=(t,d2)->t.length<=100000000 ->
   Cb PP Tryz.f15.results.toList R [{ target:=.fn (.func 35) #[.pointer (some ⟨bo,0,none⟩)],args:=#[] }] .returning (Ro D B bd d s w) (λ_ _=>False) u:=by
  intro R u t d2 Z Bo g6 F hZ A H a4;refine T5 (by simp) ⟨(uO (bo:=bo) (w:=u)).can,Sc (uO (bo:=bo) (w:=u)).calls ?_⟩;intro en u' w' X;have zF:=A.size
  cases en with
  |returned v =>
   obtain⟨rfl,rfl⟩:=X;refine Cg ?_;show Ek PP [.cell 6 _] [] R _ w';simp only[Ek,g6];refine FJ (B:=Bo) rfl ?_;refine⟨by rw[H];exact a4,by rw[H],?_,A⟩;rw[H]
   exact F.wide hZ λi hi=>by
    rcases hi with hi|hi
    ·have:=j i hi;omega
    ·omega
  |panicked c=>exact X
  |outgrown=>exact X
 have pan:∀{R:Nat->Value} {u:World} {t:Tx} {e:Int} {Z:Nat->Prop},Bk u bo [Ag t] 9->ev R (.tmp 6)=.pointer (some ⟨bo,0,none⟩)->EF Z B bd d u->(∀i,Z i->gR D w u i)->¬Z bo->Fr D w u->HY u->(-9223372036854775808<=e/\e<=9223372036854775807)->AT d s=(Ih e,d) ->
   Cb PP Tryz.f15.results.toList R [{ target:=.fn (.func 35) #[.pointer (some ⟨bo,0,none⟩)],args:=#[] }] (.panicking (NF e)) (Ro D B bd d s w) (λ_ _=>False) u:=by
  intro R u t e Z Bo g6 F hZ a0 A Gu he H;refine T5 (by simp) ⟨(tZ Gu Bo he).can,Sc (tZ Gu Bo he).calls ?_⟩;intro en u' w' X;have zF:=A.size
  cases en with
  |returned v =>
   obtain⟨h1,B',f'⟩:=X;have z':=f'.size;show Cb PP _ _ [] (settle u') _ _ w';rw[h1];refine Cg ?_;show Ek PP [.cell 6 _] [] R _ w';simp only[Ek,g6];refine FJ (B:=B') rfl ?_;refine⟨by rw[H];have:=Mj he;show(Ih e).length<=_;unfold Ih;simp only[Qb,QA,QZ];omega,by rw[H],?_,Fr.new A f' λi hi=>by omega⟩;rw[H];refine(F.away f' λi hi hz=>a0 (hi ▸ hz)).wide (λi hi=>(hZ i hi).imp id λh=>by omega) λi hi=>?_;rcases hi with hi|hi
   ·have:=j i hi;omega
   ·omega
  |panicked c=>exact X
  |outgrown=>exact X
 have hl:=Wr 32 s;have a5:=aT 32 s;refine AA (zHs (G.next (w':=w1) (fE w w1)).at (by omega) (y:=32)) ?_;rintro v w2 ⟨O2,e2⟩
 have I:∃h r,Bj 32 s=h::r:=by
  cases h:Bj 32 s with
  |nil=>exact absurd h a5
  |cons a b=>exact⟨a,b,rfl⟩
 obtain⟨h0,r,J⟩:=I;rw[J]at O2 hl;have C:r.length<=s.length:=by simp at hl;omega
 have I:=O2.shape;obtain⟨va,vc,rfl⟩:=I;refine Bv (i:=0) (x:=(⟨h0.toArray⟩:ByteArray)) O2.sl rfl λb3 o3 A3=>AF (A3.cell0 rfl) ?_;have a6:=wZ h0;refine Mn (M.up (w':=w2)) (AS h0) rfl ?_;rw[a6]
 cases hk:IT h0 with
 |none =>
  have l:AT d s=(GA,d):=by unfold AT;rw[J];dsimp only;rw[hk]
  refine Ap λbx w3 n3 X3=>?_;have a7:=n3.lo (u:=w);refine rS X3 [.nilFunc,Ag [],.bool false] (by intro u hu;simp at hu;rcases hu with rfl|rfl|rfl<;>rfl) λY X4 f4 _=>?_;have s4:AC w Y:=⟨Fr.st (lE w w3) f4 λi hi=>by omega⟩;have Z4:Bk Y bo [Ag []] 9:=(Z1.mv (w:=w3)).fr f4 (by have:=n3.lo (u:=w1);omega);refine rS Z4 [Ag GA] (Wx _) λE S f5 _=>?_;have Q:AC w E:=⟨Fr.st s4.e f5 λi hi=>by omega⟩;exact ret S rfl (P.up (w':=E)) (λi hi=>.inl hi) (Fr.fr Q.e) l (by decide)
 |some k =>
  have l:AT d s=match Bf (CS k) (Cl k) (Cc k) r with
   |none=>(GA,d)
   |some p=>if CV k=true/\d.s.isNone=true then(KH,d) else match EW d k p.1 p.2 with
    |.ok r=>r
    |.error e=>(Ih e,d):=by unfold AT;rw[J];dsimp only;rw[hk];rfl
  refine Ap λbx w3 n3 X3=>?_;have a7:=n3.lo (u:=w);refine rS X3 (CC k) (fn3 k) λY X4 f4 _=>?_;have X4:Bk Y bx (CC k) 58:=X4;have s4:AC w Y:=⟨Fr.st (lE w w3) f4 λi hi=>by omega⟩;have t4:AC w2 Y:=⟨Fr.st (lE w2 w3) f4 λi hi=>by have:=n3.lo (u:=w2);omega⟩;have Z4:Bk Y bo [Ag []] 9:=(Z1.mv (w:=w3)).fr f4 (by have:=n3.lo (u:=w1);omega);have z4:=s4.e.size;refine dQ 12 λu e=>Nf (B:=X4) (v:=Ag (Lu k)) rfl nf (ZJ (m:=1) (Bh.up (w':=u) O2.y) (by simp) rfl λa' c' SR b4=>?_);have I:=yL k;obtain⟨f1,a8,a9⟩:=I;have su:AC w u:=stp;have SR:AQ u (.slice a' _ c') (Ej r):=SR.1;refine AA (zJI (G.next (w':=u) (Fr.fr su.e)).at (zOU k) a8 a9 SR (λt H=>?_) (by omega)) ?_
  ·have:=ZI (y:=32) (s:=s) (t:=t) (by rw[J];exact QF _ H);omega
  rintro _ E ⟨hW,e5⟩;refine⟨e5.e,?_⟩;have Q:AC w E:=stp;have z5:=Q.e.size;have S:=Z4.mv (w:=E);have X5:=X4.mv (w:=E)
  cases hw:Bf (CS k) (Cl k) (Cc k) r with
  |none =>
   rw[hw]at hW l;have hW:_=Value.tuple #[.slice none 0 0,.slice none 0 0,.bool false]:=hW;subst hW;refine rS S [Ag GA] (Wx _) λf K f6 _=>?_;have s6:AC w f:=⟨Fr.st Q.e f6 λi hi=>by omega⟩;exact ret K rfl (P.up (w':=f)) (λi hi=>.inl hi) (Fr.fr s6.e) l (by decide)
  |some p =>
   rw[hw]at hW l;obtain⟨na,ta,rfl,On,Ot⟩:=hW
   have l:AT d s=if CV k=true/\d.s.isNone=true then(KH,d) else match EW d k p.1 p.2 with
    |.ok r=>r
    |.error e=>(Ih e,d):=l
   have I:=P.none;obtain⟨n0,b5,b6,p0,Kd,a3⟩:=I
   have L:(CV k=true->d.s.isSome=true)->AT d s=match EW d k p.1 p.2 with
    |.ok r=>r
    |.error e=>(Ih e,d):=λh=>by
    rw[l,if_neg];rintro⟨h1,h2⟩;have:=h h1;rw[Option.isNone_iff_eq_none]at h2;rw[h2]at this;cases this
   have I:=On.shape;obtain⟨a1,c1,rfl⟩:=I;have I:=Ot.shape;obtain⟨a2,c2,rfl⟩:=I;have G5:Gn B E:=G.next (Fr.fr Q.e);have zu:=su.e.size
   have W:=λh=>x6 k (P.up (w':=E)) G5 hw On Ot (λi hi=>by have:=(j i hi).2;omega) (by omega) (λt H=>by
    have:=ZI (y:=32) (s:=s) (t:=t) (by rw[J];exact QF _ H);omega) h
   have b1:bo<E.heap.size:=S.lt
   have T:∀f,¬gR D E f bo:=λf h=>by
    rcases h with h|h
    ·exact z h
    ·omega
   have U:∀{f w7:World},f.heap.size<=w7.heap.size->∀i,gR D E f i->gR D w w7 i:=λh i hi=>hi.imp id λh2=>by omega
   cases V:CV k with
   |false =>
    refine Cx (B:=X5) (v:=.bool false) (by show some (Value.bool (CV k))=_;rw[V]) ?_;have N:CV k=true->d.s.isSome=true:=λh=>by rw[V]at h;cases h
    have o:=L N;refine Cx (B:=X5) (v:=.func (.func (Sq k)) #[] #[]) rfl (AO (W N) ?_ ?_)
    ·rintro _ f ⟨t,d2,hd,C,rfl,F,A⟩;rw[hd]at o;have K:=S.fr A z;have O:Fr D w f:=(Fr.fr Q.e).trans A;have z6:=O.size;refine DI (B:=K) (vs:=[Ag t]) rfl rfl rfl (Wx _) λw7 Z7 f7 z7=>?_;exact ret Z7 rfl (F.away f7 λi hi hz=>T f (hi ▸ hz)) (U f7.size) (Fr.new O f7 λi hi=>by omega) o C
    ·rintro c2 f ⟨e2,hd,rfl,F,A⟩;rw[hd]at o;have K:=S.fr A z;have O:Fr D w f:=(Fr.fr Q.e).trans A;exact pan K rfl F (U (Qe _)) (T f) O (G f (O.mono λi _ hi=>(j i hi).1)) (vV hd) o
   |true =>
    refine Cx (B:=X5) (v:=.bool true) (by show some (Value.bool (CV k))=_;rw[V]) (Cx (B:=Kd.mv (w:=E)) (v:=.pointer p0) rfl (Dy ?_))
    cases hn:d.s.isNone with
    |true =>
     rw[a3,hn];refine rS S [Ag KH] (Wx _) λf K f6 _=>?_;have s6:AC w f:=⟨Fr.st Q.e f6 λi hi=>by omega⟩;exact ret K rfl (P.up (w':=f)) (λi hi=>.inl hi) (Fr.fr s6.e) (by rw[l,if_pos ⟨V,hn⟩]) (by decide)
    |false =>
     rw[a3,hn]
     have N:CV k=true->d.s.isSome=true:=λ_=>by
      cases h:d.s with
      |none=>rw[h]at hn;cases hn
      |some q=>rfl
     have o:=L N;refine Cx (B:=X5) (v:=.func (.func (Sq k)) #[] #[]) rfl (AO (W N) ?_ ?_)
     ·rintro _ f ⟨t,d2,hd,C,rfl,F,A⟩;rw[hd]at o;have K:=S.fr A z;have O:Fr D w f:=(Fr.fr Q.e).trans A;have z6:=O.size;refine DI (B:=K) (vs:=[Ag t]) rfl rfl rfl (Wx _) λw7 Z7 f7 z7=>?_;exact ret Z7 rfl (F.away f7 λi hi hz=>T f (hi ▸ hz)) (U f7.size) (Fr.new O f7 λi hi=>by omega) o C
     ·rintro c2 f ⟨e2,hd,rfl,F,A⟩;rw[hd]at o;have K:=S.fr A z;have O:Fr D w f:=(Fr.fr Q.e).trans A;exact pan K rfl F (U (Qe _)) (T f) O (G f (O.mono λi _ hi=>(j i hi).1)) (vV hd) o
end
structure IQ (B b:Nat) (l:U8) (v:Value) (w:World):Prop where
 lo:B<=b
 at':∃p,(p=.pointer none\/p=.pointer (some ⟨b,0,none⟩))/\Bk w b [p,v] 44
 own:w.ownsRow B 5 1 v l.length (Lib.byteCells l)
 ne:v.ownBlock≠some b
theorem IQ.r{b:Nat}{l:U8}{v:Value}(h:IQ B b l v w):Fc B b l w:=by
 have c:=h.at';obtain⟨p,d,K⟩:=c;have a:Lib.BuilderAt 44 5 B b p (Lib.byteCells l) w:=⟨h.lo,v,K.h,by rw[Lib.byteCells_length];exact h.own,h.ne⟩;rcases d with rfl|rfl
 ·exact .inl (Lib.BuilderAtF.of a)
 ·exact .inr (Lib.BuilderAtF.of a)
theorem IQ.new{b:Nat}(a:B<=b)(K:Bk w b [.pointer none,.slice none 0 0] 44):IQ B b [] (.slice none 0 0) w:=
 ⟨a,⟨_,.inl rfl,K⟩,World.ownsRow_nil w B 5 1,by simp[Value.ownBlock]⟩
theorem IQ.fr{b:Nat}{l:U8}{v:Value}(h:IQ B b l v w)(f:Fr D w w')(d:¬D b)(e:∀g,v.ownBlock=some g->¬D g):IQ B b l v w':=by
 have a:=h.at';obtain⟨p,j,K⟩:=a;refine⟨h.lo,⟨p,j,K.fr f d⟩,⟨h.own.1,?_⟩,h.ne⟩;have a:=h.own.2;rcases a with m|⟨g,cap,c,rfl,hb,o,rest⟩
 ·exact .inl m
 ·exact .inr ⟨g,cap,c,rfl,hb,f.blk o (e g rfl),rest⟩
theorem zPX{t u ty e:TypeId}{i:TypeInfo}(A:P.underlying t=some (.slice e))(C:P.underlying u=some .string)(hi:P.info? e=some i)(E:i.zero=some (.int .u8 0))(b:i.size=1)(p:i.bytes=1){v:Value}{l m:U8}(own:w.ownsRow B e 1 v l.length (Lib.byteCells l))(L:m≠[])(W:l.length+m.length<=140737488355328)(M:B<=w.heap.size):
  ∃d w',(Builtin.append_ #[t,u] ty #[v,.string ⟨m.toArray⟩]).run P w=.ok d w'/\w'.ownsRow B e 1 d (l++m).length (Lib.byteCells (l++m))/\Fr (λi=>v.ownBlock=some i) w w'/\(d.ownBlock=v.ownBlock\/(d.ownBlock=some w.heap.size/\w.heap.size<w'.heap.size))/\∃a n c,d=.slice a n c:=by
 have F:=AM m;have N:0<m.length:=JI.2 L;obtain⟨d,w',q,O,Q,_⟩:=Lib.run_append_own_string (P:=P) w B t u ty e i A C hi E b p v l.length _ own ⟨m.toArray⟩ (by unfold maxLen;omega) (by omega) M
 have y:w'.ownsRow B e 1 d (l++m).length (Lib.byteCells (l++m)):=by
  rw[Lib.byteCells_append,Qb,<-F];exact O
 have R:Fr (λi=>v.ownBlock=some i) w w':=(Fr.grown Q λr o f K=>by
  have z:=own.2;rcases z with⟨rfl,_⟩|⟨g,cap,s,rfl,_,G,_⟩
  ·cases f
  ·cases f;rw[G]at K;cases K;rfl).mono λi _ h=>h.symm
 have H:∃a n c,d=.slice a n c:=by
  have z:=y.2;rcases z with⟨rfl,_⟩|⟨g,cap,s,rfl,_⟩<;>exact⟨_,_,_,rfl⟩
 refine⟨d,w',q,y,R,?_,H⟩;have z:=own.2;rcases z with⟨rfl,X⟩|⟨g,cap,s,rfl,hb,G,S,T,U,I⟩
 ·have f:=run_append_nil_string (P:=P) w t u ty e i (.int .u8 0) A C hi E ⟨m.toArray⟩ (by omega) (by omega) (by rw[p];omega);rw[f]at q;cases q;exact .inr ⟨rfl,by show w.heap.size<(w.heap.push _).size;rw[Array.size_push];omega⟩
 ·by_cases J:l.length+m.length<=cap
  ·have f:=Lib.run_append_room_string (P:=P) w t u ty e i A C hi b g l.length cap s G ⟨m.toArray⟩ (by omega) (by omega);rw[f]at q;cases q;exact .inl rfl
  ·have f:=Lib.run_append_grow_string (P:=P) w t u ty e i (.int .u8 0) A C hi E ⟨g,0,none⟩ l.length cap (Lib.byteCells l) (by rw[Lib.byteCells_length,b,Xq]) (λj x V=>by
    have:=own.cells (g:=g) rfl j x V;exact this) ⟨m.toArray⟩ (by omega) (by omega) (by rw[p];exact growslice_fits (by omega) (by omega))
   rw[f]at q;cases q;exact .inr ⟨rfl,by show w.heap.size<(w.heap.push _).size;rw[Array.size_push];omega⟩
theorem zOI{b:Nat}{l:U8}{v:Value}(h:IQ B b l v w):Sp PP 34 #[.pointer (some ⟨b,0,none⟩)] w λ_ w'=>Bk w' b [.pointer (some ⟨b,0,none⟩),v] 44/\Fr (λi=>i=b) w w':=by
 have d:=h.at';obtain⟨p,e,K⟩:=d;have a:w.heap[b]? = some (.cells #[p,v] 44 (0,0)):=K.h;refine⟨AB.can (f:=34) inferInstance,?_⟩;rcases e with rfl|rfl
 ·refine(Any.Builder_copyCheck_fresh { Tryz.bldW with } Tryz.bldX.toX72 b w (by rw[Lib.cell_of_heap a];rfl) (by simp[World.shape?,a];rfl) (Lib.frozen_of_heap a 0)).mono ?_;rintro en w' ⟨rfl,rfl⟩;refine⟨⟨heap_setCell_same w b 0 _ _ _ a⟩,⟨rfl,rfl,rfl,by simp[World.setCell],λi _ hi=>heap_setCell_other w _ i _ hi,λi o c j=>?_⟩⟩;by_cases hi:i=b
  ·subst hi;rw[a]at c;cases c;cases j
  ·rw[heap_setCell_other w _ i _ hi];exact c
 ·refine(Any.Builder_copyCheck_used { Tryz.bldW with } Tryz.bldX.toX72 b w (by rw[Lib.cell_of_heap a];rfl)).mono ?_;rintro en w' ⟨rfl,rfl⟩;exact⟨K,Fr.refl _ _⟩
theorem zGR{b:Nat}{l m:U8}{v:Value}(h:IQ B b l v w)(O:B<=w.heap.size)(J:m≠[])(o:l.length+m.length<=140737488355328):
  Sp PP 14 #[.pointer (some ⟨b,0,none⟩),Ag m] w λ_ w'=>∃r,IQ B b (l++m) r w'/\Fr (λi=>i=b\/v.ownBlock=some i) w w'/\(r.ownBlock=v.ownBlock\/∃g,r.ownBlock=some g/\w.heap.size<=g/\g<w'.heap.size):=by
 refine eN ?_;refine AA (zOI h) ?_;rintro _ w1 ⟨s,x⟩;refine rX s rfl ?_;have Q:=x.size
 have p:w1.ownsRow B 5 1 v l.length (Lib.byteCells l):=⟨h.own.1,by
  have d:=h.own.2;rcases d with y|⟨g,cap,f,rfl,hb,z,rest⟩
  ·exact .inl y
  ·exact .inr ⟨g,cap,f,rfl,hb,x.blk z (λe=>h.ne (by rw[e];rfl)),rest⟩⟩
 have d:∃i,PP.info? 5=some i/\i.zero=some (.int .u8 0)/\i.size=1/\i.bytes=1:=⟨_,rfl,rfl,rfl,rfl⟩;obtain⟨i,hi,K,j,A⟩:=d;have d:=zPX (P:=PP) (t:=42) (u:=9) (ty:=42) (by kernel_rfl) (by kernel_rfl) hi K j A p J o (by omega);obtain⟨r,w2,L,F,C,hb,a,n,c,rfl⟩:=d;refine AI.of L ?_;have M:=s.fr C h.ne;refine DI (B:=M) (vs:=[.slice a n c]) rfl rfl rfl (by intro u G;simp at G;subst G;rfl) λR N H S=>?_;have T:=C.size
 have q:Value.ownBlock (.slice a n c)≠some b:=by
  rcases hb with hb|⟨hb,_⟩
  ·rw[hb];exact h.ne
  ·rw[hb];intro e;have:=QL e;have:=s.lt;omega
 refine⟨.slice a n c,⟨h.lo,⟨_,.inr rfl,N⟩,⟨F.1,?_⟩,q⟩,((x.mono λi _ h=>.inl h).trans (C.mono λi _ h=>.inr h)).trans (H.mono λi _ h=>.inl h),?_⟩
 ·have d:=F.2;rcases d with y|⟨g,cap,f,I,E,z,rest⟩
  ·exact .inl y
  ·exact .inr ⟨g,cap,f,I,E,H.blk z (λe=>q (by rw[I,e];rfl)),rest⟩
 ·rcases hb with hb|⟨hb,U⟩
  ·exact .inl hb
  ·exact .inr ⟨_,hb,by omega,by omega⟩
theorem Ub{a gw:Nat}(d:w.heap.size<=a)(f:w.heap.size<=gw)(K:Bk w' a [.int .i64 1,.slice none 0 0,.slice (some ⟨gw,0,none⟩) 1 1,.pointer none] 38)
  (O:AD w.heap.size 28 w' (.slice (some ⟨gw,0,none⟩) 1 1) [(⟨none,0,0⟩:SV)]):EF (λi=>i=a\/i=gw) w.heap.size a EE w':=by
 have c:gw<w'.heap.size:=by
  have j:=O.lt (by simp);obtain⟨b,m,_,x⟩:=j;have:=QL m;simp only at this;omega
 have o:∀(v:Nat) (z:SV),[(⟨none,0,0⟩:SV)][v]? = some z->z=⟨none,0,0⟩:=λv z h=>by
  have:=Jy h;exact Qc.1 this
 refine⟨λ_=>False,⟨none,0,0⟩,gw,1,[⟨none,0,0⟩],none,⟨λi hi=>?_,.inl rfl,K,AD.nil _ _ _,(λb hb=>(by cases hb)),?_,.inr rfl,λv z b h hb=>?_,?_,λi hi=>hi.elim,λh=>h,λb hb h=>h,λh=>h,λv z b h hb p=>p,⟨rfl,λi h=>h⟩⟩⟩
 ·rcases hi with rfl|rfl
  ·exact⟨d,K.lt⟩
  ·exact⟨f,c⟩
 ·have q:(λv=>([[]]:List (List ByteArray)).getD v [])=λ_=>[]:=by
   funext v
   match v with
   |0=>rfl
   |v+1=>rfl
  show DH 28 9 w.heap.size gw 1 1 _ (λv=>([[]]:List (List ByteArray)).getD v []) w';rw[q];exact DH.new (n:=1) O
 ·rw[o v z h]at hb;cases hb
 ·refine⟨by decide,by decide,by decide,rfl,(λe r=>(by cases r)),λl t=>?_⟩;rw[Qc.1 t];exact⟨by simp,(λs u=>(by cases u))⟩
theorem zNl{s:Tx}(d:s≠[]):AE s=(Lib.cut s [10]).1::AE (Lib.cut s [10]).2.1:=by
 by_cases b:(10:UInt8)∈s
 ·have e:=List.eq_append_cons_of_mem b;obtain⟨a,r,rfl,c⟩:=e;rw[Pg c,Zx c]
 ·rw[PY b,xS b d];rfl
theorem zP9{s:Tx}(c:s≠[]):(Lib.cut s [10]).2.1.length<s.length/\(Lib.cut s [10]).1.length<=s.length:=by
 have h0:0<s.length:=JI.2 c;by_cases b:(10:UInt8)∈s
 ·have d:=List.eq_append_cons_of_mem b;obtain⟨a,r,rfl,e⟩:=d;rw[Pg e];simp only[Qb,QA];omega
 ·rw[PY b];exact⟨h0,Qe _⟩
theorem oI{s:Tx}(G0:HY w)(hs:s.length<=6000):Sp PP 9 #[Ag s] w λv w'=>v=.tuple #[Ag (BK EE (AE s)),.int .i64 0]/\AC w w'/\(BK EE (AE s)).length<=1000000000000:=by
 have hz:=AM s;have G:Gn w.heap.size w:=λu f=>G0.ext (f.mono λi hi h=>absurd h (by omega));refine eN ?_;refine iF (by omega) (dT (λi=>w.heap.size<=i) (.duo 0 (.one 1 (.one 2 (.duo 3 (oL [4,5,6] .nil) 4 (.lone 3 (.one 5 (.one 6 .nil)))))) 4 (.lone 0 (.one 1 (.one 2 (.lone 3 (.one 5 (.one 6 .nil))))))) λu e=>?_);have he:=e.e.size;refine⟨Id (α:=SV) ⟨none,0,0⟩ rfl rfl (by decide) λgw w1 Z s1 a0=>⟨Fr.fr s1.e,As (cs:=[.int .i64 1,.slice none 0 0,.slice (some ⟨gw,0,none⟩) 1 1]) rfl (As (cs:=[.int .i64 1,.slice none 0 0,.slice (some ⟨gw,0,none⟩) 1 1,.pointer none]) rfl ⟨BM λt w2 n2 K2=>⟨Fr.fr n2.e,AA jM ?_⟩,AA jM ?_⟩)⟩,AA jM ?_⟩
 case' refine_1 =>
  rintro _ a ⟨⟨j,rfl,M3,R⟩,e3⟩;refine⟨Fr.fr e3.e,?_⟩;have K2:Bk w2 t [.int .i64 1,.slice none 0 0,.slice (some ⟨gw,0,none⟩) 1 1,.pointer none] 38:=K2;have L:=K2.mv (w:=a);have N:=n2.lo (u:=w);have z2:=lz u w2;have l2:=K2.lt;have O3:AD w.heap.size 28 a (.slice (some ⟨gw,0,none⟩) 1 1) [(⟨none,0,0⟩:SV)]:=((Z.mono (B':=w.heap.size) he).up (w':=w2)).up (w':=a)
  have x:j≠t/\j≠gw:=by
   have:gw<w2.heap.size:=by
    have l:=(Z.up (w':=w2)).lt (by simp);obtain⟨b,F,_,h3⟩:=l;have:=QL F;simp only at this;omega
   constructor<;>omega
 case' refine_2 =>
  rintro _ w2 ⟨⟨j,rfl,M2,R⟩,e2⟩;refine⟨Fr.fr e2.e,BM λt a n3 L=>⟨Fr.fr n3.e,?_⟩⟩;have L:Bk a t [.int .i64 1,.slice none 0 0,.slice (some ⟨gw,0,none⟩) 1 1,.pointer none] 38:=L;have N:=n3.lo (u:=w);have M3:=M2.up (w':=a);have O3:AD w.heap.size 28 a (.slice (some ⟨gw,0,none⟩) 1 1) [(⟨none,0,0⟩:SV)]:=((Z.mono (B':=w.heap.size) he).up (w':=w2)).up (w':=a)
  have x:j≠t/\j≠gw:=by
   have:gw<w1.heap.size:=by
    have l:=Z.lt (by simp);obtain⟨b,F,_,h3⟩:=l;have:=QL F;simp only at this;omega
   have:=n3.lo (u:=w2);have:=M2.lt;constructor<;>omega
 case' refine_3 =>
  rintro _ w1 ⟨⟨j,rfl,M1,R⟩,e1⟩;refine⟨Fr.fr e1.e,Id (α:=SV) ⟨none,0,0⟩ rfl rfl (by decide) λgw w2 O2 s2 a0=>⟨Fr.fr s2.e,As (cs:=[.int .i64 1,.slice none 0 0,.slice (some ⟨gw,0,none⟩) 1 1]) rfl (As (cs:=[.int .i64 1,.slice none 0 0,.slice (some ⟨gw,0,none⟩) 1 1,.pointer none]) rfl (BM λt a n3 L=>⟨Fr.fr n3.e,?_⟩))⟩⟩;have L:Bk a t [.int .i64 1,.slice none 0 0,.slice (some ⟨gw,0,none⟩) 1 1,.pointer none] 38:=L;have N:=n3.lo (u:=w);have M3:=M1.up (w':=a);have z1:=lz u w1;have O3:AD w.heap.size 28 a (.slice (some ⟨gw,0,none⟩) 1 1) [(⟨none,0,0⟩:SV)]:=(O2.mono (B':=w.heap.size) (by omega)).up (w':=a)
  have x:j≠t/\j≠gw:=by
   have:=M1.lt;have:=n3.lo (u:=w2);have:=s2.e.size;constructor<;>omega
 all_goals
  have a1:w.heap.size<=gw:=by omega
  have P3:=Ub N a1 L O3;have s3:AC w a:=stp;have z3:=s3.e.size;refine Ap λbb w4 n4 B4=>?_;have a2:=n4.lo (u:=w);have b9:=n4.lo (u:=a);have W4:IQ w.heap.size bb [] (.slice none 0 0) w4:=IQ.new a2 B4;have S:=P3.reg;have M4:=M3.up (w':=w4);have c0:=M3.lt;have s4:AC w w4:=stp
  refine IG Aa 18 [7,8,9] 0 (λn v u=>∃(rest out:Tx) (d:DF) (D:Nat->Prop) (bv:Value),n=rest.length/\v=Ag rest/\rest.length<=s.length/\BK EE (AE s)=out++BK d (AE rest)/\out.length<=(s.length - rest.length)*100000001 /\
    EF D w.heap.size t d u/\BO PP 9 u j Li/\¬D j/\IQ w.heap.size bb out bv u/\¬D bb/\(∀g,bv.ownBlock=some g->¬D g)/\AC w u) rfl
   ⟨s.length,s,[],EE,_,_,rfl,rfl,Qe _,rfl,XE _,P3.up (w':=w4),M4,(λh=>by rcases h with h|h;exact x.1 h;exact x.2 h),W4,(λh=>by have:=(S bb h).2;omega),(λg q=>(by cases q)),s4⟩ ?_
  rintro n v G8 u8 ⟨rest,out,d,D,bv,rfl,rfl,c1,H,c2,P,M,T,W,O,Q,su⟩;have zu:=su.e.size;have I:=P.reg
  have U:bb<u8.heap.size:=by
   have l:=W.at';obtain⟨p,_,K⟩:=l;exact K.lt
  have m:∀g,bv.ownBlock=some g->g<u8.heap.size/\g≠j:=λg q=>by
   have l:=W.own.2;rcases l with⟨rfl,_⟩|⟨g',cap,a3,rfl,_,y,_⟩
   ·cases q
   ·have a4:g'=g:=QL q;subst a4;refine⟨Ad y,λe=>?_⟩;obtain⟨⟨es,c,F,_⟩,_⟩:=M;rw[e]at y;rw[F]at y;cases y
  refine Sd (λa5=>?_) (λa6=>?_)
  ·have J:rest≠[]:=λh=>a5 (by rw[h]);have V:=zP9 J;have a7:=zNl J;refine AA (yP (G.next (w':=u8) (Fr.fr su.e)).at (s:=rest) (by omega) (sep:=[10])) ?_;rintro _ z ⟨rfl,e9⟩;have s9:AC w z:=stp;have z9:=e9.e.size;refine AA (zKn (P.up (w':=z)) (G.next (w':=z) (Fr.fr s9.e)) (M.up (w':=z)) (s:=(Lib.cut rest [10]).1) (by omega)) ?_;rintro _ A ⟨c3,rfl,a8,C⟩;have c4:=C.size;refine Ic (b:=⟨[10].toArray⟩) (by simp only[AM,QA,QZ];omega) ?_;rw[SE];have a9:=(W.fr (e9.e) (λh=>h) (λg _ h=>h)).fr C O Q;refine AA (zGR a9 (by omega) (by simp) (by rw[Qb,VC];omega)) ?_;rintro _ b0 ⟨b1,b2,E,b3⟩;have c5:=E.size
   have o:∀i,i<u8.heap.size->¬D i->¬gR D z A i:=λi F h2 h3=>by
    rcases h3 with h|h
    ·exact h2 h
    ·omega
   have X:∀i,gR D z A i->i<A.heap.size:=λi hi=>by
    rcases hi with h|h
    ·have:=(I i h).2;omega
    ·omega
   have b4:j≠bb:=λh=>by
    have l:=W.at';obtain⟨p,_,K⟩:=l;exact M.ne K h.symm
   have b5:AC w b0:=⟨Fr.st (Fr.st s9.e C λi hi=>(I i hi).1) E λi hi=>by
    rcases hi with hi|hi
    ·omega
    ·have l:=W.own.2;rcases l with⟨rfl,_⟩|⟨g',cap,a3,rfl,c6,_⟩
     ·cases hi
     ·have:g'=i:=QL hi;omega⟩
   have b6:=M.lt;refine⟨(Lib.cut rest [10]).2.1.length,V.1,(Lib.cut rest [10]).2.1,out++((AT d (Lib.cut rest [10]).1).1++[10]),(AT d (Lib.cut rest [10]).1).2,gR D z A,b1,rfl,rfl,by omega,?_,?_,?_,?_,o j b6 T,b2,o bb U O,?_,b5⟩
   ·rw[H,a7];show out++((AT d (Lib.cut rest [10]).1).1++[10]++BK _ _)=_;simp only[Qp]
   ·rw[Qb,Qb,VC];have F:=V.1;omega
   ·exact a8.away E λi hi=>by
     rcases hi with hi|hi
     ·rw[hi];exact o bb U O
     ·exact o i (m i hi).1 (Q i hi)
   ·exact((M.up (w':=z)).fr C T).fr E λh=>by
     rcases h with h|h
     ·exact b4 h
     ·exact(m j h).2 rfl
   ·intro g q;rcases b3 with hb|⟨g',hb,F,h2⟩
    ·rw[hb]at q;exact o g (m g q).1 (Q g q)
    ·rw[hb]at q;have:=QL q;intro h;have:=X g h;omega
  ·have b7:rest=[]:=ST a6;subst b7;have Y:BK EE (AE s)=out:=by rw[H];show out++[]=out;rw[QE]
   refine AA (XT W.r (by omega)) ?_;rintro _ z ⟨rfl,_,f9⟩;rw[Y];have b8:out.length<=1000000000000:=by omega
   exact⟨rfl,⟨Cm.st su.e f9 (Qe _) λi hi=>by omega⟩,b8⟩
theorem TI{s:Tx}(a:HY w)(b:s.length<=6000):Sp PP 9 #[Ag s] w λv w'=>v=.tuple #[Ag (BK EE (AE s)),.int .i64 0]/\AC w w':=
 (oI a b).mono λ_ _ h=>⟨h.1,h.2.1⟩
theorem zPC{s:Tx}{f:Nat}(a:f<=i)(hi:i<s.length):(s.take (i+1)).drop f=(s.take i).drop f++[s[i]]:=by
 rw[Cs hi,List.drop_append_of_le_length (by rw[Qm];omega)]
theorem zQF{s:Tx}{f:Nat}(b:f<=i)(hi:i<s.length):s.drop f=(s.take i).drop f++s[i]::s.drop (i+1):=by
 have a:s=s.take i++s[i]::s.drop (i+1):=by
  rw[<-JS hi,JW]
 conv=>lhs;rw[a]
 rw[List.drop_append_of_le_length (by rw[Qm];omega)]
theorem iR{s:Tx}{y:UInt8}(V:s.length<=1000000000000):Sp PP 17 #[Ag s,.int .u8 (y.toNat:Int)] w λv w'=>AD w.heap.size 9 w' v (Ej (Bj y s))/\AC w w':=by
 have I:=AM s;refine eN ?_;refine cP 8 [] 5 6 7 s.length (λi F H u=>∃(f:Nat) (done:List Tx),H=.int .i64 (f:Int)/\f<=i/\y∉(s.take i).drop f/\Bj y s=done++Bj y (s.drop f)/\AD w.heap.size 9 u F (Ej done)/\done.length<=i/\AC w u) ?_ ?_
 ·exact⟨0,[],rfl,Qe _,by simp,rfl,AD.nil _ _ _,Qe _,stp⟩
 rintro i F H G u hi ⟨f,done,rfl,m,b,o,O,J,K⟩;refine ite (λAY=>?_) (λL=>?_)
 ·have d:i<s.length:=by omega
  refine FT (i:=i) (c:=s[i]) (by simp) (ite (λM=>?_) (λp=>?_))
  ·have N:s[i]=y:=UInt8.toNat_inj.1 (by have h:((s[i].toNat:Nat):Int)=(y.toNat:Int):=M;omega);have q:(s.drop f).take (i - f)=(s.take i).drop f:=by rw[List.drop_take]
   refine eY (lo:=f) (hi:=i) rfl rfl m (by omega) ?_;rw[Na,q];refine bS (⟨((s.take i).drop f).toArray⟩:ByteArray) λQ r R _ t=>Ax (u:=w) ⟨rfl,rfl⟩ (O.up (w':=r)) t (by rw[Qr];omega) λx l z S T=>?_;have e:AD w.heap.size 9 l x (Ej (done++[(s.take i).drop f])):=by rw[Ug];exact z
   have A:Bj y s=(done++[(s.take i).drop f])++Bj y (s.drop (i+1)):=by
    rw[o,zQF m d,N,Yb b,Qp];rfl
   have C:(done++[(s.take i).drop f]).length<=i+1:=by rw[Qb,VC];omega
   have a:y∉(s.take (i+1)).drop (i+1):=by rw[List.drop_eq_nil_of_le (by rw[Qm];omega)];simp
   have j:AC w l:=stp;refine rA ?_;exact rA ⟨rfl,d,i+1,done++[(s.take i).drop f],rfl,Qe _,a,A,e,C,j⟩
  ·have a:y∉(s.take (i+1)).drop f:=by
    rw[zPC m d];intro h;have U:=Qf.1 h;rcases U with h|h
    ·exact b h
    ·have:=Qc.1 h;exact p (by rw[<-this])
   exact rA ⟨rfl,d,f,done,rfl,by omega,a,o,O,by omega,K⟩
 ·have E:i=s.length:=by omega
  subst E;rw[Qg]at b;refine Ks (lo:=f) rfl (by omega) ?_;rw[Na,I,<-QR,Qg];refine bS (⟨(s.drop f).toArray⟩:ByteArray) λQ r R _ t=>Ax (u:=w) ⟨rfl,rfl⟩ (O.up (w':=r)) t (by rw[Qr];omega) λx l z S T=>?_;have e:AD w.heap.size 9 l x (Ej (done++[s.drop f])):=by rw[Ug];exact z
  rw[o,aK b];have j:AC w l:=stp;exact⟨e,j⟩
theorem bG{s:Tx}(l:s.length<=1000000000000):Sp PP 10 #[Ag s] w λv w'=>AD w.heap.size 9 w' v (Ej (AE s))/\AC w w':=by
 have p:=AM s;refine eN ?_;refine DL (λh=>?_) (λh=>?_)
 ·have:s=[]:=ST h;subst this;exact⟨AD.nil _ _ _,stp⟩
 ·have b:s≠[]:=λe=>h (by rw[e]);have h0:0<s.length:=JI.2 b;have a:s.getLast? = some s[s.length - 1]:=by rw[List.getLast?_eq_getElem?,Qd (by omega)]
  refine rF (s.length - 1) (FT (i:=s.length - 1) (c:=s[s.length - 1]) (by simp) (ite (λm=>?_) (λd=>?_)))
  ·have o:s[s.length - 1]=10:=UInt8.toNat_inj.1 (by have h:((s[s.length - 1].toNat:Nat):Int)=10:=m;have q:(10:UInt8).toNat=10:=rfl;omega)
   have f:AE s=Bj 10 (s.take (s.length - 1)):=by
    unfold AE;rw[if_neg b,a,o,if_pos rfl,XO]
   refine rF (s.length - 1) (Hh (hi:=s.length - 1) rfl (by omega) ?_);rw[Na,Jf,JF,f];refine AA (iR (y:=10) (by rw[Qm];omega)) ?_;rintro v w1 ⟨O,j⟩;exact⟨O,j⟩
  ·have f:AE s=Bj 10 s:=by
    unfold AE;rw[if_neg b,a,if_neg];intro e;have:=QL e;exact d (by rw[this];rfl)
   rw[f];refine AA (iR (y:=10) l) ?_;rintro v w1 ⟨O,j⟩;exact⟨O,j⟩
theorem Zs{s:Tx}:Sp PP 7 #[Ag s] w λv w'=>(∃b,v=.bool b)/\AC w w':=by
 have I:=AM s;refine eN ?_;refine ite (λh=>?_) (λh=>?_)
 ·refine ite (λm=>⟨⟨_,rfl⟩,stp⟩) (λm=>?_);exact ite (λp=>⟨⟨_,rfl⟩,stp⟩) (λp=>⟨⟨_,rfl⟩,stp⟩)
 ·refine AA (bG (s:=s) (by omega)) ?_;rintro v w1 ⟨O,J⟩
  have q:(AE s).length<=s.length+1:=by
   unfold AE;split
   ·simp
   ·refine Qw (Wr 10 _) ?_;split
    ·rw[List.length_dropLast];omega
    ·omega
  have e:=O.shape;obtain⟨a,c,rfl⟩:=e;have f:(Ej (AE s)).length=(AE s).length:=Qr ..;rw[f]at O ⊢;refine cO 19 [2] 4 5 (AE s).length (λi v u=>∃h:Nat,v=.int .i64 (h:Int)/\h<=i/\AC w1 u) ?_ ?_
  ·exact⟨0,rfl,Qe _,stp⟩
  rintro i v G u hi ⟨h,rfl,K,j⟩;refine ite (λAY=>?_) (λr=>?_)
  ·have d:i<(AE s).length:=by omega
   have e:∃t,t=(AE s)[i]:=⟨_,rfl⟩;obtain⟨t,y⟩:=e;have z:=AM t;have get:∀{k:KW} {C:PW},(∀b o,At u b o (enc (⟨t.toArray⟩:ByteArray))->k (.pointer (some ⟨b,o,none⟩)) u)->AI PP (Instr.indexAt 28 (.slice a (AE s).length c) (.int .i64 i)) k C u:=λE=>Bv (l:=Ej (AE s)) (O.sl.up (w':=u)) (i:=i) (x:=(⟨t.toArray⟩:ByteArray)) (by rw[QK,Qd d,y];rfl) E;refine get λb o A=>AF (A.cell0 rfl) ?_;refine ite (λF=>?_) (λF=>?_)
   case' refine_1 =>
    refine get λb o A=>AF (A.cell0 rfl) ?_;refine Hh (hi:=4) rfl (by omega) ?_;refine DL (λ_=>?_) (λ_=>?_)
    case' refine_2 =>
     refine get λb o A=>AF (A.cell0 rfl) ?_;refine Hh (hi:=4) rfl (by omega) ?_;refine DL (λ_=>?_) (λ_=>?_)
   all_goals first
    |refine rF (h+1) ?_
    |skip
   all_goals
    refine get λb o A=>AF (A.cell0 rfl) ?_;refine ite (λH=>?_) (λH=>rA ⟨rfl,d,_,rfl,by omega,j⟩);refine get λb o A=>AF (A.cell0 rfl) ?_;refine Hh (hi:=6) rfl (by omega) ?_;refine DL (λ_=>?_) (λ_=>rA ⟨rfl,d,_,rfl,by omega,j⟩);refine get λb o A=>AF (A.cell0 rfl) ?_;refine ite (λ_=>⟨⟨_,rfl⟩,stp⟩) (λL=>?_);refine get λb o A=>AF (A.cell0 rfl) ?_;refine FT (i:=6) (c:=t[6]'(by omega)) (by simp) ?_;exact ite (λ_=>⟨⟨_,rfl⟩,stp⟩) (λ_=>rA ⟨rfl,d,_,rfl,by omega,j⟩)
  ·refine ite (λ_=>⟨⟨_,rfl⟩,stp⟩) (λ_=>?_);exact ite (λ_=>⟨⟨_,rfl⟩,stp⟩) (λ_=>⟨⟨_,rfl⟩,stp⟩)
set_option maxRecDepth 20000
theorem FD{t:TypeId}{x y:Operand}{s m:Tx}{k:KW}{a:PW}(h:s.length+m.length<=9223372036854775807)(b:k (Ag (s++m)) w):AI PP (do eqGuard .add t x y (Ag s) (Ag m);binOp .add t (Ag s) (Ag m)) k a w:=
 Ic (by rw[AM,AM];exact h) (by rw[SE];exact b)
theorem PE(G:HY w):Sp PP 8 #[] w λv w'=>v=.bool true/\AC w w':=by
 have a:=TI (s:=kQ) G (by decide);rw[kV]at a;refine eN ?_;refine AA a ?_;rintro _ w1 ⟨rfl,b⟩;refine iT rfl ?_;exact DL (λ_=>⟨rfl,stp⟩) (λh=>absurd rfl h)
theorem jD{s m:Tx}(h:s.getLast? = some 10\/s=[]):∃d,BK EE (AE (s++m))=BK EE (AE s)++BK d (AE m):=by
 rw[zNY h.symm,tU];exact⟨_,rfl⟩
theorem pV{s:Tx}(h:0<s.length)(a:s[s.length - 1]=10):s.getLast? = some 10:=by
 rw[List.getLast?_eq_getElem?,Qd (by omega),a]
theorem dX{C:Checked}{os:Os}{f:FuncId}{fn:Func}{s:ChangeSpec}{H:Type}{m:TypeId×Value->H}{tb:TypeId}{b:List (String×DataW Unit)}
  (L:(b.all λx=>x.2.handleName?.isNone)=true)
  (own:ownKnob C.prog.godebug=none)(c:os.Started)(l:C.prog.inits.idxOf? f=none)(M:C.prog.funcs[f]? = some fn)
  (d:∃(w:World) (a:Tape) (i:Input),w.os=os/\(w.forCall a i).Shaped C.prog/\i.vars=[]/\Input.okWide C.prog (w.forCall a i) .any w.heap.size f i /\
   ((s.pre m C.prog fn [] false (w.forCall a i).memory i.args/\laidMetH C.prog b (w.forCall a i).memory)/\sizedMet m C.prog fn (OpenSpec.ofChange s) false (w.forCall a i).memory i.args)/\({}:Assume).holds C.prog (lone (Frame.enter C.prog f i.args .normal) [] (w.forCall a i)))
  (hl:laidOutB C.prog=true)(N:fn.params.toList.all (λt=>C.prog.readableRec t && decide (t<C.prog.types.size))=true)(O:s.vars=[])(hr:fn.resultTypes=#[tb])(hb:C.prog.underlying tb=some .bool)
  (Q:∀ds:List (DataW H),ds.length=fn.params.size->s.fn H ds = { results:=[.lit (.bool true)],args:=ds })
  (R:∀(W:World) (y:Nat) (args:Array Value) (ds:List (DataW H)) (ps:List MemPlace),W.ShapedOpen C.prog->laidMet C.prog b W->(∀(j:Nat) t v,fn.params[j]? = some t->args[j]? = some v->Value.okWide C.prog W .any y t v) ->
   DataW.TrodAll m C.prog W 0 (λ_=>true) true fn.params.toList args.toList ds ps->(DataW.weightsEach C.prog fn.params.toList ds).all (·<=reachBytes)=true->Sp C.prog f args W λv z=>v=.bool true/\Bp W z):
  ReturnsInHanded {} C os f .any (λw args=>(s.pre m C.prog fn [] false w args/\laidMetH C.prog b w)/\sizedMet m C.prog fn (OpenSpec.ofChange s) false w args) (s.post m C.prog fn false true false false):=by
 refine returnsInHanded_of_calls own c l d ?_;intro w a i _ S _ T A _;obtain⟨_,_,_,o,E,_,_,_,_,F⟩:=T;have e:o=fn:=QL (E.symm.trans M);subst e;obtain⟨⟨⟨ds,gs,K,hw,hc⟩,U⟩,hz⟩:=A;have G:=hz.weights hw;have V:=DataW.Whole.of_heap (w':=w.forCall a i) (by rfl) hw;have hL:laidMetH C.prog b (w.forCall a i):=laidMetH.of_heap (by rfl) U;rw[MakeChecks.laidMetH_plain _ _ _ L]at hL
 have X:Calls C.prog f i.args (w.forCall a i) λe z=>∃v,e=.returned v/\s.post m C.prog o false true false false (w.forCall a i) i.args v z:=by
  generalize w.forCall a i=W at *;have AY:=V.lt;have Y:=V;obtain⟨p,q,I,Z,rfl,a1,a2⟩:=V;rw[O]at Z
  have a0:gs=[]/\q=[]:=by
   cases gs with
   |nil=>exact⟨rfl,Z⟩
   |cons g r=>exact Z.elim
  obtain⟨rfl,rfl⟩:=a0
  have J:(DataW.weightsEach C.prog o.params.toList ds).all (·<=reachBytes)=true:=by
   have:(OpenSpec.ofChange s).bare.plain.varTypes C.prog=[]:=by simp[DataSpec.varTypes,ChangeSpec.plain,OpenSpec.bare,OpenSpec.ofChange,O]
   rw[this]at G;simpa using G
  refine(R W _ i.args ds p S hL F I J).calls.mono λe z u=>?_;cases e<;>try exact u.elim
  rename_i v;obtain⟨rfl,u⟩:=u;refine⟨_,rfl,ds,[],p++[],[],p,[],Y,?_,?_,?_,u.kept,λh=>by cases h⟩
  ·rw[QE,Q ds (by have:=bC I;simpa using this),hr];exact Go.ChangeShapes.trodAll_mk1 (Go.RowKit.shut_bool hb _)
  ·rw[QE,Q ds (by have:=bC I;simpa using this)];exact mM hl u.below N I λx U=>AY x (by simpa using U)
  ·rw[QE,Q ds (by have:=bC I;simpa using this),O];rfl
 refine X.mono λe z ⟨v,u,hp⟩=>?_;subst u;exact ChangeSpec.post_blind hp
open Go Go.RowKit Go.ChangeShapes
def bP (P:Program) (n:String):Bool:=match P.globalNamed n with
 |some g=>match (P.globals[g]?).map (·.type) with
  |some t=>match P.underlying t with
   |some (.interface _)=>true
   |_=>false
  |none=>false
 |none=>false
def We (P:Program) (n:String) (k:IntKind):Bool:=match P.globalNamed n with
 |some g=>match (P.globals[g]?).map (·.type) with
  |some t=>match P.underlying t with
   |some (.array m e)=>(match P.underlying e with
    |some (.int k2)=>decide (k2=k)
    |_=>false) && P.cellsOf e==1 && P.cellsOf t==m
   |_=>false
  |none=>false
 |none=>false
theorem oV{n l:String}{d:DataW Unit}{rest:List (String×DataW Unit)}{W:World}(hb:bP P n=true)(h:laidMet P ((n,.iface l d)::rest) W):∃t p,W.var? P n=some #[.iface t p]:=by
 obtain⟨ps,⟨g0,o,a,q,r,s,b,c,e,f,_,x⟩,_,_⟩:=h;unfold bP at hb;rw[b]at hb;dsimp only at hb;rw[c]at hb;dsimp only at hb;split at hb
 ·rename_i y hi;have m:=iface_of_trod hi f;obtain⟨_,u,v,j,_⟩:=m;refine⟨u,v,?_⟩;rw[e,show a=#[.iface u v] from Array.ext' j]
 ·cases hb
theorem yB{n:String}{k:IntKind}{zs:List Int}{rest:List (String×DataW Unit)}{W:World}(hb:We P n k=true)(h:laidMet P ((n,Lib.tabData k zs)::rest) W):Lib.TabIs P W n k zs:=by
 unfold We at hb;split at hb
 ·rename_i g b;split at hb
  ·rename_i t c;split at hb
   ·rename_i m e d;simp only[Qz,beq_iff_eq]at hb;obtain⟨⟨a,f⟩,j⟩:=hb;split at a
    ·rename_i p l;have o:=of_decide_eq_true a;obtain rfl:=o;exact Lib.tabIs_of_head b c d l f j h
    ·cases a
   ·cases hb
  ·cases hb
 ·cases hb
end Go.W
namespace Go.Proofs.YtnanheiakfekdaaGreatDoor
open Go.W Go.ChangeShapes
set_option maxRecDepth 100000
noncomputable def ED : List (String × DataW Unit) := Rows.deskGrowsRow.laid
theorem WO : We PP nPw .u64 = true := by kernel_rfl
theorem Vq : bP PP "strconv.ErrRange" = true := by kernel_rfl
theorem WJ : bP PP "strconv.ErrSyntax" = true := by kernel_rfl
theorem Lt{W:World}(a:W.ShapedOpen PP)(h:laidMet PP ED W):HY W:=by
 have b:=h.tail.tail;have c:=b.tail.tail;have h5:=c.tail;exact⟨Tryz.lays145.s1_3 W a,yB (zs:=Lib.pow10Tab) WO b,oV WJ h5,oV Vq c⟩
theorem YG:(ED.all λx=>x.2.handleName?.isNone)=true:=by kernel_rfl
end Go.Proofs.YtnanheiakfekdaaGreatDoor
namespace Go.Proofs.YtnanheiakfekdaaGreatDoor
open Go.W Go.ChangeShapes
set_option maxRecDepth 100000
set_option linter.unusedVariables false
theorem KM{W:World}{b:Nat}{v:Value}{H:Type}{g:TypeId×Value->H}{d:DataW H}{ps:List MemPlace}(h:Value.okWide Tryz.prog W .any b 9 v)(i:DataW.Trod g Tryz.prog W 0 (λ_=>true) true 9 v d ps)
  (a:(d.weights Tryz.prog 9).all (·<=reachBytes)=true):∃f:U8,v=Ag f/\f.length<=1000000000000000:=by
 obtain⟨e,j⟩:=i;have k:=DataW.trod_string (P:=Tryz.prog) (t:=9) (by kernel_rfl) j;obtain⟨s,l,c,_⟩:=k;refine⟨s.data.toList,zPY h (by kernel_rfl) l,?_⟩;have hd:d=.lit (.string s.data.toList):=congrArg Prod.fst c;rw[hd]at a;simp only[DataW.weights,Ye,List.all_nil,Bool.and_true]at a;have m:=of_decide_eq_true a;have n:=reachBytes_lt;omega
theorem XX{H:Type}{P:Program}{t:TypeId}{ts:List TypeId}{d:DataW H}{r:List (DataW H)}{p:Nat->Bool}(h:(DataW.weightsEach P (t::ts) (d::r)).all p=true):(d.weights P t).all p=true/\(DataW.weightsEach P ts r).all p=true:=by
 simpa only[DataW.weightsEach,List.all_append,Qz]using h
theorem bR(os:Os)(args:Array Value):((World.laidAll Tryz.prog os ED).forCall (λ_ _=>0) ⟨#[],args,[]⟩).Shaped Tryz.prog:=World.shaped_of_ZipB (by kernel_rfl) (by kernel_rfl)
theorem dB(os:Os)(args:Array Value):laidMetH Tryz.prog ED ((World.laidAll Tryz.prog os ED).forCall (λ_ _=>0) ⟨#[],args,[]⟩).memory:=by
 rw[MakeChecks.laidMetH_plain _ _ _ YG];exact laidMet_laidAll _ (by kernel_rfl) (by kernel_rfl)
end Go.Proofs.YtnanheiakfekdaaGreatDoor
namespace Go.W
open Go
variable {B i k n:Nat} {D:Nat -> Prop} {P:Program} {g:An} {w w' w1 w2:World}
theorem cI:∀{f:FuncId} {args:Array Value} {P:Program},Sp P f args w (λv w'=>v=.bool true/\AC w w')->Sp P f args w (λv w'=>v=.bool true/\Bp w w'):=λh=>h.mono λ_ _ h=>⟨h.1,h.2.e⟩
end Go.W
namespace Go.Proofs.YtnanheiakfekdaaGreatDoor
open Go.W Go.ChangeShapes
theorem Sy:ownKnob PP.godebug=none:=by kernel_rfl
theorem Np:laidOutB PP=true:=by kernel_rfl
end Go.Proofs.YtnanheiakfekdaaGreatDoor
namespace Go.W
open Go
variable {B i k n:Nat} {D:Nat -> Prop} {P:Program} {g:An} {w w' w1 w2:World}
theorem zNf(h:P.funcs.any Func.goes=false)(f:FuncId):P.goes f=false:=by
 unfold Program.goes;rw[h,Bool.and_false,Bool.or_false,List.any_eq_false];intro g _
 cases a:P.funcs[g]? with
 |none=>simp
 |some fn=>simpa using (Array.any_eq_false'.1 h) fn (Array.mem_of_getElem? a)
theorem zIr(h:P.funcs.any Func.goes=false)(s:String):P.goesFrom s=false:=by
 unfold Program.goesFrom
 cases P.funcNamed s with
 |none=>rfl
 |some f=>exact zNf h f
theorem bK(h:P.funcs.any Func.goes=false){c:OpenClaim}(a:c.start=.entering):false=c.goesBy P:=by
 unfold OpenClaim.goesBy Program.goesAt;rw[zIr h,a];rfl
end Go.W
namespace Go.Proofs.YtnanheiakfekdaaGreatDoor
open Go.W
theorem TJ:PP.funcs.any Func.goes=false:=by kernel_rfl
theorem dC : PP.mainIs = some (true, "b0dced846b3b3a43fa766eea3dc368acb4278f8c5c550bf406976ed2125d2229".toList) := by kernel_rfl
theorem bQ:true=PP.looks []:=by kernel_rfl
theorem Sv:PP.wantsStandIn 9=false:=by kernel_rfl
end Go.Proofs.YtnanheiakfekdaaGreatDoor
