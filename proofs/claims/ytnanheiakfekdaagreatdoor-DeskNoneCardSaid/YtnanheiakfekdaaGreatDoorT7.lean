/-
  Proved here: parts of this claim.
  Conditions: told at each.
-/
import Derived.Lib.AppendStr
import Derived.Handed
import Derived.LaidLaws
import Derived.MakeChecks
import Derived.Stop.Joined
import Derived.Test.YtnanheiakfekdaaGreatDoorRows
import Derived.Test.YtnanheiakfekdaaGreatDoorChecked
import Derived.Lib.LaidTab
import Derived.Stop.LaidErr
import Derived.Lay
import Derived.SevenTiedAt
import Derived.Test.YtnanheiakfekdaaGreatDoorT6
set_option maxHeartbeats 4000000
set_option linter.unusedVariables false
set_option linter.unusedSimpArgs false
namespace Go.W
open Go Go.Proofs
open AL (enc)
set_option maxRecDepth 10000
variable {B i k n:Nat} {D:Nat -> Prop} {P:Program} {g:Al} {w w' w1 w2:World}
theorem Lr{a b:Int}(c:0<=a/\a<=2147483647)(hb:0<=b/\b<=2147483647):Ba [a,b]=AK a.toNat++AK b.toNat:=by simp[Ba,c,hb]
theorem Km{n:Int}(h:0<=n/\n<=2147483647):(AK n.toNat).length<=5:=Lp (by omega)
theorem zFg{x:Ax}{d:Bj}(V:ME w x d)(hl:d.q.words.length<=1000000)(hs:∀s∈d.q.words,s.size<=1000000):
  Sp PP 105 #[agg x] w λv w'=>((EU d/\v=.tuple #[Ae (FK d),.int .i64 0])\/(¬EU d/\v=.tuple #[Ae [],.int .i64 1]))/\AC w w':=by
 have k1:=V.id;have k2:=V.kind;have Q:=V.q;have H:=Q.frm;have a0:=Q.to;have a1:=Q.ws.len;have a2:=Q.rad;have a3:=Q.most;refine eN ?_;refine BM λb1 w1 n1 I=>rG I x (AA (eO (V.up (w':=w1)) hl hs) ?_);rintro _ w2 ⟨⟨rfl,hd⟩|⟨rfl,hd⟩,e2⟩
 case' inr=>exact⟨.inr ⟨hd,rfl⟩,stp⟩
 have J:=hd.2.1;have o:d.kind≠4->d.q.kind=d.kind:=λh=>(hd.1.resolve_left h).1;have hy:d.kind≠4->Bt d.q 200:=λh=>(hd.1.resolve_left h).2
 have a8:d.kind=1\/d.kind=2\/d.kind=3\/d.kind=4:=by
  by_cases h:d.kind=4
  ·omega
  ·have:=o h;have:=(hy h).1;omega
 have a9:=Km (n:=d.kind) (by omega);have b0:=Km J;have b3:=n1.lo (u:=w);refine Ao λbb Y n3 B3=>?_;have a4:=n3.lo (u:=w);have L0:Ff w.heap.size bb [] Y:=cM a4 B3;clear B3;refine rG I x.q (Ao λb2 w4 n4 z4=>?_);have b4:=n4.lo (u:=w);have a7:=n4.lo (u:=Y);have lb:=L0.lt;refine rE z4 x.q λp B5 f5 _=>?_;have B5:Bk p b2 (enc x.q) 101:=B5;have g5:Fr (λi=>i=b2) Y p:=Fr.trans (fE Y w4) f5
 have L5:Ff w.heap.size bb [] p:=L0.fr g5 λi c t z hi ht hd=>by
  subst hd;have:=(Array.getElem?_eq_some_iff.1 hi).1;omega
 have s5:AC w p:=⟨Fr.st (lE w w4) f5 λi hi=>by omega⟩;have E:Bk p b1 (enc x) 103:=(I.mv (w:=w4)).fr f5 (by have:=I.lt;have:=n4.lo (u:=w1);omega);have z5:=s5.e.size;have zw:∀{u:World},GJ w.heap.size bb p u->AC w u:=λf=>⟨Cl.st s5.e f (Qe _) λi hi=>by omega⟩;have K:∀{u:World},GJ w.heap.size bb p u->Bk u b1 (enc x) 103:=λf=>E.keptX f (by have:=I.lt;have:=n3.lo (u:=w1);omega) (by decide);have j:∀{u:World},GJ w.heap.size bb p u->Bk u b2 (enc x.q) 101:=λf=>B5.keptX f (by omega) (by decide);refine Cx (B:=E) (v:=.int .i64 d.id) (by rw[<-k1];rfl) (Cx (B:=E) (v:=.int .i64 d.kind) (by rw[<-k2];rfl) ?_);refine Ky (α:=Int) [d.id,d.kind] rfl (vs:=[.int .i64 d.id,.int .i64 d.kind]) rfl rfl (by decide) λb6 w6 n6 S6=>?_;have M:GJ w.heap.size bb p w6:=Cl.ext n6.ext;have z6:=M.size;refine AA (U2 (L5.fr n6.ext λ_ _ _ _ _ _ h=>h) (Bh.of_new S6 n6) (by omega) (by simp) (by simp)) ?_;rintro _ w7 ⟨rfl,Z,f7⟩;rw[Je,Lr J (by omega)]at Z;have b:=M.trans f7;have z7:=b.size
 have fin:∀{u:World} {l:U8},l=FK d->Ff w.heap.size bb l u->GJ w.heap.size bb p u->Sp PP 16 #[.pointer (some ⟨bb,0,none⟩)] u λv w'=>v=Ae (FK d)/\AC w w':=λ{u l} e L f=>by
  have zu:=f.size;refine(W9 L (by omega)).mono ?_;rintro _ u2 ⟨rfl,_,f2⟩;exact⟨by rw[e],zw (f.trans f2)⟩
 refine Cx (B:=K b) (v:=.int .i64 d.kind) (by rw[<-k2];rfl) (ite (λh3=>?_) (λh3=>?_))
 ·have N:=hy (by omega);have a5:=N.2.1;have o:=o (by omega);have b5:=N.2.2.1 (by omega);refine Cx (B:=j b) (v:=.int .i64 d.q.frm) (by rw[<-H];rfl) (Cx (B:=j b) (v:=.int .i64 d.q.to) (by rw[<-a0];rfl) ?_);refine Ky (α:=Int) [d.q.frm,d.q.to] rfl (vs:=[.int .i64 d.q.frm,.int .i64 d.q.to]) rfl rfl (by decide) λb8 w8 r O=>?_;have y:=b.trans (Cl.ext r.ext);have z8:=y.size;refine AA (U2 (Z.fr r.ext λ_ _ _ _ _ _ h=>h) (Bh.of_new O r) (by omega) (by simp) (by simp only[Qb];omega)) ?_;rintro _ w9 ⟨rfl,C,R⟩;rw[Lr (by omega) (by omega)]at C;refine AA (fin (l:=AK d.id.toNat++AK d.kind.toNat++(AK d.q.frm.toNat++AK d.q.to.toNat)) ?_ C (y.trans R)) ?_
  ·unfold FK MV;rw[if_neg (by omega),if_neg (by omega),Qp]
  rintro _ S ⟨rfl,A⟩;exact⟨.inl ⟨hd,rfl⟩,A⟩
 refine Cx (B:=K b) (v:=.int .i64 d.kind) (by rw[<-k2];rfl) (ite (λh4=>?_) (λh4=>?_))
 case' refine_2 =>
  have a6:d.kind=4:=by omega
  refine AA (fin (l:=AK d.id.toNat++AK d.kind.toNat) ?_ Z b) ?_
  ·unfold FK MV;rw[if_pos a6,QE]
  rintro _ S ⟨rfl,A⟩;exact⟨.inl ⟨hd,rfl⟩,A⟩
 have N:=hy (by omega);have o:=o (by omega);have a5:=N.2.1;have T:=N.2.2.2 (by omega);have l3:=Km (n:=d.q.frm) (by omega);have l4:=Km (n:=(x.q.words.n:Int)) (by omega)
 have U:∀k,((d.q.words.take k).flatMap DS).length<=8*17:=λk=>by
  have h:=cL (f:=DS) (m:=17) (l:=d.q.words.take k) λs hs=>by
   have h1:=(T.2.2.2 s (Vu hs)).2.2;have b7:s.data.toList.length=s.size:=Vc;have:=Lp (n:=s.size) (by omega);unfold DS;rw[Qb];omega
  have h8:(d.q.words.take k).length*17<=8*17:=Ji _ (by rw[Qm];omega);omega
 refine Cx (B:=j b) (v:=.int .i64 d.q.frm) (by rw[<-H];rfl) (Cx (B:=j b) (v:=.slice x.q.words.a x.q.words.n x.q.words.c) rfl ?_);refine Ky (α:=Int) [d.q.frm,(x.q.words.n:Int)] rfl (vs:=[.int .i64 d.q.frm,.int .i64 (x.q.words.n:Int)]) rfl rfl (by decide) λb8 w8 r O=>?_;have y:=b.trans (Cl.ext r.ext);have z8:=y.size;refine AA (U2 (Z.fr r.ext λ_ _ _ _ _ _ h=>h) (Bh.of_new O r) (by omega) (by simp) (by simp only[Qb];omega)) ?_;rintro _ w9 ⟨rfl,C,R⟩;rw[Lr (by omega) (by omega)]at C;have W:=y.trans R;have⟨Q0,hQ⟩:∃Q0,Q0=AK d.id.toNat++AK d.kind.toNat++(AK d.q.frm.toNat++AK ((x.q.words.n:Int)).toNat):=⟨_,rfl⟩;rw[<-hQ]at C;have c0:Q0.length<=20:=by rw[hQ];simp only[Qb];omega
 refine Cx (B:=j W) (v:=.slice x.q.words.a x.q.words.n x.q.words.c) rfl (cN 46 [7,8,9] 45 d.q.words.length (λk u=>Ff w.heap.size bb (Q0++(d.q.words.take k).flatMap DS) u/\GJ w.heap.size bb p u) ?_ ?_)
 ·exact⟨by simpa using C,W⟩
 rintro k G u hk ⟨L,f⟩;have zu:=f.size;have su:=zw f;have c1:=U k;refine ite (λBS=>?_) (λc2=>?_)
 ·have F:k<d.q.words.length:=by omega
  have c3:=(T.2.2.2 _ (Qa F)).2.2;have c4:=qY (s:=d.q.words[k]) (by omega);refine Bp (Q.ws.up (w':=u)) (i:=k) (x:=d.q.words[k]) (by simp) λb9 o9 A9=>AF (A9.cell0 rfl) (AA (oF (s:=d.q.words[k]) (by omega)) ?_);rintro _ u1 ⟨rfl,e1⟩;have z1:=e1.e.size;refine AA (Uz (L.up (w':=u1)) (by omega) (by simp only[Qb];omega)) ?_;rintro _ u2 ⟨rfl,L2,f2⟩;refine rA ⟨rfl,F,?_,(f.trans (Cl.ext e1.e)).trans f2⟩;rw[Ci F,Jl,<-Qp];simpa using L2
 ·have q_:k=d.q.words.length:=by omega
  obtain rfl:=q_;rw[Qg]at L;refine Cx (B:=j f) (v:=.int .i64 d.q.rad) (by rw[<-a2];rfl) (Cx (B:=j f) (v:=.int .i64 d.q.most) (by rw[<-a3];rfl) ?_);refine Ky (α:=Int) [d.q.rad,d.q.most] rfl (vs:=[.int .i64 d.q.rad,.int .i64 d.q.most]) rfl rfl (by decide) λb8 u8 r O=>?_;have f8:=f.trans (Cl.ext r.ext);have z8:=f8.size;have X:=U d.q.words.length;rw[Qg]at X;refine AA (U2 (L.fr r.ext λ_ _ _ _ _ _ h=>h) (Bh.of_new O r) (by omega) (by simp) (by simp only[Qb];omega)) ?_;rintro _ u9 ⟨rfl,C,R⟩;rw[Lr (by omega) (by omega)]at C;refine AA (fin ?_ C (f8.trans R)) ?_
  ·rw[hQ];unfold FK MV Ll;rw[if_neg (by omega),if_pos (by omega),a1];simp only[Qp,QW]
  rintro _ S ⟨rfl,A⟩;exact⟨.inl ⟨hd,rfl⟩,A⟩
open Go Go.Proofs Go.RowKit
theorem lB{l:List AG}(h:∀y∈l,Eb y)(z:l.length<=100){p:Int×Int×Gj}(s:p.2.2.hits=l)(u:BE (BC p.1 p.2.1 p.2.2) p.2.2.hits):(Dk p).length<=10000:=by
 obtain⟨⟨b,c⟩,⟨e,f⟩,⟨j,o⟩,_⟩:=u;have b:0<=p.1:=b;have c:p.1<=2147483647:=c;have e:0<=p.2.1:=e;have f:p.2.1<=1000:=f;have j:0<=p.2.2.num:=j;have o:p.2.2.num<=400:=o;have A:=Mf (n:=p.1) (by omega);have C:=Mf (n:=p.2.1) (by omega);have E:=Mf (n:=p.2.2.num) (by omega);unfold Dk;split
 ·simp only[Qb,QA,QZ];omega
 ·have:=W0 (sep:=[32]) (m:=43) (l:=[Lib.itoa p.1,if p.2.2.found then[121,101,115] else[110,111],Lib.itoa p.2.2.num]++p.2.2.hits.map HL) λt a=>by
   have q:=Qf.1 a;rcases q with a|a
   ·simp only[Ql,Xf,or_false]at a;rcases a with rfl|rfl|rfl
    ·omega
    ·split<;>simp
    ·omega
   ·have q:=Qq.1 a;obtain⟨y,x,rfl⟩:=q;have q:=h y (s ▸ x);obtain⟨F,G,H,I⟩:=q;have J:=Mf (n:=y.v) (by omega);have K:=Mf (n:=y.d) (by omega);unfold HL;simp only[Qb,QA,QZ];omega
  have r:([Lib.itoa p.1,if p.2.2.found then[121,101,115] else[110,111],Lib.itoa p.2.2.num]++p.2.2.hits.map HL).length=3+l.length:=by
   rw[Qb,Qr,s];rfl
  rw[r,VC]at this;omega
theorem pZ{l:List Int}(a:∀x∈l,-9223372036854775808<=x/\x<=9223372036854775807):(D8 l).length<=l.length*22+1:=by
 unfold D8 EQ;split
 ·simp
 ·have:=W0 (sep:=[32]) (m:=21) (l:=l.map Lib.itoa) λt b=>by
   have c:=Qq.1 b;obtain⟨x,d,rfl⟩:=c;exact Mf (a x d)
  rw[Qr,VC]at this;omega
theorem I1:Ir.length<=100000000:=by show 2<=_;omega
structure LS (D:Nat->Prop) (B bd:Nat) (d:DB) (w:World) (R:Nat->Prop) (ev:SV) (gw cw:Nat) (X:List SV) (sp:OA):Prop where
 reg:∀i,D i->B<=i/\i<w.heap.size
 bdD:D bd
 blk:Bk w bd [.int .i64 (d.g.n:Int),ev.v,.slice (some ⟨gw,0,none⟩) d.g.n cw,.pointer sp] 38
 es:AD B 74 w ev.v d.g.es
 esD:∀b,Value.blk ev.v=some b->D b
 ws:DI 28 9 B gw d.g.n cw X (λv=>d.g.ws.getD v []) w
 gwD:D gw
 wsD:∀(v:Nat) (z:SV) b,X[v]? = some z->Value.blk z.v=some b->D b
 chk:DL d.g
 RD:∀i,R i->D i
 Rbd:¬R bd
 Res:∀b,Value.blk ev.v=some b->¬R b
 Rgw:¬R gw
 Rws:∀(v:Nat) (z:SV) b,X[v]? = some z->Value.blk z.v=some b->¬R b
 srv:match d.s with
  |none=>sp=none/\∀i,¬R i
  |some (g,c,s)=>∃bs B',sp=some ⟨bs,0,none⟩/\B'<=w.heap.size/\Ay R B' w bs g c s
def EH (D:Nat->Prop) (B bd:Nat) (d:DB) (w:World):Prop:=∃R ev gw cw X sp,LS D B bd d w R ev gw cw X sp
section
variable {D:Nat->Prop} {B bd:Nat} {d:DB} {w w':World} {R:Nat->Prop} {ev:SV} {gw cw:Nat} {X:List SV} {sp:OA}
abbrev OZ (n:Nat) (ev:SV) (gw cw:Nat):Fa:=⟨(n:Int),ev,⟨some ⟨gw,0,none⟩,n,cw⟩⟩
theorem LS.gr(I:LS D B bd d w R ev gw cw X sp):Kt w (OZ d.g.n ev gw cw) d.g X:=by
 have a:=I.chk;have f:=a.n2;have h:=a.nw;have j:=I.ws.len;refine⟨rfl,I.es.sl,I.ws.row.sl,⟨by omega,λi m c=>?_⟩,⟨by have:=a.ne;omega,by omega,λl b=>by have:=(a.word l b).1;omega⟩,λl b s e=>by have:=((a.word l b).2 s e).2.2;omega⟩;have:=(I.ws.own i X[i] (by simp)).sl;rw[Qk,Qd c]at this;exact this
theorem LS.ext(I:LS D B bd d w R ev gw cw X sp)(e:Fr (λ_=>False) w w'):LS (gR D w w') B bd d w' R ev gw cw X sp:=by
 have z:=e.size;have L:Le w w':=⟨e⟩;refine⟨λi hi=>?_,.inl I.bdD,I.blk.mv,I.es.up,λb hb=>.inl (I.esD b hb),I.ws.up,.inl I.gwD,λv z b h hb=>.inl (I.wsD v z b h hb),I.chk,λi hi=>.inl (I.RD i hi),I.Rbd,I.Res,I.Rgw,I.Rws,?_⟩
 ·rcases hi with hi|hi
  ·have:=I.reg i hi;omega
  ·have:=I.reg bd I.bdD;omega
 ·have h:=I.srv
  cases a:d.s with
  |none=>rw[a]at h;exact h
  |some p =>
   obtain⟨g,c,s⟩:=p;rw[a]at h;obtain⟨bs,B',f,l,j⟩:=h;exact⟨bs,B',f,by omega,j.up⟩
theorem EH.ext(P:EH D B bd d w)(e:Fr (λ_=>False) w w'):EH (gR D w w') B bd d w':=by
 obtain⟨R,ev,gw,cw,X,sp,I⟩:=P;exact⟨R,ev,gw,cw,X,sp,I.ext e⟩
def GI (D:Nat->Prop) (B bd:Nat) (w:World) (r:Except Int (Tx×DB)) (v:Value) (w':World):Prop:=∃t d',r=.ok (t,d')/\t.length<=100000000/\v=Ae t/\EH (gR D w w') B bd d' w'/\Fr D w w'
def FQ (D:Nat->Prop) (B bd:Nat) (w:World) (d:DB) (r:Except Int (Tx×DB)) (c:List PanicEntry) (w':World):Prop:=∃e,r=.error e/\c=Na e/\EH (gR D w w') B bd d w'/\Fr D w w'
theorem LS.rows(I:LS D B bd d w R ev gw cw X sp):Sp PP 47 #[.pointer (some ⟨bd,0,none⟩)] w λv w'=>(∃x r,v=agg (x:CQ)/\Hy w' x (CH d.g) r)/\AC w w':=by
 have V:=I.gr;refine eN ?_;refine Ao λp w2 n2 h=>?_;have q:=n2.lo (u:=w);refine rG I.blk (OZ d.g.n ev gw cw) (AA (dK (V.up (w':=w2))) ?_);rintro _ z (⟨A,⟨x,vs,rfl,Vn,_,s⟩,C⟩|⟨c,_⟩)
 case' inr=>exact absurd I.chk c
 refine AA iA ?_;rintro _ j ⟨rfl,E⟩;refine AA (pK (Vn.up (w':=j)) (cY I.chk)) ?_;rintro _ t ⟨⟨y,r,rfl,a⟩,F⟩;refine AA zNN ?_;rintro _ e ⟨rfl,G⟩;refine rE h y λm f o _=>?_;have f:Bk m p (enc y) 82:=f;refine AR (B:=f) rfl ?_;have b:∀{v:Value} {l:List Int},AD j.heap.size 3 t v l->AQ m v l:=λO=>((O.up (w':=e)).frc o (h.mv (w:=e))).sl;exact⟨⟨y,r,rfl,⟨a.rev',b a.off,b a.to,b a.rof,b a.rev⟩⟩,⟨Fr.st (lE w e) o λi hi=>by omega⟩⟩
theorem zKa{x:CQ}{r:List BO}{f t:Nat}{w:World}(m:Bb g)(o:Hy w x g r)(h:g.n<=f\/g.n<=t)(C:f<=1000000)(E:t<=1000000):
  Sp PP 79 #[agg x,.int .i64 (f:Int),.int .i64 (t:Int)] w λv w'=>(∃cs,v=.tuple #[.agg cs,.int .i64 1]/\cs=#[.pointer none,.pointer none])/\AC w w':=by
 have F:=o.off.len;have G:=Md g.n g.es;have H:=m.ok.n2;refine eN ?_;refine BM λs w1 n1 c=>?_;have c:Bk w1 s (enc x) 82:=c;refine Ao λp w2 n2 q=>?_;have y:=n2.lo (u:=w);refine rX c rfl (rI (g.n:Int) (rG c x (AA (Tr m (o.up (w':=w2))) ?_)));rintro _ e ⟨rfl,I⟩;refine iF (by omega) ?_;have fin:∀{u:World},u=e->True:=λ_=>trivial;refine ite (λz=>?_) (λz=>?_)
 ·refine AJ (cs:=[.pointer none,.pointer none]) rfl (rS q [.pointer none,.pointer none] (by intro u b;simp at b;subst b;rfl) λj a l _=>?_);have a:Bk j p [.pointer none,.pointer none] 126:=a;refine AR (B:=a) rfl ?_;exact⟨⟨_,rfl,rfl⟩,⟨Fr.st (lE w e) l λi hi=>by omega⟩⟩
 ·refine iF (by omega) (ite (λA=>?_) (λA=>absurd h (by omega)));refine AJ (cs:=[.pointer none,.pointer none]) rfl (rS q [.pointer none,.pointer none] (by intro u b;simp at b;subst b;rfl) λj a l _=>?_);have a:Bk j p [.pointer none,.pointer none] 126:=a;refine AR (B:=a) rfl ?_;exact⟨⟨_,rfl,rfl⟩,⟨Fr.st (lE w e) l λi hi=>by omega⟩⟩
theorem zJ8{x:CQ}{r:List BO}{f t:Nat}{w:World}(c:Bb g)(e:Hy w x g r)(h:g.n<=f\/g.n<=t)(j:f<=1000000)(l:t<=1000000):
  Sp PP 46 #[agg x,.int .i64 (f:Int),.int .i64 (t:Int)] w λv w'=>v=.tuple #[.slice none 0 0,.bool false,.int .i64 1]/\AC w w':=by
 refine eN ?_;refine BM λbo w1 n1 a=>?_;have a:Bk w1 bo (enc x) 82:=a;refine Cn (B:=a) rfl rfl ?_;refine AA (zKa c (e.up (w':=w1)) h j l) ?_;rintro _ w2 ⟨⟨cs,rfl,rfl⟩,s⟩;refine Ao λy m n3 o=>?_;have p:=n3.lo (u:=w);refine rS o [.pointer none,.pointer none] (by intro u b;simp at b;subst b;rfl) λz A q _=>iT (by decide) ?_;exact⟨rfl,⟨Fr.st (lE w m) q λi hi=>by omega⟩⟩
theorem zQp{nb:Nat->List Nat}{b:List Int}:∀{k u x:Nat},x∈Hj nb b k u->∃y,x∈nb y:=by intro a;induction a<;>grind[Hj]
theorem mE(c:Mv g){f t:Nat}(j:f<g.n):∀x∈DE g f t,x<g.n:=λx a=>by
 unfold DE at a;split at a
 ·cases a
 ·have b:=Ql.1 a;rcases b with h|h
  ·omega
  ·have b:=zQp h;obtain⟨y,e⟩:=b;exact IV c e
theorem HR(P:EH D B bd d w)(e:AC w w'):EH (gR D w w') B bd d w'/\Fr D w w':=⟨P.ext e.e,Fr.fr e.e⟩
theorem xG(P:EH D B bd d w)(G:HX w){a c:Nat}{H:OA}{J:Nat}{ta:OA}{N tc:Nat}{s:List Tx}(S:AQ w (.slice H 2 J) [(a:Int),(c:Int)])(O:a<=1000000)(Q:c<=1000000):
  Ep PP 22 #[.pointer (some ⟨bd,0,none⟩),.slice H 2 J,.slice ta N tc] w (GI D B bd w (EY d .path [(a:Int),(c:Int)] s)) (FQ D B bd w d (EY d .path [(a:Int),(c:Int)] s)):=by
 have K:=P;obtain⟨R,ev,gw,cw,X,sp,I⟩:=P;have v:=I.chk;have j:(CH d.g).n=d.g.n:=rfl;have m:=cY I.chk;have h2:=v.n2;refine HI Ab rfl ?_;refine dD (λ_=>False) [0,2,3,4,5,6,7,1,8,9,10,11,12,13,14,15] λL T=>CN (i:=0) (x:=(a:Int)) (S.up (w':=L)) rfl λb2 o2 U _=>AP (U.cell0 rfl) nf (CN (i:=1) (x:=(c:Int)) (S.up (w':=L)) rfl λb3 o3 V _=>AP (V.cell0 rfl) nf ?_);have W:=I.ext T.e;refine AA W.rows ?_;rintro _ u2 ⟨⟨x,r,rfl,M⟩,Y⟩;refine⟨Y.e,?_⟩;by_cases Z:d.g.n<=a\/d.g.n<=c
 ·refine AA (zJ8 m M (by rw[j];exact Z) O Q) ?_;rintro _ u3 ⟨rfl,A⟩;refine⟨A.e,?_⟩;have hd:EY d .path [(a:Int),(c:Int)] s=.error 1:=if_pos (by show(d.g.n:Int)<=(a:Int)\/(d.g.n:Int)<=(c:Int);omega);refine AO TY ?_ ?_
  ·rintro _ _ ⟨h,_⟩;exact absurd h (by decide)
  ·rintro _ u ⟨_,rfl,rfl⟩;have p:=HR K (w':=u) stp;exact⟨1,hd,rfl,p.1,p.2⟩
 ·have hd:EY d .path [(a:Int),(c:Int)] s=.ok (D8 (AH (DE (CH d.g) a c)),d):=if_neg (by show ¬((d.g.n:Int)<=(a:Int)\/(d.g.n:Int)<=(c:Int));omega);refine AA (zJs m M (by rw[j];omega) (by rw[j];omega)) ?_;rintro _ u3 ⟨⟨pa,pc,b,rfl,SP,a0⟩,A⟩;refine⟨A.e,?_⟩;refine AO TY ?_ ?_
  ·rintro _ u ⟨_,rfl⟩;refine AA (qF (G.up (w':=u)) SP (λy C=>?_) (by rw[PO];omega)) ?_
   ·have E:=Qq.1 C;obtain⟨z,F,rfl⟩:=E;have o:=mE m.ok (f:=a) (t:=c) (by rw[j];omega) z F;rw[j]at o;omega
   ·rintro _ u4 ⟨rfl,e4⟩;have p:=HR K (w':=u4) stp
    have q:=pZ (l:=AH (DE (CH d.g) a c)) (λy C=>by
     have E:=Qq.1 C;obtain⟨z,F,rfl⟩:=E;have o:=mE m.ok (f:=a) (t:=c) (by rw[j];omega) z F;rw[j]at o;omega)
    rw[PO]at q;exact⟨_,_,hd,by omega,rfl,p.1,p.2⟩
  ·rintro _ u ⟨h,_⟩;exact absurd rfl h
theorem zPD{L:Pl}(m:n<=200)(a:∀s v,v<n->(L s v).length<=1000):GR n L<=400000:=by
 have h:∀s,((List.range n).map λv=>(L s v).length).sum<=200000:=λs=>by
  have b:=RS (l:=(List.range n).map λv=>(L s v).length) (c:=1000) λx e=>by
   have f:=Qq.1 e;obtain⟨v,j,rfl⟩:=f;exact a s v (Q0.1 j)
  rw[Qr,Vm]at b;omega
 have:=h true;have:=h false;unfold GR;omega
theorem zJ1(P:EH D B bd d w)(G:HX w){m ta:Value}{l:List Int}{c:List Tx}:
  Ep PP 23 #[.pointer (some ⟨bd,0,none⟩),m,ta] w (GI D B bd w (EY d .hubs l c)) (FQ D B bd w d (EY d .hubs l c)):=by
 have o:=P;obtain⟨R,ev,gw,cw,X,sp,I⟩:=P;have e:=cY I.chk;have a:(CH d.g).n=d.g.n:=rfl;have C:=I.chk.n2;refine HI Ab rfl ?_;refine AA I.rows ?_;rintro _ E ⟨⟨x,r,rfl,p⟩,F⟩;refine AA (wV e p) ?_;rintro _ H ⟨⟨J,bl,K,L,N,q,rfl,M,f,t⟩,O⟩;refine AA zNL ?_;rintro _ u ⟨rfl,Q⟩
 have b:∀s v,v<(CH d.g).n->(L s v).length<=1000:=λs v _=>by
  have:=t.hb (by rw[a];omega) v;cases s
  ·exact this.2.1
  ·exact this.1.1
 refine AA (zIg (M.up (w':=u)) (by rw[a];omega) b) ?_;rintro _ y ⟨rfl,S⟩;have z:=zPD (by rw[a];omega) b;refine AA (Sz (G.up (w':=y)) (n:=(GR (CH d.g).n L:Nat)) (by omega)) ?_;rintro _ A ⟨rfl,T⟩;have h:=HR o (w':=A) stp;have hd:EY d .hubs l c=.ok (Lib.itoa (GR (CH d.g).n L:Nat),d):=by rw[q];rfl
 have j:=Mf (n:=(GR (CH d.g).n L:Nat)) (by omega);exact⟨_,_,hd,by omega,rfl,h.1,h.2⟩
end
open Go
section
variable {α:Type} [AL α] {P:Program} {k:KW} {pn:PW} {w:World}
theorem zPU{t ty e:TypeId}{z:Value}{sz r:Nat}(J:DU P t e)(W:AX P e z sz r)(K:AL.sz α=sz){v x:Value}{l m:List α}
  (H:AD B e w v l)(X:AQ w x m)(s:m≠[])(hb:(l.length+m.length)*r<=140737488355328)(S:l.length+m.length<=maxLen){q:Value}(h:(Builtin.append_ #[t,t] ty #[v,x]).run P w=.ok q w'):
  (∃a c,v=.slice a l.length c/\q=.slice a (l.length+m.length) c)\/(Value.blk q=some w.heap.size/\Bn w w'):=by
 have L:=info_parts W.h;obtain⟨i,hi,T,y,A⟩:=L;subst K;obtain⟨xa,C,rfl,Y,M⟩:=X;rcases M with M|⟨b,o,rfl,N⟩
 ·exact absurd M s
 have d:∀j u,(Ad m)[j]? = some u->w.cell? ((⟨b,o,none⟩:Addr).add j)=some u:=λj u O=>by rw[OY];exact N j u O
 have I:(Ad m).length=m.length*AL.sz α:=Kc m;have U:0<m.length:=JI.2 s;have Z:m.length<=maxLen:=by omega
 have V:Bn w w.drew:=⟨rfl,rfl,rfl,Qe _,λ_ _ _=>rfl,λ_ _ h _=>h⟩
 have nil:(Builtin.append_ #[t,t] ty #[.slice none 0 0,.slice (some ⟨b,o,none⟩) m.length C]).run P w=.ok q w'->l.length=0->Value.blk q=some w.heap.size/\Bn w w':=λh h0=>by
  have E:=run_append_nil (P:=P) w t ty e i z J.h hi T ⟨b,o,none⟩ m.length C (Ad m) (by rw[I,y]) d (by omega) (by simp only[maxLen]at S;omega) (by rw[A];have hb:=hb;rw[h0,JO]at hb;omega);rw[E]at h;cases h;exact⟨rfl,V.t (Bn.alloc w.drew _)⟩
 have p:∀(a:Addr) (n cap:Nat) (xs:List Value),xs.length=n*i.size->(∀j u,xs[j]? = some u->w.cell? (a.add j)=some u)->cap<n+m.length->n=l.length ->
   (Builtin.append_ #[t,t] ty #[.slice (some a) n cap,.slice (some ⟨b,o,none⟩) m.length C]).run P w=.ok q w'->Value.blk q=some w.heap.size/\Bn w w':=λa n cap xs h1 h2 h3 h4 h=>by
  subst h4
  have E:=run_append_grow (P:=P) w t ty e i z J.h hi T a l.length cap xs h1 h2 ⟨b,o,none⟩ m.length C (Ad m) (by rw[I,y]) d (by omega) (by simp only[maxLen]at S;omega)
   (by rw[A];exact growslice_fits (by omega) hb)
  rw[E]at h;cases h;exact⟨rfl,V.t (Bn.alloc w.drew _)⟩
 rcases H with⟨rfl,a,rfl⟩|H
 ·cases a with
  |none=>exact .inr (nil h rfl)
  |some a=>exact .inr (p a 0 0 [] (by simp) (by simp) (by omega) rfl h)
 ·have L:=H.2;rcases L with⟨rfl,hn⟩|⟨g,cap,F,rfl,a0,hg,a1,a2,Q,R⟩
  ·exact .inr (nil h hn)
  ·by_cases f:l.length+m.length<=cap
   ·left;have G:l.length*i.size+(Ad m).length<=F.size:=by rw[I,Q,y,<-Jo];exact Ji _ f
    have E:=run_append_room (P:=P) w t ty e i J.h hi g l.length cap F hg ⟨b,o,none⟩ m.length C (Ad m) (by rw[I,y]) d (WI m) f G;rw[E]at h;cases h;exact⟨_,_,rfl,rfl⟩
   ·exact .inr (p ⟨g,0,none⟩ l.length cap (Ad l) (by rw[Kc,y]) (λj u O=>(H.cells (g:=g) rfl) j u O) (by omega) rfl h)
theorem TZ{t ty e:TypeId}{z:Value}{sz d:Nat}[q:DU P t e][r:AX P e z sz d]{v x:Value}{l m:List α}(b:AL.sz α=sz/\z.cells.size=sz)
  (o:AD B e w v l)(s:AQ w x m)(f:m≠[])(E:B<=w.heap.size)(hb:(l.length+m.length)*d<=140737488355328/\l.length+m.length<=9223372036854775807)
  (u:∀j w',AD B e w' j (l++m)->AD B e w' v l->Fr (AV B v) w w'->(Value.blk j=Value.blk v\/(Value.blk j=some w.heap.size/\Bn w w'))->k j w'):AI P (Builtin.append_ #[t,t] ty #[v,x]) k pn w:=by
 obtain⟨j,w',y,p,A⟩:=YM (ty:=ty) q r b.1 b.2 o s hb.1 (by unfold maxLen;omega) E;refine AI.of y ?_;have F:=zPU q r b.1 o s f hb.1 (by unfold maxLen;omega) y;rcases F with⟨a,c,rfl,rfl⟩|⟨G,h5⟩
 ·have C:=(p.cut (m:=l.length) (by omega) (by simp[f])).1;rw[V6]at C;exact u _ _ p C A (.inl (by cases a<;>rfl))
 ·exact u _ _ p (o.fr h5 λ_ _ _ h=>h) A (.inr ⟨G,h5⟩)
end
theorem Bh.neB{α:Type}[AL α]{e d:TypeId}{v:Value}{l:List α}{b f:Nat}{cs:List Value}(h:Bh e w v l)(j:l≠[])(hb:Value.blk v=some b)(K:Bk w f cs d)(c:e≠d):b≠f:=by
 have m:=h.2;rcases m with h|⟨s,o,z,a,p⟩
 ·exact absurd h j
 ·rw[hb]at a;have q:=QL a;subst q;intro r;subst r;have:=K.h;rw[p]at this;injection this with this;injection this with _ h3;exact c h3
section
variable {D:Nat->Prop} {B bd:Nat} {d:DB} {w w':World} {R:Nat->Prop} {ev:SV} {gw cw:Nat} {X:List SV} {sp:OA}
theorem LS.srvR(I:LS D B bd d w R ev gw cw X sp){Z:Nat->Prop}(f:Fr Z w w')(hE:∀i,Z i->¬R i):match d.s with
  |none=>sp=none/\∀i,¬R i
  |some (g,c,s)=>∃bs B',sp=some ⟨bs,0,none⟩/\B'<=w'.heap.size/\Ay R B' w' bs g c s:=by
 have h:=I.srv
 cases a:d.s with
 |none=>rw[a]at h;exact h
 |some p =>
  obtain⟨g,c,s⟩:=p;rw[a]at h;obtain⟨bs,B',b,j,e⟩:=h;have:=f.size;exact⟨bs,B',b,by omega,e.away f hE⟩
theorem pY{w0:World}(f:EH D B bd d w0)(e:AC w0 w){r:Except Int (Tx×DB)}{n:Int}(h:r=.error n)(j:n≠0):Ep PP 42 #[.int .i64 n] w (λ_ _=>False) (FQ D B bd w0 d r):=by
 refine⟨(TY (e:=n) (w:=w)).can,(TY (e:=n) (w:=w)).calls.mono ?_⟩;intro en w' a
 cases en with
 |returned v=>exact absurd a.1 j
 |panicked c =>
  obtain⟨_,rfl,rfl⟩:=a;have b:=HR f (w':=w') e;exact⟨n,h,rfl,b.1,b.2⟩
 |outgrown=>exact a
theorem Rk{a v:Nat}{z:SV}(h:(List.replicate a (⟨none,0,0⟩:SV))[v]? = some z):z=⟨none,0,0⟩:=by
 rw[Vk]at h;split at h
 ·exact(QL h).symm
 ·cases h
theorem zJq(P:EH D B bd d w){a:Nat}{q:OA}{r:Nat}{ta:Value}{o:List Tx}(S:Bh 3 w (.slice q 1 r) [(a:Int)])(ha:a<=1000000):
  Ep PP 19 #[.pointer (some ⟨bd,0,none⟩),.slice q 1 r,ta] w (GI D B bd w (EY d .graph [(a:Int)] o)) (FQ D B bd w d (EY d .graph [(a:Int)] o)):=by
 have L:=P;obtain⟨R,ev,gw,cw,X,sp,I⟩:=P;have M:=I.reg bd I.bdD;refine HI Ab rfl ?_;have no:(a:Int)<1\/200<(a:Int)->Ep PP 42 #[.int .i64 1] w (λ_ _=>False) (FQ D B bd w d (EY d .graph [(a:Int)] o)):=λh=>pY L stp (if_pos h) (by decide);refine Bp (i:=0) (x:=(a:Int)) S.1 rfl λN O t=>AF (t.cell0 rfl) (ite (λh=>?_) (λh=>?_))
 ·refine AO (no (.inl h)) ?_ ?_
  ·intro _ _ h;exact h.elim
  ·intro _ _ h;exact h
 refine Bp (i:=0) (x:=(a:Int)) S.1 rfl λN O t=>AF (t.cell0 rfl) (ite (λG=>?_) (λG=>?_))
 ·refine AO (no (.inr G)) ?_ ?_
  ·intro _ _ h;exact h.elim
  ·intro _ _ h;exact h
 have hd:EY d .graph [(a:Int)] o=.ok (Ir,{ d with g:=⟨a,[],List.replicate a []⟩ }):=if_neg (show ¬((a:Int)<1\/200<(a:Int)) by omega);refine dD (λi=>i=bd) [1,2,3,4,5,6,0,7,8,9,10,11] λu e=>?_;have j:∀b,Value.blk (.slice q 1 r)=some b->¬b=bd:=λb hb=>S.neB (by simp) hb I.blk (by decide);refine CN (i:=0) (x:=(a:Int)) (Bh.up (w':=u) S).1 rfl λb3 o3 Q H=>AP (Q.cell0 rfl) (j _ H) (CN (i:=0) (x:=(a:Int)) (Bh.up (w':=u) S).1 rfl λb4 o4 T U=>AP (T.cell0 rfl) (j _ U) (IX (α:=SV) ⟨none,0,0⟩ rfl rfl (by omega) λc p V W Y=>⟨Fr.fr W.e,?_⟩));refine Aq (cs:=[.int .i64 (a:Int),.slice none 0 0,.slice (some ⟨c,0,none⟩) a a]) rfl (DH (B:=I.blk.mv (w:=p)) (vs:=[.int .i64 (a:Int),.slice none 0 0,.slice (some ⟨c,0,none⟩) a a]) rfl rfl rfl (by intro u J;simp at J;rcases J with rfl|rfl|rfl<;>rfl) λm y A z4=>⟨A.mono λi _ h=>h,?_⟩);have z3:=lz w p;have y:Bk m bd [.int .i64 (a:Int),.slice none 0 0,.slice (some ⟨c,0,none⟩) a a,.pointer sp] 38:=y;have f:Fr (λi=>i=bd) w m:=Fr.trans (fE w p) A;have C:w.heap.size<=c:=by have:=e.e.size;omega
 have K:AD B 28 m (.slice (some ⟨c,0,none⟩) a a) (List.replicate a (⟨none,0,0⟩:SV)):=(V.mono (B':=B) (by have:=e.e.size;omega)).frc A (I.blk.mv (w:=p))
 have E:c<m.heap.size:=by
  obtain⟨b,Z,_,H⟩:=K.lt (by intro h;have:=congrArg List.length h;simp at this;omega);have:=QL Z;simp only at this;omega
 refine⟨_,_,hd,I1,rfl,⟨R,⟨none,0,0⟩,c,a,List.replicate a ⟨none,0,0⟩,sp,⟨λi hi=>?_,.inl I.bdD,y,AD.nil _ _ _,(λb hb=>nomatch hb),?_,.inr ⟨C,E⟩,λv z b h hb=>?_,?_,λi hi=>.inl (I.RD i hi),I.Rbd,(λb hb=>nomatch hb),λF=>by have:=(I.reg _ (I.RD _ F)).2;omega,λv z b h hb=>?_,I.srvR f λi hi F=>I.Rbd (hi ▸ F)⟩⟩,f.mono λi _ hi=>hi ▸ I.bdD⟩
 ·rcases hi with hi|hi
  ·have:=I.reg i hi;have:=f.size;omega
  ·omega
 ·have hL:(λv=>(List.replicate a ([]:List ByteArray)).getD v [])=λ_=>[]:=by
   funext v;rw[Qk,Vk];split<;>rfl
  show DI 28 9 B c a a _ (λv=>(List.replicate a ([]:List ByteArray)).getD v []) m;rw[hL];exact DI.new K
 ·rw[Rk h]at hb;cases hb
 ·refine⟨by show 1<=a;omega,by show a<=200;omega,by simp,by simp,(λe he=>nomatch he),λl hl=>?_⟩;rw[List.eq_of_mem_replicate hl];exact⟨by simp,(λs hs=>nomatch hs)⟩
 ·rw[Rk h]at hb;cases hb
theorem LS.re(I:LS D B bd d w R ev gw cw X sp){Z:Nat->Prop}{j:Al}{c:SV}{a l:Nat}{u:List SV}(fz:Fr Z w w')(hE:∀i,Z i->¬R i)
  (p:Bk w' bd [.int .i64 (j.n:Int),c.v,.slice (some ⟨a,0,none⟩) j.n l,.pointer sp] 38)(x:AD B 74 w' c.v j.es)
  (e:∀b,Value.blk c.v=some b->Value.blk ev.v=some b\/(w.heap.size<=b/\b<w'.heap.size))(y:DI 28 9 B a j.n l u (λv=>j.ws.getD v []) w')
  (f:a=gw\/(w.heap.size<=a/\a<w'.heap.size))(q:∀(v:Nat) (z:SV) b,u[v]? = some z->Value.blk z.v=some b->(∃(r:Nat) (o:SV),X[r]? = some o/\Value.blk o.v=some b)\/(w.heap.size<=b/\b<w'.heap.size))(s:DL j):
  LS (gR D w w') B bd { d with g:=j } w' R c a l u sp:=by
 have F:=I.reg bd I.bdD;have z:=fz.size;have A:∀i,R i->i<w.heap.size:=λi hi=>(I.reg i (I.RD i hi)).2;refine⟨λi hi=>?_,.inl I.bdD,p,x,λb hb=>?_,y,?_,λv z b h hb=>?_,s,λi hi=>.inl (I.RD i hi),I.Rbd,λb hb=>?_,?_,λv z b h hb=>?_,I.srvR fz hE⟩
 ·rcases hi with hi|hi
  ·have:=I.reg i hi;omega
  ·omega
 ·have m:=e b hb;rcases m with h|h
  ·exact .inl (I.esD b h)
  ·exact .inr h
 ·rcases f with h|h
  ·exact .inl (h ▸ I.gwD)
  ·exact .inr h
 ·have m:=q v z b h hb;rcases m with⟨r,o,C,E⟩|h
  ·exact .inl (I.wsD r o b C E)
  ·exact .inr h
 ·have m:=e b hb;rcases m with h|h
  ·exact I.Res b h
  ·intro t;have:=A b t;omega
 ·rcases f with h|h
  ·rw[h];exact I.Rgw
  ·intro t;have:=A _ t;omega
 ·have m:=q v z b h hb;rcases m with⟨r,o,C,E⟩|h
  ·exact I.Rws r o b C E
  ·intro t;have:=A b t;omega
theorem DI.fro{α l:Type}[AL α][AL l]{a e j:TypeId}{B B' g c:Nat}{X:List SV}{L:Nat->List α}{w w':World}{m:Value}{l':List l}(M:DI a e B g n c X L w)(O:AD B' j w m l')(f:Fr (AV B' m) w w')(o:a≠j:=by decide)(p:e≠j):DI a e B g n c X L w':=
 ⟨M.row.fro O f o,M.len,λv z h=>(M.own v z h).fro O f p,λv z b h hb=>QJ (M.lt v z b h hb) f.size,M.apart⟩
theorem DI.frc{α:Type}[AL α]{a e j:TypeId}{B g c l:Nat}{cs:List Value}{X:List SV}{L:Nat->List α}{w w':World}(M:DI a e B g n c X L w)(f:Fr (λi=>i=l) w w')(k:Bk w l cs j)(m:a≠j:=by decide)(o:e≠j):DI a e B g n c X L w':=
 ⟨M.row.frc f k m,M.len,λv z h=>(M.own v z h).frc f k o,λv z b h hb=>QJ (M.lt v z b h hb) f.size,M.apart⟩
theorem Bh.notOwn{α p:Type}[AL α][AL p]{e q:TypeId}{B B':Nat}{w:World}{v r:Value}{l:List α}{l':List p}{b:Nat}(h:Bh e w v l)(s:l≠[]:=by decide)(hb:Value.blk v=some b)(O:AD B q w r l')(j:e≠q):¬AV B' r b:=by
 intro m;have o:=h.2;rcases o with h|⟨C,t,z,c,f⟩
 ·exact absurd h s
 ·rw[hb]at c;have u:=QL c;subst u;rcases O with⟨_,a,rfl⟩|O
  ·exact absurd rfl (m.2.2 a)
  ·have o:=O.2;rcases o with⟨rfl,_⟩|⟨g,cap,x,rfl,_,y,_⟩
   ·cases m.2.1
   ·have A:g=b:=QL m.2.1;subst A;rw[y]at f;injection f with f;injection f with _ h3;exact j h3.symm
theorem zJ0(P:EH D B bd d w){a c:Nat}{na:OA}{nc:Nat}{ta:Value}{tx:List Tx}(S:Bh 3 w (.slice na 2 nc) [(a:Int),(c:Int)])(ha:a<=1000000)(hc:c<=1000000):
  Ep PP 20 #[.pointer (some ⟨bd,0,none⟩),.slice na 2 nc,ta] w (GI D B bd w (EY d .edge [(a:Int),(c:Int)] tx)) (FQ D B bd w d (EY d .edge [(a:Int),(c:Int)] tx)):=by
 obtain⟨R,ev,gw,cw,X,sp,I⟩:=P;have a2:=I.reg bd I.bdD;have a3:=I.chk.ne;have a4:d.g=⟨d.g.n,d.g.es,d.g.ws⟩:=rfl;refine HI Ab rfl ?_;refine Cn (ds:=enc (OZ d.g.n ev gw cw)) (B:=I.blk) rfl rfl (Ao λb7 w1 n1 Z1=>?_);have a5:=n1.lo (u:=w);refine DH (B:=Z1) (vs:=enc (OZ d.g.n ev gw cw)) rfl rfl rfl (AL.one _) λw2 K f2 _=>?_;have K:Bk w2 b7 (enc (OZ d.g.n ev gw cw)) 35:=K;have s2:AC w w2:=⟨Fr.st (Le.e (a:=w) (b:=w1)) f2 λi hi=>by omega⟩;have z2:=s2.e.size;have l7:=K.lt;refine WS Ab mixed (λi=>i=b7\/AV B ev.v i) (.one 0 (.one 2 (.one 3 (.one 4 (.one 5 (.one 6 (.one 7 (.one 8 (.duo 1 (.one 9 (.one 10 (.one 11 (.one 12 .nil)))) 9 (.lone 1 (.one 10 (.one 11 (.one 12 .nil))))))))))))) (by kernel_rfl) λu e _=>?_
 have L:∀b,Value.blk (.slice na 2 nc)=some b->¬(b=b7\/AV B ev.v b):=λb hb=>by
  rintro(h|h)
  ·exact(Bh.up (w':=w2) S).neB (by simp) hb K (by decide) h
  ·exact(Bh.up (w':=w2) S).notOwn (by simp) hb (I.es.up (w':=w2)) (by decide) h
 refine CN (i:=0) (x:=(a:Int)) (Bh.up (w':=u) S).1 rfl λb3 o3 A3 h3=>AP (A3.cell0 rfl) (L _ h3) (CN (i:=1) (x:=(c:Int)) (Bh.up (w':=u) S).1 rfl λb4 o4 A4 h4=>AP (A4.cell0 rfl) (L _ h4) (Aq (cs:=enc (⟨a,c⟩:BO)) rfl ?_));have su:AC w2 u:=⟨e.e⟩;have a6:AC w u:=stp;have Zu:=K.mv (w:=u);refine⟨Cx (B:=Zu) rfl ⟨Fr.refl _ _,HS (⟨a,c⟩:BO) rfl rfl (by decide) λb5 y e5 _ S5=>⟨Fr.fr e5.e,?_⟩⟩,HS (⟨a,c⟩:BO) rfl rfl (by decide) λb5 y e5 _ S5=>⟨Fr.fr e5.e,Cx (B:=Zu.mv (w:=y)) rfl ⟨Fr.refl _ _,?_⟩⟩⟩
 all_goals
  have z5:=Le.size (a:=w) (b:=y);have O5:AD B 74 y ev.v d.g.es:=I.es.up;refine TZ ⟨rfl,rfl⟩ O5 S5 (by simp) (by omega) (by simp only[List.length_cons,List.length_nil];omega) λv6 u6 O6 P6 J a0=>⟨J.mono λi _ h=>.inr h,?_⟩;have M:AC w y:=stp;have z6:=J.size;have Z6:=(Zu.mv (w:=y)).fro O5 J (by decide);have E:=O6.shape;obtain⟨N,O,rfl⟩:=E;refine DH (B:=Z6) (vs:=[.slice N _ O]) rfl rfl rfl (by intro u hu;simp at hu;subst hu;rfl) λt Z7 F z7=>⟨F.mono λi _ h=>.inl h,?_⟩;have E:∃f:Al,f = { d.g with es:=d.g.es++[⟨a,c⟩] }:=⟨_,rfl⟩;obtain⟨f,q⟩:=E;have r:f.n=d.g.n:=by rw[q]
  have A:f.es=d.g.es++[⟨a,c⟩]:=by rw[q]
  have j:f.ws=d.g.ws:=by rw[q]
  have E:∃p:SV,p=⟨N,(d.g.es++[(⟨a,c⟩:BO)]).length,O⟩:=⟨_,rfl⟩;obtain⟨p,Q⟩:=E;have C:p.v=.slice N (d.g.es++[(⟨a,c⟩:BO)]).length O:=by rw[Q];rfl
  have Z7:Bk t b7 (enc (OZ d.g.n p gw cw)) 35:=by rw[Q];exact Z7
  have O7:AD B 74 t p.v f.es:=by rw[C,A];exact O6.frc F Z6 (by decide)
  have P7:AD B 74 t ev.v d.g.es:=P6.frc F Z6 (by decide);have M7:=((I.ws.up (w':=y)).fro O5 J (by decide) (by decide)).frc F Z6 (by decide) (by decide);have K7:Bk t bd [.int .i64 (d.g.n:Int),ev.v,.slice (some ⟨gw,0,none⟩) d.g.n cw,.pointer sp] 38:=((I.blk.mv (w:=y)).fro O5 J (by decide)).fr F (by omega);have F7:Fr (λi=>Value.blk ev.v=some i) w t:=Fr.new ((Fr.fr M.e).trans (J.mono λi _ h=>h.2.1)) F λi hi=>by omega
  have a7:=F7.size
  have T:∀b,Value.blk p.v=some b->Value.blk ev.v=some b\/(w.heap.size<=b/\b<t.heap.size):=λb hb=>by
   rw[C]at hb;rcases a0 with h|⟨h,_⟩
   ·have h':Value.blk (.slice N (d.g.es++[(⟨a,c⟩:BO)]).length O)=Value.blk ev.v:=h;left;rw[<-h'];exact hb
   ·right;have h:Value.blk (.slice N (d.g.es++[(⟨a,c⟩:BO)]).length O)=some y.heap.size:=h;rw[hb]at h;have a8:=Option.some.inj h;have E:=O6.lt (by simp);obtain⟨b',h1,_,h3⟩:=E;rw[hb]at h1;have:=Option.some.inj h1;have:=F.size;omega
  have U:DI 28 9 B gw f.n cw X (λv=>f.ws.getD v []) t:=by rw[r,j];exact M7
  have hX:=M7.len;have a9:=I.chk.nw;have b0:=I.chk.n2
  have V7:Kt t (OZ d.g.n p gw cw) f X:=by
   refine⟨by rw[r],O7.sl,M7.row.sl,⟨by rw[j];omega,λi h1 h2=>?_⟩,⟨by rw[A,List.length_append,List.length_singleton];omega,by omega,λl V=>?_⟩,λl V s hs=>?_⟩
   ·have:=(U.own i X[i] (by simp)).sl;rw[List.getD_eq_getElem?_getD,List.getElem?_eq_getElem h2]at this;exact this
   ·rw[j]at V;have:=(I.chk.word l V).1;omega
   ·rw[j]at V;have:=((I.chk.word l V).2 s hs).2.2;omega
  have a1:DL f->EY d .edge [(a:Int),(c:Int)] tx=.ok (Ir,{ d with g:=f }):=λh=>by
   rw[q]at h ⊢;exact if_pos h
  have hdn:¬DL f->EY d .edge [(a:Int),(c:Int)] tx=.error 20:=λh=>by
   rw[q]at h;exact if_neg h
  refine Cn (ds:=enc (OZ d.g.n p gw cw)) (B:=Z7) rfl rfl (AA (dK V7) ?_);rintro _ u8 (⟨m,⟨xn,vs,rfl,_,_,_⟩,e8⟩|⟨m,rfl,e8⟩)
  ·refine AA iA ?_;rintro _ o ⟨rfl,e9⟩;refine Cn (ds:=enc (OZ d.g.n p gw cw)) (B:=Z7.mv (w:=o)) rfl rfl (DH (B:=K7.mv (w:=o)) (vs:=enc (OZ d.g.n p gw cw)) rfl rfl rfl (AL.one _) λW G H b1=>?_);have Y:AC t o:=stp;have z9:=Y.e.size;have G:Bk W bd [.int .i64 (f.n:Int),p.v,.slice (some ⟨gw,0,none⟩) f.n cw,.pointer sp] 38:=by rw[r];exact G
   have Z:Fr (λi=>Value.blk ev.v=some i\/i=bd) w W:=((F7.mono λi _ h=>.inl h).trans (Fr.fr Y.e)).trans (H.mono λi _ h=>.inr h);refine⟨_,_,a1 m,I1,rfl,⟨R,p,gw,cw,X,sp,I.re Z (λi hi=>?_) G ((O7.up (w':=o)).frc H (K7.mv (w:=o)) (by decide)) (λb hb=>(T b hb).imp id λh=>by omega) ((U.up (w':=o)).frc H (K7.mv (w:=o)) (by decide) (by decide)) (.inl rfl) (λv z b h hb=>.inl ⟨v,z,h,hb⟩) m⟩,Z.mono λi _ hi=>?_⟩
   ·rcases hi with hi|hi
    ·exact I.Res i hi
    ·rw[hi];exact I.Rbd
   ·rcases hi with hi|hi
    ·exact I.esD i hi
    ·rw[hi];exact I.bdD
  ·refine AO zNK ?_ ?_
   ·rintro _ _ ⟨h,_⟩;exact absurd h (by decide)
   ·rintro _ o ⟨_,rfl,e9⟩;have Y:AC t o:=stp;have F9:Fr (λi=>Value.blk ev.v=some i) w o:=F7.trans (Fr.fr Y.e);have z9:=Y.e.size;refine⟨20,hdn m,rfl,⟨R,ev,gw,cw,X,sp,I.re F9 (λi hi=>I.Res i hi) (K7.mv (w:=o)) (P7.up (w':=o)) (λb hb=>.inl hb) (M7.up (w':=o)) (.inl rfl) (λv z b h hb=>.inl ⟨v,z,h,hb⟩) I.chk⟩,F9.mono λi _ hi=>I.esD i hi⟩
end
section
variable {α:Type} [AL α] {e1 e2:TypeId} {B g n c:Nat} {X:List SV} {L:Nat->List α} {w w':World}
theorem DI.back(d:e1≠e2){v:Nat}{z:SV}{l m:World}(M:DI e1 e2 B g n c X L w)(f:X[v]? = some z)(r:AD B e2 l z.v (L v))(p:Fr (AV B z.v) w l)
  (q:AD B e1 l (.slice (some ⟨g,0,none⟩) n c) X)(s:AD B e1 m (.slice (some ⟨g,0,none⟩) n c) X)(o:Fr (AV B (.slice (some ⟨g,0,none⟩) n c)) l m):DI e1 e2 B g n c X L m:=by
 refine⟨s,M.len,λj y a=>?_,λj y b a hb=>?_,M.apart⟩
 ·by_cases e:j=v
  ·subst e;rw[f]at a;cases a;exact r.fro q o (λe=>d e.symm)
  ·exact((M.own j y a).fr p λb _ hb h=>M.apart j y v z a f e b hb h.2.1).fro q o (λe=>d e.symm)
 ·have:=M.lt j y b a hb;have:=p.size;have:=o.size;omega
end
theorem x9{α:Type}{l:List (List α)}{v:Nat}{f:List α->List α}(a:v<l.length):(λu=>(l.modify v f).getD u [])=λu=>if u=v then f (l.getD v []) else l.getD u []:=by grind
section
variable {D:Nat->Prop} {B bd:Nat} {d:DB} {w w':World} {R:Nat->Prop} {ev:SV} {gw cw:Nat} {X:List SV} {sp:OA}
theorem zJ7(P:EH D B bd d w){a:Nat}{na:OA}{nc:Nat}{ta:OA}{tc:Nat}{t:Tx}(S:Bh 3 w (.slice na 1 nc) [(a:Int)])(T:Bh 9 w (.slice ta 1 tc) (Ek [t]))(hT:∀b,Value.blk (.slice ta 1 tc)=some b->¬D b)(ha:a<=1000000)(ht:t.length<=1000000):
  Ep PP 21 #[.pointer (some ⟨bd,0,none⟩),.slice na 1 nc,.slice ta 1 tc] w (GI D B bd w (EY d .word [(a:Int)] [t])) (FQ D B bd w d (EY d .word [(a:Int)] [t])):=by
 have P0:=P;obtain⟨R,ev,gw,cw,X,sp,I⟩:=P;have e7:=I.reg bd I.bdD;have c2:=I.reg gw I.gwD;have e9:=I.chk.n2;have c3:=I.chk.nw;refine HI Ab rfl ?_;refine dQ 9 λu1 e1=>CN (i:=0) (x:=(a:Int)) (Bh.up (w':=u1) S).1 rfl λb3 o3 A3 _=>AP (A3.cell0 rfl) nf (tX I.blk rfl nf (ite (λf0=>?_) (λBS=>?_)))
 ·refine AO (pY P0 (r:=EY d .word [(a:Int)] [t]) stp (if_pos (show(d.g.n:Int)<=(a:Int) by omega)) (by decide)) ?_ ?_
  ·intro _ _ h;exact h.elim
  ·intro _ _ h;exact h
 have a2:EY d .word [(a:Int)] [t]=_:=if_neg (show ¬(d.g.n:Int)<=(a:Int) by omega);have hX:=I.ws.len;have c:X[a]? = some (X[a]'(by omega)):=by simp
 have H:∃z,z=X[a]'(by omega):=⟨_,rfl⟩;obtain⟨z,hz⟩:=H;rw[<-hz]at c;refine dQ 11 λu2 e2=>tX I.blk rfl nf (CN (i:=0) (x:=(a:Int)) (Bh.up (w':=u2) S).1 rfl λb4 o4 A4 _=>AP (A4.cell0 rfl) nf (CN (i:=a) (x:=z) ((I.ws.up (w':=u2)).row.sl) c λb5 o5 A5 _=>AP (A5.cell0 rfl) nf (dD (λi=>i=gw\/AV B z.v i) (Hq 16 0) λu3 e3=>?_)));have f1:=I.chk.n1;have f2:AC w u3:=stp;have Oz:=I.ws.own a z c;have a3:AV B (.slice (some ⟨gw,0,none⟩) d.g.n cw) gw:=⟨c2.1,rfl,λa h=>by injection h with _ h2;omega⟩
 have M:¬(bd=gw\/AV B z.v bd):=by
  rintro(h|h)
  ·exact I.blk.notOwn I.ws.row (by decide) (by rw[h];exact a3)
  ·exact I.blk.notOwn Oz (by decide) h
 have a4:∀b,Value.blk (.slice na 1 nc)=some b->¬(b=gw\/AV B z.v b):=λb hb=>by
  rintro(h|h)
  ·exact S.notOwn (by simp) hb I.ws.row (by decide) (by rw[h];exact a3)
  ·exact S.notOwn (by simp) hb Oz (by decide) h
 have c4:∀b,Value.blk (.slice ta 1 tc)=some b->¬(b=gw\/AV B z.v b):=λb hb=>by
  rintro(h|h)
  ·exact hT b hb (h ▸ I.gwD)
  ·exact hT b hb (I.wsD a z b c h.2.1)
 refine tX I.blk rfl M (CN (i:=0) (x:=(a:Int)) (Bh.up (w':=u3) S).1 rfl λb6 o6 A6 h6=>AP (A6.cell0 rfl) (a4 _ h6) (CN (i:=0) (x:=(⟨t.toArray⟩:ByteArray)) (Bh.up (w':=u3) T).1 rfl λb7 o7 A7 h7=>AP (A7.cell0 rfl) (c4 _ h7) (bS (⟨t.toArray⟩:ByteArray) λb8 u8 e8 _ S8=>⟨Fr.fr e8.e,?_⟩)));have z8:=lz w u8;have M8:=I.ws.up (w':=u8);have O8:=M8.own a z c
 have f3:(d.g.ws.getD a []).length<=8:=by
  rw[Qk,Qd (by omega)];exact(I.chk.word _ (Qa _)).1
 refine TZ ⟨rfl,rfl⟩ O8 S8 (by simp) (by omega) (by simp only[QA,QZ];omega) λW u9 O9 P9 J a5=>⟨J.mono λi _ h=>.inr h,?_⟩;have R9:=M8.row.fro O8 J;refine ET rfl R9 (i:=a) c λc5 N _ f4=>?_;have Y:gw=c5:=QL N;subst Y;refine CW rfl (Fi W) R9 N (by omega) (by obtain⟨a7,c7,rfl⟩:=O9.shape;rfl) λm c6 o c8=>⟨o.mono λi _ h=>.inl (QL h.2.1).symm,?_⟩;have z9:=J.size;have a6:AC w u8:=stp;have H:∃q:Al,q = { d.g with ws:=d.g.ws.modify a (·++[AS t]) }:=⟨_,rfl⟩;obtain⟨q,A⟩:=H;have f:q.n=d.g.n:=by rw[A]
 have C:q.es=d.g.es:=by rw[A]
 have E:q.ws=d.g.ws.modify a (·++[AS t]):=by rw[A]
 have e4:q.ws.length=d.g.n:=by rw[E,List.length_modify];exact c3
 have F:DI 28 9 B gw q.n cw (X.set a (Fi W)) (λv=>q.ws.getD v []) m:=by
  rw[f,E,x9 (by omega)];exact M8.put (by decide) c O9 J a5 c6 o c8
 have Z:AD B 74 m ev.v d.g.es:=((I.es.up (w':=u8)).fro O8 J).fro R9 o;have K:Bk m bd [.int .i64 (d.g.n:Int),ev.v,.slice (some ⟨gw,0,none⟩) d.g.n cw,.pointer sp] 38:=((I.blk.mv (w:=u8)).fro O8 J).fro R9 o;have a8:Fr (λi=>i=gw\/Value.blk z.v=some i) w m:=((Fr.fr a6.e).trans (J.mono λi _ h=>.inr h.2.1)).trans (o.mono λi _ h=>.inl (QL h.2.1).symm)
 have a9:∀i,(i=gw\/Value.blk z.v=some i)->¬R i:=λi hi=>by
  rcases hi with rfl|hi
  ·exact I.Rgw
  ·exact I.Rws a z i c hi
 have b0:∀i,(i=gw\/Value.blk z.v=some i)->D i:=λi hi=>by
  rcases hi with rfl|hi
  ·exact I.gwD
  ·exact I.wsD a z i c hi
 have e5:=F.len
 have O:∀l∈q.ws,l.length<=9/\∀s∈l,s.size<=1000000:=λl hl=>by
  rw[E]at hl;have H:=QI.1 hl;obtain⟨j,hj,rfl⟩:=H;rw[List.length_modify]at hj;have hw:=I.chk.word _ (Qa hj);rw[List.getElem_modify];split
  ·refine⟨by rw[Qb,VC];omega,λs hs=>?_⟩;have H:=Qf.1 hs;rcases H with hs|hs
   ·have:=(hw.2 s hs).2.2;omega
   ·rw[Qc.1 hs];show(⟨t.toArray⟩:ByteArray).size<=_;rw[AM];exact ht
  ·exact⟨by omega,λs hs=>by have:=(hw.2 s hs).2.2;omega⟩
 have c9:Kt m (OZ d.g.n ev gw cw) q (X.set a (Fi W)):=by
  have Q:=F.row.sl;rw[f]at Q;refine⟨by rw[f],by rw[C];exact Z.sl,Q,⟨by omega,λi h1 h2=>?_⟩,⟨by rw[C];have:=I.chk.ne;omega,by omega,λl hl=>by have:=(O l hl).1;omega⟩,λl hl=>(O l hl).2⟩;have:=(F.own i (X.set a (Fi W))[i] (by rw[Qd h1])).sl;rw[Qk,Qd h2]at this;exact this
 have d0:DL q->EY d .word [(a:Int)] [t]=.ok (Ir,{ d with g:=q }):=λh=>by
  rw[A]at h ⊢;exact a2.trans (if_pos h)
 have d1:¬DL q->EY d .word [(a:Int)] [t]=.error 20:=λh=>by
  rw[A]at h;exact a2.trans (if_neg h)
 refine rG K (OZ d.g.n ev gw cw) (AA (gF c9) ?_);rintro _ a0 ⟨⟨rfl,p⟩|⟨rfl,p⟩,b1⟩
 ·have b2:=a8.trans (Fr.fr b1.e);have f5:=b1.e.size;refine⟨_,_,d0 p,I1,rfl,⟨R,ev,gw,cw,_,sp,I.re b2 a9 (by rw[f];exact K.mv) (by rw[C];exact Z.up) (λb hb=>.inl hb) F.up (.inl rfl) (λv y b h hb=>?_) p⟩,b2.mono λi _ hi=>b0 i hi⟩;rw[Vw]at h;split at h
  ·rename_i hv;split at h
   ·have hy:=QL h;subst hy;rw[NZ O9.sl]at hb;rcases a5 with h9|⟨h9,_⟩
    ·rw[h9]at hb;exact .inl ⟨a,z,c,hb⟩
    ·rw[h9]at hb;have f6:=QL hb;have H:=O9.lt (by simp);obtain⟨b',h1,_,h3⟩:=H;rw[h9]at h1;have:=QL h1;exact .inr (by omega)
   ·cases h
  ·exact .inl ⟨v,y,h,hb⟩
 ·have d2:AD B 28 a0 (.slice (some ⟨gw,0,none⟩) d.g.n cw) (X.set a (Fi W)):=by
   have:=F.row.up (w':=a0);rw[f]at this;exact this
  have d3:=K.mv (w:=a0);refine dD (λi=>i=gw) (Hq 11 0) λG f7=>?_;have U:AC m G:=stp;have d4:¬bd=gw:=λh=>M (.inl h)
  have d5:Bh 3 G (.slice na 1 nc) [(a:Int)]:=by
   have h8:=Bh.up (w':=u8) S;exact Bh.up (w:=m) (Bh.fro (Bh.fro h8 O8 J (by decide)) R9 o)
  refine tX d3 rfl d4 (CN (i:=0) (x:=(a:Int)) d5.1 rfl λf8 f9 d6 d7=>AP (d6.cell0 rfl) (λh=>a4 _ d7 (.inl h)) ?_);have L:=d2.up (w':=G);refine ET rfl L (i:=a) (x:=Fi W) (by rw[Vw,if_pos rfl,if_pos (by omega)]) λd8 V _ g0=>?_;have Y:gw=d8:=QL V;subst Y;refine CW rfl z L V (by rw[Jc];omega) rfl λb9 c0 u g1=>⟨u.mono λi _ h=>(QL h.2.1).symm,?_⟩
  have d9:(X.set a (Fi W)).set a z=X:=by
   rw[List.set_set];apply Vl;intro j;rw[Vw];split
   ·rename_i h;subst h;rw[if_pos (by omega),c]
   ·rfl
  rw[d9]at c0;have a1:Fr (AV B (.slice (some ⟨gw,0,none⟩) d.g.n cw)) u9 b9:=(o.trans (Fr.fr U.e)).trans u;have e0:=M8.back (by decide) c P9 J R9 c0 a1;have e6:=u.size;have c1:Fr (λi=>i=gw\/Value.blk z.v=some i) w b9:=(a8.trans (Fr.fr U.e)).trans (u.mono λi _ h=>.inl (QL h.2.1).symm);refine AO TY ?_ ?_
  ·rintro _ _ ⟨h,_⟩;exact absurd h (by decide)
  ·rintro _ w9 ⟨_,rfl,rfl⟩;exact⟨20,d1 p,rfl,⟨R,ev,gw,cw,X,sp,I.re c1 a9 (((K.mv (w:=G)).fro L u)) ((Z.up (w':=G)).fro L u) (λb hb=>.inl hb) e0 (.inl rfl) (λv y b h hb=>.inl ⟨v,y,h,hb⟩) I.chk⟩,c1.mono λi _ hi=>b0 i hi⟩
end
section
variable {D:Nat->Prop} {B bd:Nat} {d:DB} {w w':World} {R:Nat->Prop} {ev:SV} {gw cw:Nat} {X:List SV} {sp:OA}
theorem zH8(P:EH D B bd d w){q a2 r t y:Nat}{N:OA}{O:Nat}{ta:Value}{J:List Tx}(S:Bh 3 w (.slice N 5 O) [(q:Int),(a2:Int),(r:Int),(t:Int),(y:Int)]):
  Ep PP 24 #[.pointer (some ⟨bd,0,none⟩),.slice N 5 O,ta] w (GI D B bd w (EY d .server [(q:Int),(a2:Int),(r:Int),(t:Int),(y:Int)] J)) (FQ D B bd w d (EY d .server [(q:Int),(a2:Int),(r:Int),(t:Int),(y:Int)] J)):=by
 have P0:=P;obtain⟨R,ev,gw,cw,X,sp,I⟩:=P;have a4:=I.reg bd I.bdD;have Q:=S.blkN (by simp);obtain⟨bn,T,a3⟩:=Q
 have j:∀b,Value.blk (.slice N 5 O)=some b->¬w.heap.size<=b:=λb hb=>by
  rw[T]at hb;have:=Option.some.inj hb;omega
 refine HI Ab rfl ?_;refine Nq Ab mixed (λi=>w.heap.size<=i) [0,1,2,3,4,5,6,7,8,9,10,11,12,13,14,15,16,17] (by kernel_rfl) λu e _=>CN (i:=0) (x:=(q:Int)) (Bh.up (w':=u) S).1 rfl λK L l m=>AP (l.cell0 rfl) (j _ m) (CN (i:=1) (x:=(a2:Int)) (Bh.up (w':=u) S).1 rfl λK L l m=>AP (l.cell0 rfl) (j _ m) (CN (i:=2) (x:=(r:Int)) (Bh.up (w':=u) S).1 rfl λK L l m=>AP (l.cell0 rfl) (j _ m) (CN (i:=3) (x:=(t:Int)) (Bh.up (w':=u) S).1 rfl λK L l m=>AP (l.cell0 rfl) (j _ m) (CN (i:=4) (x:=(y:Int)) (Bh.up (w':=u) S).1 rfl λK L l m=>AP (l.cell0 rfl) (j _ m) ?_))));have Q:∃x:Mm,x=⟨q,a2,r,t,y⟩:=⟨_,rfl⟩;obtain⟨x,U⟩:=Q;refine Aq (cs:=enc x) (by rw[U];rfl) (Ao λb7 w1 n1 Z1=>⟨Fr.fr n1.e,?_⟩);have a5:=n1.lo (u:=w);refine DH (B:=Z1) (vs:=enc x) rfl rfl rfl (AL.one _) λw2 M f2 _=>⟨f2.mono λi _ hi=>by omega,?_⟩;have M:Bk w2 b7 (enc x) 93:=M;have s2:AC w w2:=⟨Fr.st (Le.e (a:=w) (b:=w1)) f2 λi hi=>by omega⟩;have l7:=M.lt;refine WS Ab mixed (λi=>i=bd) (.one 0 (.one 1 (.one 2 (.one 3 (.one 4 (.lone 5 (.one 6 (.one 7 (.one 8 (.one 9 (.one 10 (.one 11 (.one 12 (.one 13 (.one 14 (.one 15 (.one 16 (.one 17 (.one 18 (.one 19 (.one 20 .nil))))))))))))))))))))) (by kernel_rfl) λu3 e3 _=>MW (ds:=enc x) (B:=M) rfl rfl (λh=>by omega) ?_;have V:=I.gr;refine Cn (ds:=enc (OZ d.g.n ev gw cw)) (B:=I.blk.mv (w:=w2)) rfl rfl ⟨Fr.refl _ _,?_⟩;refine AA (dK (V.up (w':=u3))) ?_;rintro _ w4 (⟨hc,⟨xn,vs,rfl,Vn,_,a6⟩,e4⟩|⟨C,_⟩)
 case' inr=>exact absurd I.chk C
 refine⟨Fr.fr e4.e,?_⟩;refine AA iA ?_;rintro _ w5 ⟨rfl,e5⟩;refine⟨Fr.fr e5.e,?_⟩;have o:=cY I.chk;refine AA (zHA (Vn.up (w':=w5)) o) ?_;rintro _ w6 ⟨rfl,e6⟩;refine⟨Fr.fr e6.e,?_⟩;refine AA oR ?_;rintro _ G ⟨rfl,rfl⟩;refine⟨Fr.refl _ _,?_⟩;have a7:=fZ o (k:=(CH d.g).n) (Nat.le_refl _);refine AA (zJC (x:=x) (by omega)) ?_;have A:Sf ((q:Int),(a2:Int),(r:Int),(t:Int),(y:Int))↔KF x:=by rw[U];exact Iff.rfl
 rintro _ w8 ⟨⟨C,rfl⟩|⟨_,hi,_⟩|⟨g2,bs,W,hi,rfl,SP⟩,Y⟩
 ·refine⟨Fr.fr Y.e,?_⟩;have hd:EY d .server [(q:Int),(a2:Int),(r:Int),(t:Int),(y:Int)] J=.error 1:=if_neg λh=>C (A.1 h);refine AO uX ?_ ?_
  ·rintro _ _ ⟨h,_⟩;exact absurd h (by decide)
  ·rintro _ p ⟨_,rfl,rfl⟩;have h9:=HR P0 (w':=p) stp;exact NH rfl rfl ⟨1,hd,rfl,h9.1,h9.2⟩
 ·rw[wH o]at hi;cases hi
 ·refine⟨Fr.fr Y.e,?_⟩;rw[wH o]at hi;have Z:=Option.some.inj hi
  have hd:EY d .server [(q:Int),(a2:Int),(r:Int),(t:Int),(y:Int)] J=.ok (Ir,{ d with s:=some (g2,MF x,Dr (MF x)) }):=by
   rw[<-Z,U];exact if_pos (A.2 W)
  refine AO uX ?_ ?_
  ·rintro _ p ⟨_,rfl,rfl⟩;refine⟨Fr.refl _ _,?_⟩;have H:AC w p:=stp;have z9:=H.e.size;have K9:=I.blk.mv (w:=p);refine DH (B:=K9) (vs:=[.pointer (some ⟨bs,0,none⟩)]) rfl rfl rfl (by intro u hu;simp at hu;subst hu;rfl) λE F f a8=>⟨f,?_⟩;have F:Bk E bd [.int .i64 (d.g.n:Int),ev.v,.slice (some ⟨gw,0,none⟩) d.g.n cw,.pointer (some ⟨bs,0,none⟩)] 38:=F;have a0:Fr (λi=>i=bd) w E:=(Fr.fr H.e).trans f;have a9:=Le.size (a:=w) (b:=G);have b0:=Y.e.size;have a1:∀i,(G.heap.size<=i/\i<p.heap.size)->w.heap.size<=i/\i<E.heap.size:=λi hi=>by omega
   have c:∀i,D i->¬(G.heap.size<=i/\i<p.heap.size):=λi hi=>by have:=I.reg i hi;omega
   refine⟨_,_,hd,I1,rfl,⟨λi=>G.heap.size<=i/\i<p.heap.size,ev,gw,cw,X,_,⟨λi hi=>?_,.inl I.bdD,F,(I.es.up (w':=p)).frc f K9 (by decide),λb hb=>.inl (I.esD b hb),(I.ws.up (w':=p)).frc f K9 (by decide) (by decide),.inl I.gwD,λv z b h hb=>.inl (I.wsD v z b h hb),I.chk,λi hi=>.inr (a1 i hi),c bd I.bdD,λb hb=>c b (I.esD b hb),c gw I.gwD,λv z b h hb=>c b (I.wsD v z b h hb),⟨bs,G.heap.size,rfl,by have:=f.size;omega,SP.away f λi hi=>by rw[hi];exact c bd I.bdD⟩⟩⟩,a0.mono λi _ hi=>hi ▸ I.bdD⟩;rcases hi with hi|hi
   ·have:=I.reg i hi;omega
   ·omega
  ·rintro _ _ ⟨h,_⟩;exact absurd rfl h
end
theorem zOJ{c:DP}{s:EV}{y:Bj}(a:EU y):HY g c s (FK y)=((Fx g c s y).1,(Fx g c s y).2.map λp=>GK (p.1,p.2,Dw)):=by grind[EU,FK,Dw,HY,Fx,GK,WH]
theorem zNH{y:Bj}(a:EU y):(FK y).length<=1000:=by
 have b:=a.2.1;have v:=Km b
 have e:y.kind=1\/y.kind=2\/y.kind=3\/y.kind=4:=by
  by_cases h:y.kind=4
  ·omega
  ·have j:=(a.1.resolve_left h).1;have:=(a.1.resolve_left h).2.1;omega
 have x:=Km (n:=y.kind) (by omega)
 have z:(MV y).length<=200:=by
  unfold MV;split
  ·simp
  ·rename_i d;have c:=(a.1.resolve_left d).2;have A:=(a.1.resolve_left d).1;have C:=Km (n:=y.q.frm) (by have:=c.2.1;omega);split
   ·rename_i o;have p:=c.2.2.2 (by omega);have r:=Km (n:=y.q.rad) (by omega);have E:=Km (n:=y.q.most) (by omega);have F:=Lp (n:=y.q.words.length) (by omega)
    have h:=cL (f:=DS) (m:=17) (l:=y.q.words) λs t=>by
     have j:=(p.2.2.2 s t).2.2;have u:s.data.toList.length=s.size:=Vc;have:=Lp (n:=s.size) (by omega);unfold DS;rw[Qb];omega
    unfold Ll;simp only[Qb];omega
   ·rename_i o;have r:=Km (n:=y.q.to) (by have:=c.2.2.1 (by omega);omega);rw[Qb];omega
 unfold FK;rw[Qb,Qb];omega
theorem zO(s:EV)(id:Int):(DK s id).2=253\/(DK s id).2=141:=by
 unfold DK;split
 ·exact .inl rfl
 ·split
  ·exact .inl rfl
  ·exact .inr rfl
theorem zOK{c:DP}{s:EV}{y:Bj}(f:Db g c s)(j:EU y){p:Int×Int}(b:(Fx g c s y).2=some p):BE (BC p.1 p.2 Dw) Dw.hits:=by
 have d:=j.2.1;have mk:∀a:Int,0<=a/\a<=1000->BE (BC y.id a Dw) Dw.hits:=λa l=>⟨d,l,⟨Vr 0,(show(0:Int)<=400 by decide)⟩,XE _,λ_=>⟨rfl,rfl,rfl⟩,λ_=>⟨rfl,rfl⟩,.inl rfl,λh m=>nomatch m⟩;unfold Fx at b;split at b
 ·have:=QL b;subst this;have:=zO s y.id;exact mk _ (by dsimp only;omega)
 ·split at b
  ·cases b
  ·rename_i h0;have:=QL b;subst this;have o:=Ng (x:=y) f d;rcases o with⟨e,_⟩|⟨e,_⟩
   ·exact absurd e h0
   ·exact mk _ (by dsimp only;omega)
section
variable {D:Nat->Prop} {B bd:Nat} {d:DB} {w w':World} {R:Nat->Prop} {ev:SV} {gw cw:Nat} {X:List SV} {sp:OA}
def Gk (B:Nat) (w:World):Prop:=∀u,Fr (λi=>B<=i) w u->HX u
theorem Gk.at(G:Gk B w):HX w:=G w (Fr.refl _ _)
theorem Gk.next(G:Gk B w)(f:Fr (λi=>B<=i) w w'):Gk B w':=λu g=>G u (f.trans g)
theorem LS.wide{Z:Nat->Prop}(I:LS D B bd d w R ev gw cw X sp)(h:∀i,D i->Z i)(a:∀i,Z i->B<=i/\i<w.heap.size):LS Z B bd d w R ev gw cw X sp:=
 ⟨a,h _ I.bdD,I.blk,I.es,λb hb=>h b (I.esD b hb),I.ws,h _ I.gwD,λv z b c hb=>h b (I.wsD v z b c hb),I.chk,λi hi=>h i (I.RD i hi),I.Rbd,I.Res,I.Rgw,I.Rws,I.srv⟩
theorem EH.next{b:DB}(P:EH (gR D w w1) B bd b w1)(e:Fr (λ_=>False) w1 w2)(f:w.heap.size<=w1.heap.size):EH (gR D w w2) B bd b w2:=by
 obtain⟨R,ev,gw,cw,X,sp,I⟩:=P;have z:=e.size;have J:=I.ext e
 have h:∀i,gR (gR D w w1) w1 w2 i↔gR D w w2 i:=λi=>by
  constructor
  ·rintro((h|h)|h)
   ·exact .inl h
   ·exact .inr (by omega)
   ·exact .inr (by omega)
  ·rintro(h|h)
   ·exact .inl (.inl h)
   ·have c:=QH i w1.heap.size;rcases c with a|a
    ·exact .inl (.inr ⟨h.1,a⟩)
    ·exact .inr ⟨a,h.2⟩
 exact⟨R,ev,gw,cw,X,sp,J.wide (λi hi=>(h i).1 hi) λi hi=>J.reg i ((h i).2 hi)⟩
theorem LS.went(I:LS D B bd d w R ev gw cw X sp){e:Nat->Prop}{c:DP}{s:EV}{bs B':Nat}(j:sp=some ⟨bs,0,none⟩)(x:B'<=w.heap.size)(f:Fr R w w')(m:Ay e B' w' bs g c s)(l:∀i,e i->gR R w w' i):
  LS (gR D w w') B bd { d with s:=some (g,c,s) } w' e ev gw cw X sp:=by
 have o:=I.reg bd I.bdD;have p:=f.size
 have a:∀i,D i->¬R i->¬e i:=λi q r t=>by
  have:=I.reg i q;have u:=l i t;rcases u with h|h
  ·exact r h
  ·omega
 refine⟨λi hi=>?_,.inl I.bdD,I.blk.fr f I.Rbd,I.es.fr f λb _ hb=>I.Res b hb,λb hb=>.inl (I.esD b hb),?_,.inl I.gwD,λv z b h hb=>.inl (I.wsD v z b h hb),I.chk,λi hi=>(l i hi).imp (I.RD i) id,a _ I.bdD I.Rbd,λb hb=>a b (I.esD b hb) (I.Res b hb),a _ I.gwD I.Rgw,λv z b h hb=>a b (I.wsD v z b h hb) (I.Rws v z b h hb),⟨bs,B',j,by omega,m⟩⟩
 ·rcases hi with hi|hi
  ·have:=I.reg i hi;omega
  ·omega
 ·exact⟨I.ws.row.fr f λb _ hb=>by have:=QL hb;subst this;exact I.Rgw,I.ws.len,λv z h=>(I.ws.own v z h).fr f λb _ hb=>I.Rws v z b h hb,λv z b h hb=>QJ (I.ws.lt v z b h hb) p,I.ws.apart⟩
theorem kC(P:EH D B bd d w)(G:Gk B w){x:Ax}{y:Bj}(hk:x.kind=y.kind)(h4:y.kind=4->y=⟨x.id,4,Ly⟩)(hV:y.kind≠4->ME w ⟨x.id,x.kind,{ x.q with kind:=x.kind }⟩ y)(hl:y.q.words.length<=1000000)(hw:∀s∈y.q.words,s.size<=1000000)(Z:d.s.isSome=true):
  Ep PP 56 #[.pointer (some ⟨bd,0,none⟩),agg x] w (GI D B bd w (CV d y)) (FQ D B bd w d (CV d y)):=by
 have P0:=P;obtain⟨R,ev,gw,cw,X,sp,I⟩:=P;have a1:=I.reg bd I.bdD
 cases f:d.s with
 |none=>rw[f]at Z;cases Z
 |some p =>
 obtain⟨g,c,s⟩:=p;have A:=I.srv;rw[f]at A;obtain⟨bs,B',rfl,hB,SP⟩:=A
 have a:EU y->CV d y=.ok (match (Fx g c s y).2 with|none=>Ir|some p=>Dk (p.1,p.2,Dw),{ d with s:=some (g,c,(Fx g c s y).1) }):=λh=>by
  unfold CV;rw[f];exact if_pos h
 have L:¬EU y->CV d y=.error 1:=λh=>by
  unfold CV;rw[f];exact if_neg h
 refine HI Ab rfl ?_;refine BM λC w1 n1 F=>?_;have F:Bk w1 C (enc x) 103:=F;have a2:=n1.lo (u:=w);refine Cx (B:=F) (v:=.int .i64 x.kind) rfl (DH (B:=F) (vs:=[.int .i64 x.kind]) rfl rfl rfl (HN _) λw2 r f2 z2=>?_);have r:Bk w2 C (enc (⟨x.id,x.kind,{ x.q with kind:=x.kind }⟩:Ax)) 103:=r;have s2:AC w w2:=⟨Fr.st (lE w w1) f2 λi hi=>by omega⟩;have l2:=r.lt;refine Cx (B:=r) (v:=.int .i64 x.kind) rfl ?_;have M:∃t:Ax,t=if y.kind=4 then ⟨x.id,4,⟨0,0,0,⟨none,0,0⟩,0,0⟩⟩ else ⟨x.id,x.kind,{ x.q with kind:=x.kind }⟩:=⟨_,rfl⟩
 obtain⟨t,b⟩:=M
 have V:∀u,AC w u->ME u t y:=λu e=>by
  by_cases h:y.kind=4
  ·rw[if_pos h]at b;rw[b,h4 h];exact⟨rfl,rfl,⟨rfl,rfl,rfl,AQ.nil _,rfl,rfl⟩⟩
  ·rw[if_neg h]at b;rw[b];exact(hV h).up
 have a3:=s2.e.size;refine ite (λN=>?_) (λN=>?_)
 case' refine_1 =>
  refine AJ (cs:=[.int .i64 0,.int .i64 0,.int .i64 0,.slice none 0 0,.int .i64 0,.int .i64 0]) rfl (rS r [.int .i64 0,.int .i64 0,.int .i64 0,.slice none 0 0,.int .i64 0,.int .i64 0] (by intro u hu;simp at hu;rcases hu with rfl|rfl|rfl<;>rfl) λj H f3 _=>?_);have O:y.kind=4:=by omega
  have H:Bk j C (enc t) 103:=by
   rw[b,if_pos O];have Q:x.kind=4:=by omega
   have:Bk j C [.int .i64 x.id,.int .i64 x.kind,.int .i64 0,.int .i64 0,.int .i64 0,.slice none 0 0,.int .i64 0,.int .i64 0] 103:=H;rw[Q]at this;exact this
  have s3:AC w j:=⟨Fr.st (lE w w2) f3 λi hi=>by omega⟩
 case' refine_2 =>
  have M:∃j,j=w2:=⟨_,rfl⟩;obtain⟨j,rfl⟩:=M
  have H:Bk j C (enc t) 103:=by
   rw[b,if_neg (by omega)];exact r
  have s3:AC w j:=s2
 all_goals
  have z3:=s3.e.size;refine dD (λi=>R i) (Hq 15 0) λu e=>tX I.blk rfl I.Rbd (tG H t (λh=>by have:=(I.reg _ (I.RD _ h)).2;omega) ?_);have su:AC w u:=stp;refine AA (zFg (V u su) hl hw) ?_;rintro _ w5 ⟨⟨m,rfl⟩|⟨m,rfl⟩,e5⟩
  ·refine⟨Fr.fr e5.e,?_⟩;refine AA oR ?_;rintro _ S ⟨rfl,rfl⟩;refine⟨Fr.refl _ _,?_⟩;have s6:AC w S:=stp;have z6:=s6.e.size;have a4:=zNH m;refine AA (zIr (SP.up (w':=S)) (by omega) (by omega)) ?_;rintro _ z ⟨rfl,E,T⟩;refine⟨T,?_⟩;rw[zOJ m]at E ⊢;have K:Fr R w z:=(Fr.fr s6.e).trans T;have z7:=T.size;have U:∀i,gR R S z i->gR R w z i:=λi hi=>hi.imp id λh=>by omega
   have J:=I.went rfl hB K E U;have W:=(CT.reg SP).2.2.2;have a:=a m
   cases Y:(Fx g c s y).2 with
   |none =>
    rw[Y]at a;exact⟨_,_,a,I1,rfl,⟨_,_,_,_,_,_,J⟩,K.mono λi _ hi=>I.RD i hi⟩
   |some p =>
    rw[Y]at a;have o:=zOK W m Y;have G7:HX z:=G z (K.mono λi _ hi=>(I.reg i (I.RD i hi)).1);refine AA (rM (p:=(p.1,p.2,Dw)) o G7) ?_;rintro _ w8 ⟨rfl,e8⟩;have a0:(Dk (p.1,p.2,Dw)).length<=10000:=lB (l:=[]) (λy m=>nomatch m) (XE _) rfl o;exact⟨_,_,a,by show(Dk (p.1,p.2,Dw)).length<=_;omega,rfl,EH.next (w1:=z) ⟨_,_,_,_,_,_,J⟩ e8.e (by omega),(K.mono λi _ hi=>I.RD i hi).trans (Fr.fr e8.e)⟩
  ·refine⟨Fr.fr e5.e,?_⟩;refine AO zNc ?_ ?_
   ·rintro _ _ ⟨h,_⟩;exact absurd h (by decide)
   ·rintro _ w9 ⟨_,rfl,rfl⟩;have h9:=HR P0 (w':=w9) stp;exact NH rfl rfl ⟨1,L m,rfl,h9.1,h9.2⟩
end
section
variable {D:Nat->Prop} {B bd:Nat} {d:DB} {w w' u:World} {R:Nat->Prop} {ev:SV} {gw cw:Nat} {X:List SV} {sp:OA}
theorem EH.pre{b:DB}(P:EH (gR (gR D w u) u w') B bd b w')(e:Fr (λ_=>False) w u)(z:u.heap.size<=w'.heap.size):EH (gR D w w') B bd b w':=by
 obtain⟨R,ev,gw,cw,X,sp,I⟩:=P;have f:=e.size
 have h:∀i,gR (gR D w u) u w' i↔gR D w w' i:=λi=>by
  constructor
  ·rintro((h|h)|h)
   ·exact .inl h
   ·exact .inr (by omega)
   ·exact .inr (by omega)
  ·rintro(h|h)
   ·exact .inl (.inl h)
   ·have c:=QH i u.heap.size;rcases c with a|a
    ·exact .inl (.inr ⟨h.1,a⟩)
    ·exact .inr ⟨a,h.2⟩
 exact⟨R,ev,gw,cw,X,sp,I.wide (λi hi=>(h i).1 hi) λi hi=>I.reg i ((h i).2 hi)⟩
theorem Ro(e:Fr (λ_=>False) w u)(f:Fr (gR D w u) u w'):Fr D w w':=((Fr.fr e).trans f).mono λi hi h=>by
 rcases h with h|h
 ·exact h
 ·omega
theorem GI.pre{r:Except Int (Tx×DB)}{v:Value}(e:Fr (λ_=>False) w u)(h:GI (gR D w u) B bd u r v w'):GI D B bd w r v w':=by
 obtain⟨t,d',b,c,f,j,a⟩:=h;exact⟨t,d',b,c,f,j.pre e a.size,Ro e a⟩
theorem FQ.pre{r:Except Int (Tx×DB)}{c:List PanicEntry}(e:Fr (λ_=>False) w u)(h:FQ (gR D w u) B bd u d r c w'):FQ D B bd w d r c w':=by
 obtain⟨n,b,f,j,a⟩:=h;exact⟨n,b,f,j.pre e a.size,Ro e a⟩
theorem r9(P:EH D B bd d w)(G:Gk B w){a b c:Nat}{fn:FuncId}(j:fn=25/\k=1\/fn=26/\k=2){o:OA}{p:Nat}{ta:Value}(S:Bh 3 w (.slice o 3 p) [(a:Int),(b:Int),(c:Int)])(I:∀i,Value.blk (.slice o 3 p)=some i->¬D i)(r:d.s.isSome=true):
  Ep PP fn #[.pointer (some ⟨bd,0,none⟩),.slice o 3 p,ta] w (GI D B bd w (CV d (Lt a k b c [] 0 0))) (FQ D B bd w d (CV d (Lt a k b c [] 0 0))):=by
 have J:=S.blkN (by simp);obtain⟨Q,z,E⟩:=J
 have f:∀i,Value.blk (.slice o 3 p)=some i->¬(D i\/w.heap.size<=i):=λi hi=>by
  have h:=I i hi;rw[z]at hi;have:=QL hi;rintro(q|q)
  ·exact h q
  ·omega
 have K:∀u,Fr (λ_=>False) w u->Ep PP 56 #[.pointer (some ⟨bd,0,none⟩),agg (⟨a,k,⟨0,b,c,⟨none,0,0⟩,0,0⟩⟩:Ax)] u (GI (gR D w u) B bd u (CV d (Lt a k b c [] 0 0))) (FQ (gR D w u) B bd u d (CV d (Lt a k b c [] 0 0))):=λu e=>by
  have A:((k:Nat):Int)≠4:=by rcases j with⟨_,rfl⟩|⟨_,rfl⟩<;>decide
  exact kC (P.ext e) (G.next (Fr.fr e)) (x:=⟨a,k,⟨0,b,c,⟨none,0,0⟩,0,0⟩⟩) (y:=Lt a k b c [] 0 0) rfl (λh=>absurd h A) (λ_=>⟨rfl,rfl,⟨rfl,rfl,rfl,AQ.nil _,rfl,rfl⟩⟩) (XE _) (λs r=>nomatch r) r
 rcases j with⟨rfl,rfl⟩|⟨rfl,rfl⟩
 all_goals
  refine HI Ab rfl ?_;refine dD (λi=>D i\/w.heap.size<=i) (Hq 14 0) λu e=>CN (i:=0) (x:=(a:Int)) (Bh.up (w':=u) S).1 rfl λF H l m=>AP (l.cell0 rfl) (f _ m) (CN (i:=1) (x:=(b:Int)) (Bh.up (w':=u) S).1 rfl λF H l m=>AP (l.cell0 rfl) (f _ m) (CN (i:=2) (x:=(c:Int)) (Bh.up (w':=u) S).1 rfl λF H l m=>AP (l.cell0 rfl) (f _ m) (Aq (cs:=[.int .i64 0,.int .i64 (b:Int),.int .i64 (c:Int),.slice none 0 0,.int .i64 0,.int .i64 0]) rfl (Aq (cs:=enc (⟨a,_,⟨0,b,c,⟨none,0,0⟩,0,0⟩⟩:Ax)) rfl (AO (K u e.e) ?_ ?_)))))
  ·rintro v L h;have q:=h.pre e.e;obtain⟨t,d',M,C,rfl,N,h5⟩:=q;obtain⟨_,_,_,_,_,_,O⟩:=h;exact⟨O.mono λi _ hi=>hi.imp id λh=>h.1,⟨t,d',M,C,rfl,N,h5⟩⟩
  ·rintro c2 L h;exact NH rfl rfl (h.pre e.e)
theorem zJ2(P:EH D B bd d w)(G:Gk B w){a b c:Nat}{p:OA}{q:Nat}{ta:OA}{o tc:Nat}{f:List Tx}(S:Bh 3 w (.slice p 4 q) [(a:Int),(b:Int),(c:Int),(k:Int)])(J:∀i,Value.blk (.slice p 4 q)=some i->¬D i)
  (T:AQ w (.slice ta o tc) (Ek f))(K:f.length<=1000000)(L:∀t∈f,t.length<=1000000)(z:d.s.isSome=true):
  Ep PP 27 #[.pointer (some ⟨bd,0,none⟩),.slice p 4 q,.slice ta o tc] w (GI D B bd w (CV d (Lt a 3 b 0 (f.map AS) c k))) (FQ D B bd w d (CV d (Lt a 3 b 0 (f.map AS) c k))):=by
 have A:=S.blkN (by simp);obtain⟨W,C,I⟩:=A
 have j:∀i,Value.blk (.slice p 4 q)=some i->¬(D i\/w.heap.size<=i):=λi hi=>by
  have h:=J i hi;rw[C]at hi;have:=QL hi;rintro(r|r)
  ·exact h r
  ·omega
 have M:∀u,Fr (λ_=>False) w u->Ep PP 56 #[.pointer (some ⟨bd,0,none⟩),agg (⟨a,3,⟨0,b,0,⟨ta,o,tc⟩,c,k⟩⟩:Ax)] u (GI (gR D w u) B bd u (CV d (Lt a 3 b 0 (f.map AS) c k))) (FQ (gR D w u) B bd u d (CV d (Lt a 3 b 0 (f.map AS) c k))):=λu e=>by
  refine kC (P.ext e) (G.next (Fr.fr e)) (x:=⟨a,3,⟨0,b,0,⟨ta,o,tc⟩,c,k⟩⟩) (y:=Lt a 3 b 0 (f.map AS) c k) rfl (λh=>absurd h (show ¬(3:Int)=4 by decide)) (λ_=>⟨rfl,rfl,⟨rfl,rfl,rfl,AQ.ext T e,rfl,rfl⟩⟩) ?_ (λs z=>?_) z
  ·show(f.map AS).length<=_;rw[Qr];exact K
  ·have A:=Qq.1 (show s∈f.map AS from z);obtain⟨t,N,rfl⟩:=A;show(⟨t.toArray⟩:ByteArray).size<=_;rw[AM];exact L t N
 refine HI Ab rfl ?_;refine dD (λi=>D i\/w.heap.size<=i) (Hq 18 0) λu e=>CN (i:=0) (x:=(a:Int)) (Bh.up (w':=u) S).1 rfl λE F l m=>AP (l.cell0 rfl) (j _ m) (CN (i:=1) (x:=(b:Int)) (Bh.up (w':=u) S).1 rfl λE F l m=>AP (l.cell0 rfl) (j _ m) (CN (i:=2) (x:=(c:Int)) (Bh.up (w':=u) S).1 rfl λE F l m=>AP (l.cell0 rfl) (j _ m) (CN (i:=3) (x:=(k:Int)) (Bh.up (w':=u) S).1 rfl λE F l m=>AP (l.cell0 rfl) (j _ m) (Aq (cs:=[.int .i64 0,.int .i64 (b:Int),.int .i64 0,.slice ta o tc,.int .i64 (c:Int),.int .i64 (k:Int)]) rfl (Aq (cs:=enc (⟨a,3,⟨0,b,0,⟨ta,o,tc⟩,c,k⟩⟩:Ax)) rfl (AO (M u e.e) ?_ ?_))))))
 ·rintro v O h;have r:=h.pre e.e;obtain⟨t,d',Q,H,rfl,U,h5⟩:=r;obtain⟨_,_,_,_,_,_,V⟩:=h;exact⟨V.mono λi _ hi=>hi.imp id λh=>h.1,⟨t,d',Q,H,rfl,U,h5⟩⟩
 ·rintro c2 O h;exact NH rfl rfl (h.pre e.e)
theorem zH7(P:EH D B bd d w)(G:Gk B w){a:Nat}{e:OA}{f:Nat}{ta:Value}(S:Bh 3 w (.slice e 1 f) [(a:Int)])(b:d.s.isSome=true):
  Ep PP 28 #[.pointer (some ⟨bd,0,none⟩),.slice e 1 f,ta] w (GI D B bd w (CV d ⟨a,4,Ly⟩)) (FQ D B bd w d (CV d ⟨a,4,Ly⟩)):=by
 refine HI Ab rfl ?_;refine Bp (i:=0) (x:=(a:Int)) S.1 rfl λp q j=>AF (j.cell0 rfl) (AJ (cs:=enc (⟨a,4,⟨0,0,0,⟨none,0,0⟩,0,0⟩⟩:Ax)) rfl (AO (kC P G (x:=⟨a,4,⟨0,0,0,⟨none,0,0⟩,0,0⟩⟩) (y:=⟨a,4,Ly⟩) rfl (λ_=>rfl) (λh=>absurd rfl h) (XE _) (λs b=>nomatch b) b) ?_ ?_))
 ·rintro v l ⟨t,d',m,c,rfl,o,h5⟩;exact⟨t,d',m,c,rfl,o,h5⟩
 ·rintro c2 l h;exact h
theorem jP{fn fs:FuncId}(e:fn=30/\fs=60\/fn=31/\fs=61\/fn=32/\fs=62)(P:EH D B bd d w)(G:Gk B w){l:List Int}{q ta:Value}
  (t:∀R bs B' g c s,d.s=some (g,c,s)->Ay R B' w bs g c s->Sp PP fs #[.pointer (some ⟨bs,0,none⟩)] w λv w'=>AD w.heap.size 3 w' v l/\AC w w')(h:d.s.isSome=true)(y:l.length<=1000000)(j:∀x∈l,-9223372036854775808<=x/\x<=9223372036854775807){r:Except Int (Tx×DB)}(z:r=.ok (D8 l,d)):
  Ep PP fn #[.pointer (some ⟨bd,0,none⟩),q,ta] w (GI D B bd w r) (FQ D B bd w d r):=by
 have A:=P;obtain⟨R,ev,gw,cw,X,sp,I⟩:=P
 cases a:d.s with
 |none=>rw[a]at h;cases h
 |some p =>
 obtain⟨g,c,s⟩:=p;have b:=I.srv;rw[a]at b;obtain⟨bs,B',rfl,F,C⟩:=b;have f:=t R bs B' g c s a C;rcases e with⟨rfl,rfl⟩|⟨rfl,rfl⟩|⟨rfl,rfl⟩
 all_goals
  refine HI Ab rfl ?_;refine rX I.blk rfl (AA f ?_);rintro v w1 ⟨O,H⟩;have E:=O.shape;obtain⟨J,K,rfl⟩:=E;refine AA (qF (G.at.up (w':=w1)) O.sl j y) ?_;rintro _ w2 ⟨rfl,L⟩;have m:=HR A (w':=w2) stp;have o:=pZ j;exact⟨_,_,z,by omega,rfl,m.1,m.2⟩
end
section
variable {D:Nat->Prop} {B bd:Nat} {d:DB} {w w' u:World} {R:Nat->Prop} {ev:SV} {gw cw:Nat} {X:List SV} {sp:OA}
theorem zJ5(P:EH D B bd d w)(G:Gk B w){K:OA}{L M:Nat}{ta:Value}{l:List Int}{N:List Tx}(S:Bh 3 w (.slice K L M) l)(hS:l≠[]->∀i,Value.blk (.slice K L M)=some i->¬D i)(hs:d.s.isSome=true):
  Ep PP 29 #[.pointer (some ⟨bd,0,none⟩),.slice K L M,ta] w (GI D B bd w (EY d .tick l N)) (FQ D B bd w d (EY d .tick l N)):=by
 have P0:=P;obtain⟨R,ev,gw,cw,X,sp,I⟩:=P
 cases q:d.s with
 |none=>rw[q]at hs;cases hs
 |some p =>
 obtain⟨g,c,s⟩:=p;have A:=I.srv;rw[q]at A;obtain⟨bs,B',rfl,hB,Q⟩:=A;have j:=CT.reg Q
 have a1:(Cj g c s).length<=64:=by
  have:=zPM Q;rw[sM,Qr]at this;exact this
 have hr:EY d .tick l N=.ok (EQ ((Cj g c s).map Dk) [44,32],{ d with s:=some (g,c,(Ew g c s).1) }):=by unfold EY;rw[q]
 refine HI Ab rfl ?_;refine rX I.blk rfl ?_
 refine AA (zIu (ps:=l) Q hB λu f=>by
  by_cases h0:l=[]
  ·have o:=S.1;obtain⟨a,c,h1,T,_⟩:=o;exact⟨a,c,h1,T,.inl h0⟩
  ·exact(S.fr f λb cs z hb _ hR=>hS h0 b hb (I.RD b hR)).1) ?_
 rintro v w1 ⟨R2,O,a2,U,V,F⟩;have J:=I.went rfl hB F U V;rw[sM,VM]at O;have o:=O.shape;obtain⟨aa,ac,rfl⟩:=o;have z1:=F.size;have F1:Fr D w w1:=F.mono λi _ hi=>I.RD i hi;have G1:Gk B w1:=G.next (F.mono λi _ hi=>(I.reg i (I.RD i hi)).1);have a3:((Cj g c s).map (AS ∘ GK)).length=(Cj g c s).length:=Qr ..;refine cO 18 [9] 7 17 (Cj g c s).length (λk v u=>AD w1.heap.size 9 u v (Ek (((Cj g c s).take k).map Dk))/\AC w1 u) ?_ ?_
 ·exact⟨AD.nil _ _ _,stp⟩
 rintro k v G2 u hk ⟨H,su⟩;have C:∀p∈Cj g c s,BE (BC p.1 p.2.1 p.2.2) p.2.2.hits:=λp W=>(zL0 j.2.1.ok j.2.2.1 j.2.2.2 W).1;refine ite (λBS=>?_) (λa4=>?_)
 ·have r:k<(Cj g c s).length:=by omega
  have o:∃y,y=(Cj g c s)[k]:=⟨_,rfl⟩;obtain⟨y,Y⟩:=o;have Z:=C y (by rw[Y];exact Qa _);refine Bp (O.sl.up (w':=u)) (i:=k) (x:=AS (GK y)) (by rw[QK,Qd r,<-Y];rfl) λb4 o4 A4=>AF (A4.cell0 rfl) (AA (rM Z (G1.at.up (w':=u))) ?_);rintro _ u5 ⟨rfl,e5⟩;refine bS (⟨(Dk y).toArray⟩:ByteArray) λb6 u6 e6 _ S6=>Aw (u:=w1) ⟨rfl,rfl⟩ ((H.up (w':=u5)).up (w':=u6)) S6 (by rw[Qr,Qr,Qm];omega) λv7 u7 O7 f7 s7=>?_;have t7:AC w1 u7:=stp;have e:Ek (((Cj g c s).take (k+1)).map Dk)=Ek (((Cj g c s).take k).map Dk)++[(⟨(Dk y).toArray⟩:ByteArray)]:=by rw[Ci r,QB,Ue,<-Y];rfl
  rw[<-e]at O7;exact rA ⟨rfl,r,O7,t7⟩
 ·have a0:k=(Cj g c s).length:=by omega
  rw[a0,Qg]at H;have o:=H.shape;obtain⟨ba,bc,rfl⟩:=o
  have hj:=W0 (sep:=[44,32]) (m:=10000) (l:=(Cj g c s).map Dk) λt ht=>by
   have o:=Qq.1 ht;obtain⟨p,W,rfl⟩:=o;have h:=C p W;exact lB h.2.2.2.2.2.2.2 h.2.2.2.1 rfl h
  rw[Qr]at hj;have T:([44,32]:Tx).length=2:=rfl;rw[T]at hj;refine AA (kZ H.sl (sep:=[44,32]) (by omega) (by rw[Qr];omega)) ?_;rintro _ u5 ⟨rfl,e5⟩;have t5:AC w1 u5:=stp
  have E:(EQ ((Cj g c s).map Dk) [44,32]).length<=100000000:=by
   unfold EQ;split
   ·simp
   ·omega
  exact⟨_,_,hr,E,rfl,EH.next (w1:=w1) ⟨_,_,_,_,_,_,J⟩ t5.e (by omega),F1.trans (Fr.fr t5.e)⟩
end
theorem Hc{k:KW}{a:PW}{o:Oper}{F:Nat->Value}{s:Sem Unit}(e:execOp (ev F) o=(do s;pure Next.skip))(h:Ej P s k a w):DT P (execOp (ev F) o) k a w:=by
 have c:(do s;pure Next.skip:Sem Next).run P w=(s.run P w).andThen λ_ w'=>.ok .skip w':=by rw[Qo];rfl
 rw[TI,e,c];rw[dX]at h
 cases b:s.run P w with
 |ok v w'=>rw[b]at h;exact h
 |halt x w'=>rw[b]at h;cases x<;>exact h
def TC:Ln->FuncId
 |.graph=>19
 |.edge=>20
 |.word=>21
 |.path=>22
 |.hubs=>23
 |.server=>24
 |.dist=>25
 |.reach=>26
 |.near=>27
 |.cancel=>28
 |.tick=>29
 |.live=>30
 |.held=>31
 |.waits=>32
def LN:Ln->Tx
 |.near=>[110,110,110,110,116,43]
 |.tick=>[42]
 |k=>CS k
theorem yS(k:Ln):∃a,LJ (LN k) 43=(a,Ck k)/\LJ a 42=(CS k,CY k):=by
 cases k<;>exact⟨_,rfl,rfl⟩
theorem zOT(k:Ln):(LN k).length<=100:=by cases k<;>decide
def Bw (k:Ln):List Value:=[.func (.func (TC k)) #[] #[],Ae (LN k),.bool (CU k)]
def bX (k:Ln):Value:=.agg (Bw k).toArray
def Lj:List (ByteArray×Value):=Pv.map λk=>(AS (AZ k),bX k)
theorem sF(s:Tx):∀l:List Ln,An (l.map λk=>(AS (AZ k),bX k)) (AS s)=(l.find? λk=>decide (AZ k=s)).map bX
 |[]=>rfl
 |k::r=>by
  rw[QS,Xo,sF s r,List.find?_cons];by_cases h:AZ k=s
  ·rw[if_pos (by rw[h]),decide_eq_true h];rfl
  ·rw[if_neg (λe=>h (SC e).symm),decide_eq_false h]
theorem zNW(s:Tx):An Lj (AS s)=(IC s).map bX:=sF s Pv
theorem gN:Sp PP 12 #[] w λv w'=>(∃b,v=.map (some b)/\BN PP 9 w' b Lj/\w.heap.size<=b)/\AC w w':=by
 refine eN ?_;refine Kx (kt:=9) (κ:=ByteArray) rfl λx w1 n1 y=>AJ (cs:=Bw .graph) rfl (Hc rfl (Ct y (AS (AZ .graph)) rfl λw2 z A _=>?_));refine AJ (cs:=Bw .edge) rfl (Hc rfl (Ct z (AS (AZ .edge)) rfl λY C E _=>?_));refine AJ (cs:=Bw .word) rfl (Hc rfl (Ct C (AS (AZ .word)) rfl λZ F G _=>?_));refine AJ (cs:=Bw .path) rfl (Hc rfl (Ct F (AS (AZ .path)) rfl λw5 H I _=>?_));refine AJ (cs:=Bw .hubs) rfl (Hc rfl (Ct H (AS (AZ .hubs)) rfl λw6 J K _=>?_));refine AJ (cs:=Bw .server) rfl (Hc rfl (Ct J (AS (AZ .server)) rfl λw7 L M _=>?_));refine AJ (cs:=Bw .dist) rfl (Hc rfl (Ct L (AS (AZ .dist)) rfl λw8 N O _=>?_));refine AJ (cs:=Bw .reach) rfl (Hc rfl (Ct N (AS (AZ .reach)) rfl λw9 Q R _=>?_));refine AJ (cs:=Bw .near) rfl (Hc rfl (Ct Q (AS (AZ .near)) rfl λS a c _=>?_));refine AJ (cs:=Bw .cancel) rfl (Hc rfl (Ct a (AS (AZ .cancel)) rfl λT d e _=>?_));refine AJ (cs:=Bw .tick) rfl (Hc rfl (Ct d (AS (AZ .tick)) rfl λU f h _=>?_));refine AJ (cs:=Bw .live) rfl (Hc rfl (Ct f (AS (AZ .live)) rfl λV j m _=>?_));refine AJ (cs:=Bw .held) rfl (Hc rfl (Ct j (AS (AZ .held)) rfl λW o p _=>?_));refine AJ (cs:=Bw .waits) rfl (Hc rfl (Ct o (AS (AZ .waits)) rfl λX q r _=>?_));have s:=((((((((((((A.trans E).trans G).trans I).trans K).trans M).trans O).trans R).trans c).trans e).trans h).trans m).trans p).trans r;have t:=n1.lo (u:=w);exact⟨⟨x,rfl,q.l,t⟩,⟨Fr.st (lE w w1) s λi hi=>by omega⟩⟩
theorem mI{bo:Nat}:Li PP 35 #[.pointer (some ⟨bo,0,none⟩)] .returning w λu' w'=>u'=.returning/\w'=w:=by
 refine Li.enter Ab rfl rfl rfl rfl rfl rfl rfl (λ_ _=>rfl) rfl rfl ?_;refine Si ?_;exact⟨rfl,rfl,rfl⟩
theorem wL{bo:Nat}{e:Int}{t:Tx}(G:HX w)(c:Bk w bo [Ae t] 9)(b:-9223372036854775808<=e/\e<=9223372036854775807):
  Li PP 35 #[.pointer (some ⟨bo,0,none⟩)] (.panicking (Na e)) w λu' w'=>settle u'=.returning/\Bk w' bo [Ae (Ia e)] 9/\Fr (λi=>i=bo) w w':=by
 have j:=Mf b;refine Li.enter Ab rfl rfl rfl rfl rfl rfl rfl (λ_ _=>rfl) rfl rfl ?_;refine Te (AA (Sz G b) ?_);rintro _ w1 ⟨rfl,d⟩;refine IW (a:=⟨[101,114,114,111,114,32].toArray⟩) (by simp only[AM,QA,QZ];omega) ?_;rw[SJ];refine rS (c.mv (w:=w1)) [Ae (Ia e)] (Wn _) λw2 f h _=>?_;exact⟨rfl,rfl,f,(Fr.fr d.e).trans h⟩
section
variable {D:Nat->Prop} {B bd:Nat} {d:DB} {w w' u:World} {R:Nat->Prop} {ev:SV} {gw cw:Nat} {X:List SV} {sp:OA}
theorem EH.away(P:EH D B bd d w){Z:Nat->Prop}(f:Fr Z w w')(a:∀i,Z i->¬D i):EH D B bd d w':=by
 obtain⟨R,ev,gw,cw,X,sp,I⟩:=P;have c:=f.size;refine⟨R,ev,gw,cw,X,sp,⟨λi hi=>?_,I.bdD,I.blk.fr f (λh=>a _ h I.bdD),I.es.fr f λb _ hb h=>a b h (I.esD b hb),I.esD,?_,I.gwD,I.wsD,I.chk,I.RD,I.Rbd,I.Res,I.Rgw,I.Rws,I.srvR f λi hi e=>a i hi (I.RD i e)⟩⟩
 ·have:=I.reg i hi;omega
 ·exact⟨I.ws.row.fr f λb _ hb h=>by have:=QL hb;subst this;exact a _ h I.gwD,I.ws.len,λv z h=>(I.ws.own v z h).fr f λb _ hb j=>a b j (I.wsD v z b h hb),λv z b h hb=>QJ (I.ws.lt v z b h hb) c,I.ws.apart⟩
theorem EH.up[L:Le w w'](P:EH D B bd d w):EH D B bd d w':=P.away L.e λ_ h=>h.elim
theorem EH.reg(P:EH D B bd d w):∀i,D i->B<=i/\i<w.heap.size:=by
 obtain⟨R,ev,gw,cw,X,sp,I⟩:=P;exact I.reg
theorem EH.lo(P:EH D B bd d w):B<=w.heap.size:=by
 obtain⟨R,ev,gw,cw,X,sp,I⟩:=P;have:=I.reg _ I.bdD;omega
theorem EH.wide{Z:Nat->Prop}(P:EH D B bd d w)(h:∀i,D i->Z i)(a:∀i,Z i->B<=i/\i<w.heap.size):EH Z B bd d w:=by
 obtain⟨R,ev,gw,cw,X,sp,I⟩:=P;exact⟨R,ev,gw,cw,X,sp,I.wide h a⟩
theorem EH.none(P:EH D B bd d w):∃n es b p,Bk w bd [n,es,b,.pointer p] 38/\(p.isNone=d.s.isNone):=by
 obtain⟨R,ev,gw,cw,X,sp,I⟩:=P;refine⟨_,_,_,sp,I.blk,?_⟩;have h:=I.srv
 cases a:d.s with
 |none=>rw[a]at h;rw[h.1];rfl
 |some p =>
  obtain⟨g,c,s⟩:=p;rw[a]at h;obtain⟨bs,B',e,_⟩:=h;rw[e];rfl
end
theorem Wx{least:Tx}{a:Bool}{s:Tx}{r:List Tx}(h:least[i]? = some 110):BI least a i (s::r)=match Bv s with
  |none=>none
  |some x=>(BI least a (i+1) r).map λp=>(x::p.1,p.2):=by
 have hi:i<least.length:=(Qy.1 h).1
 have h0:¬((i<least.length/\least[i]? = some 116)\/(least.length<=i/\a=true)):=by
  rintro(⟨_,b⟩|⟨b,_⟩)
  ·rw[h]at b;exact absurd b (by decide)
  ·omega
 rw[YG,if_neg h0,if_neg (by omega)];cases Bv s<;>rfl
theorem oK{least:Tx}{a:Bool}:∀(l:List Tx) (i:Nat) (p:List Int×List Tx),(∀j,i<=j->j<i+l.length->least[j]? = some 110)->BI least a i l=some p->p.2=[]/\p.1.length=l.length/\∀x∈p.1,0<=x/\x<=1000000
 |[],i,p,_,h=>by cases h;simp
 |s::r,i,p,e,h=>by
  rw[Wx (e i (Qe _) (by simp))]at h
  cases b:Bv s with
  |none=>rw[b]at h;cases h
  |some x =>
   rw[b]at h;have c:=Vo.1 h;obtain⟨q,f,rfl⟩:=c;have:=oK r (i+1) q (λj m o=>e j (by omega) (by simp;omega)) f
   exact⟨this.1,by simp[this.2.1],λy d=>by
    have c:=Ql.1 d;rcases c with rfl|d
    ·exact U7 b
    ·exact this.2.2 y d⟩
theorem vQ{least:Tx}:∀(l:List Tx) (i:Nat),least.length<=i->BI least true i l=some ([],l)
 |[],_,_=>rfl
 |s::r,i,h=>by
  rw[YG,if_pos (.inr ⟨h,rfl⟩),vQ r (i+1) (by omega)];rfl
theorem CL{x:Int}(h:0<=x/\x<=1000000):∃n:Nat,x=n/\n<=1000000:=⟨x.toNat,by omega,by omega⟩
theorem Ug{least:Tx}{l:List Tx}{p:List Int×List Tx}(a:∀j,j<least.length->least[j]? = some 110)(h:Be least false false l=some p):p.2=[]/\p.1.length=least.length/\∀x∈p.1,0<=x/\x<=1000000:=by grind[Be,oK]
theorem zNx{l:List Tx}{p:List Int×List Tx}(h:Be [110,116] false false l=some p):∃(a:Nat) (t:Tx),a<=1000000/\p=([(a:Int)],[t])/\t∈l:=by
 unfold Be at h;split at h
 ·cases h
 ·rename_i b
  match l,b,h with
  |[],b,_=>exact absurd (.inl (by decide)) b
  |[_],b,_=>exact absurd (.inl (by simp)) b
  |[s,t],_,h =>
   rw[Wx rfl]at h
   cases c:Bv s with
   |none=>rw[c]at h;cases h
   |some x =>
    rw[c]at h;have d:=CL (U7 c);obtain⟨a,rfl,e⟩:=d;rw[YG,if_pos (.inl ⟨by decide,rfl⟩)]at h;cases h;exact⟨a,t,e,rfl,by simp⟩
  |_::_::_::_,b,_=>exact absurd (.inr ⟨by simp,rfl,rfl⟩) b
theorem yE{l:List Tx}{p:List Int×List Tx}(h:Be [110,110,110,110,116] true false l=some p):∃(a b c k:Nat),p.1=[(a:Int),(b:Int),(c:Int),(k:Int)]/\(∀t∈p.2,t∈l)/\p.2.length<=l.length/\a<=1000000/\b<=1000000/\c<=1000000/\k<=1000000:=by
 unfold Be at h;split at h
 ·cases h
 ·rename_i d
  match l,d,h with
  |[],d,_=>exact absurd (.inl (by decide)) d
  |[_],d,_=>exact absurd (.inl (by simp)) d
  |[_,_],d,_=>exact absurd (.inl (by simp)) d
  |[_,_,_],d,_=>exact absurd (.inl (by simp)) d
  |[_,_,_,_],d,_=>exact absurd (.inl (by simp)) d
  |s1::s2::s3::s4::s5::r,_,h =>
   have o:BI [110,110,110,110,116] true 4 (s5::r)=some ([],s5::r):=by
    rw[YG,if_pos (.inl ⟨by decide,rfl⟩),vQ r 5 (by decide)];rfl
   rw[Wx rfl]at h
   cases d:Bv s1 with
   |none=>rw[d]at h;cases h
   |some x =>
   rw[d,Wx rfl]at h
   cases f:Bv s2 with
   |none=>rw[f]at h;cases h
   |some y =>
   rw[f,Wx rfl]at h
   cases j:Bv s3 with
   |none=>rw[j]at h;cases h
   |some z =>
   rw[j,Wx rfl]at h
   cases m:Bv s4 with
   |none=>rw[m]at h;cases h
   |some A =>
   rw[m,o]at h;have e:=CL (U7 d);obtain⟨a,rfl,q⟩:=e;have e:=CL (U7 f);obtain⟨b,rfl,hb⟩:=e;have e:=CL (U7 j);obtain⟨c,rfl,s⟩:=e;have e:=CL (U7 m);obtain⟨k,rfl,u⟩:=e;cases h;exact⟨a,b,c,k,rfl,λt (v:t∈s5::r)=>QF _ (QF _ (QF _ (QF _ v))),(by show(s5::r).length<=_;simp),q,hb,s,u⟩
section
variable {D:Nat->Prop} {B bd:Nat} {d:DB} {w w' u:World}
theorem EH.srvOk(P:EH D B bd d w){c:DP}{s:EV}(h:d.s=some (g,c,s)):Ki c/\Db g c s:=by
 obtain⟨R,ev,gw,e,X,f,I⟩:=P;have a:=I.srv;rw[h]at a;obtain⟨bs,B',_,_,b⟩:=a;exact⟨(CT.reg b).2.2.1,(CT.reg b).2.2.2⟩
theorem yY(k:Ln)(P:EH D B bd d w)(G:Gk B w){l:List Tx}{p:List Int×List Tx}(F:Be (CS k) (Ck k) (CY k) l=some p){W ta:OA}{X Y Z tc C:Nat}(S:AD C 3 w (.slice W X Y) p.1)(T:AD C 9 w (.slice ta Z tc) (Ek p.2))(hC:∀i,D i->i<C)
  (hl:l.length<=1000000)(hw:∀t∈l,t.length<=1000000)(I:CU k=true->d.s.isSome=true):
  Ep PP (TC k) #[.pointer (some ⟨bd,0,none⟩),.slice W X Y,.slice ta Z tc] w (GI D B bd w (EY d k p.1 p.2)) (FQ D B bd w d (EY d k p.1 p.2)):=by
 have V:p.1≠[]->∀i,Value.blk (.slice W X Y)=some i->¬D i:=λh0 i hi hd=>by
  have e:=S.lt h0;obtain⟨b,A,z,_⟩:=e;rw[hi]at A;have:=QL A;have:=hC i hd;omega
 have hT:p.2≠[]->∀i,Value.blk (.slice ta Z tc)=some i->¬D i:=λh0 i hi hd=>by
  obtain⟨b,A,z,_⟩:=T.lt (by intro h;exact h0 (List.map_eq_nil_iff.1 h));rw[hi]at A;have:=QL A;have:=hC i hd;omega
 have v:=S.sl.len;have a0:=T.sl.len;have r:=S.y;have a6:=T.y;obtain⟨J,p2⟩:=p
 cases k with
 |graph =>
  have e:=Ug (least:=[110]) (by decide) F;obtain⟨A,z,m⟩:=e
  match J,z with
  |[x],_ =>
   have e:=CL (m x (by simp));obtain⟨a,rfl,K⟩:=e;subst v;exact zJq P r K
 |edge =>
  have e:=Ug (least:=[110,110]) (by decide) F;obtain⟨A,z,m⟩:=e
  match J,z with
  |[x,y],_ =>
   have e:=CL (m x (by simp));obtain⟨a,rfl,K⟩:=e;have e:=CL (m y (by simp));obtain⟨b,rfl,hb⟩:=e;subst v;exact zJ0 P r K hb
 |word =>
  have e:=zNx F;obtain⟨a,t,K,L,ht⟩:=e;cases L;subst v;subst a0;exact zJ7 P r a6 (hT (by simp)) K (hw t ht)
 |path =>
  have e:=Ug (least:=[110,110]) (by decide) F;obtain⟨A,z,m⟩:=e
  match J,z with
  |[x,y],_ =>
   have e:=CL (m x (by simp));obtain⟨a,rfl,K⟩:=e;have e:=CL (m y (by simp));obtain⟨b,rfl,hb⟩:=e;subst v;exact xG P G.at r.1 K hb
 |hubs=>exact zJ1 P G.at
 |server =>
  have e:=Ug (least:=[110,110,110,110,110]) (by decide) F;obtain⟨A,z,m⟩:=e
  match J,z with
  |[M,N,O,x4,x5],_ =>
   have e:=CL (m M (by simp));obtain⟨a1,rfl,_⟩:=e;have e:=CL (m N (by simp));obtain⟨a2,rfl,_⟩:=e;have e:=CL (m O (by simp));obtain⟨a3,rfl,_⟩:=e;have e:=CL (m x4 (by simp));obtain⟨a4,rfl,_⟩:=e;have e:=CL (m x5 (by simp));obtain⟨a5,rfl,_⟩:=e;subst v;exact zH8 P r
 |dist =>
  have e:=Ug (least:=[110,110,110]) (by decide) F;obtain⟨A,z,m⟩:=e
  match J,z with
  |[M,N,O],_ =>
   have e:=CL (m M (by simp));obtain⟨a1,rfl,_⟩:=e;have e:=CL (m N (by simp));obtain⟨a2,rfl,_⟩:=e;have e:=CL (m O (by simp));obtain⟨a3,rfl,_⟩:=e;subst v;exact r9 P G (.inl ⟨rfl,rfl⟩) r (V (by simp)) (I rfl)
 |reach =>
  have e:=Ug (least:=[110,110,110]) (by decide) F;obtain⟨A,z,m⟩:=e
  match J,z with
  |[M,N,O],_ =>
   have e:=CL (m M (by simp));obtain⟨a1,rfl,_⟩:=e;have e:=CL (m N (by simp));obtain⟨a2,rfl,_⟩:=e;have e:=CL (m O (by simp));obtain⟨a3,rfl,_⟩:=e;subst v;exact r9 P G (.inr ⟨rfl,rfl⟩) r (V (by simp)) (I rfl)
 |near =>
  have e:=yE F;obtain⟨a,b,c,k,L,hm,Q,_⟩:=e;have L:J=[(a:Int),(b:Int),(c:Int),(k:Int)]:=L;subst L;subst v;exact zJ2 P G r (V (by simp)) T.sl (Qw Q hl) (λt ht=>hw t (hm t ht)) (I rfl)
 |cancel =>
  have e:=Ug (least:=[110]) (by decide) F;obtain⟨A,z,m⟩:=e
  match J,z with
  |[x],_ =>
   have e:=CL (m x (by simp));obtain⟨a,rfl,K⟩:=e;subst v;exact zH7 P G r (I rfl)
 |tick =>
  exact zJ5 P G r V (I rfl)
 |live =>
  have f:=I rfl
  cases j:d.s with
  |none=>rw[j]at f;cases f
  |some q =>
   obtain⟨g,c,s⟩:=q;have E:=P.srvOk j;refine jP (l:=(List.range c.workers).map λk=>(DC g c.workers s.held k:Int)) (.inl ⟨rfl,rfl⟩) P G (λR bs B' g2 c2 s2 h U=>?_) f ?_ (λx H=>?_) (by unfold EY;rw[j])
   ·rw[j]at h;cases h;exact wR U
   ·rw[Qr,Vm];have:=E.1.workers;omega
   ·have e:=Qq.1 H;obtain⟨k,a7,rfl⟩:=e;have a8:=Q0.1 a7;have F:=E.1.pool;have:=E.2.pool
    have A:¬c.pool<DC g c.workers s.held k:=λh=>by
     have:=aA.2 ⟨k,a8,h⟩;rw[E.2.pool]at this;cases this
    omega
 |held =>
  have f:=I rfl
  cases j:d.s with
  |none=>rw[j]at f;cases f
  |some q =>
   obtain⟨g,c,s⟩:=q;have E:=P.srvOk j;refine jP (l:=Bg s.held) (.inr (.inl ⟨rfl,rfl⟩)) P G (λR bs B' g2 c2 s2 h U=>?_) f ?_ (λx H=>?_) (by unfold EY;rw[j])
   ·rw[j]at h;cases h;exact zIs U
   ·have A:=List.length_filterMap_le (λo:Option (Bj×Nat)=>o.map (·.1.id)) s.held;have z:=E.2.len;have m:=E.1.slots;unfold Bg;omega
   ·unfold Bg at H;have e:=List.mem_filterMap.1 H;obtain⟨o,ho,H⟩:=e;have e:=Vo.1 H;obtain⟨y,rfl,hy⟩:=e;have:=(E.2.held y.1 y.2 ho).1.id;rw[<-hy];omega
 |waits =>
  have f:=I rfl
  cases j:d.s with
  |none=>rw[j]at f;cases f
  |some q =>
   obtain⟨g,c,s⟩:=q;have E:=P.srvOk j;refine jP (l:=Cr s.wait) (.inr (.inr ⟨rfl,rfl⟩)) P G (λR bs B' g2 c2 s2 h U=>?_) f ?_ (λx H=>?_) (by unfold EY;rw[j])
   ·rw[j]at h;cases h;exact zHU U
   ·have z:=E.2.wl;have m:=E.1.queue;unfold Cr;rw[Qr];omega
   ·unfold Cr at H;have e:=Qq.1 H;obtain⟨y,hy,rfl⟩:=e;have:=(E.2.wait y hy).id;omega
end
section
variable {D:Nat->Prop} {B bd:Nat} {d:DB} {w w' u:World}
def Pf (D:Nat->Prop) (B bd:Nat) (d:DB) (s:Tx) (w:World) (v:Value) (w':World):Prop:=(AT d s).1.length<=100000000/\v=Ae (AT d s).1/\EH (gR D w w') B bd (AT d s).2 w'/\Fr D w w'
theorem YQ{y:UInt8}:∀{s t:Tx},t∈CA y s->t.length<=s.length
 |[],t,h=>by
  have h:t∈[[]]:=h;rw[Qc.1 h];exact Qe _
 |c::r,t,h=>by
  unfold CA at h;split at h
  ·have a:=Ql.1 h;rcases a with rfl|h
   ·simp
   ·have:=YQ h;simp;omega
  ·split at h
   ·rw[Qc.1 h];simp
   ·rename_i p q b;have a:=Ql.1 h;rcases a with rfl|h
    ·have:=YQ (y:=y) (s:=r) (t:=p) (by rw[b];simp);simpa using this
    ·have:=YQ (y:=y) (s:=r) (t:=t) (by rw[b];exact QF _ h);simp;omega
theorem fn3(k:Ln):∀u∈Bw k,u.oneCell'=true:=by intro u a;simp[Bw]at a;rcases a with rfl|rfl|rfl<;>rfl
theorem sJ{k : Ln}{n : List Int}{t : List Tx}{e : Int}(h : EY d k n t = .error e) : -9223372036854775808 <= e /\ e <= 9223372036854775807 := by
  have c : ∀ x, CV d x = .error e -> e = 0 \/ e = 1 := λx a => by
    unfold CV at a;split at a
    · cases a; exact .inl rfl
    · split at a
      · cases a
      · cases a; exact .inr rfl
  have f : e = 0 \/ e = 1 \/ e = 20 := by
    cases k<;>unfold EY at h<;>dsimp only at h
    all_goals first
      | (have b := c _ h; omega)
      | cases h
      | (split at h
         all_goals first
           | (have b := Except.error.inj h; omega)
           | cases h
           | (split at h
              all_goals first
                | (have b := Except.error.inj h; omega)
                | cases h))
  omega
theorem zJ6(P:EH D B bd d w)(G:Gk B w){bm:Nat}(M:BN PP 9 w bm Lj){s:Tx}(hs:s.length<=1000000):
  Sp PP 15 #[.pointer (some ⟨bd,0,none⟩),Ae s,.map (some bm)] w (Pf D B bd d s w):=by
 have b2:=P.lo;have j:=P.reg;refine eN ?_;refine Ao λbo w1 n1 Z1=>?_;have Z1:Bk w1 bo [Ae []] 9:=Z1;have a0:=n1.lo (u:=w);have b0:=Z1.lt;have z:¬D bo:=λh=>by have:=(j bo h).2;omega
 have ret:∀{R:Nat->Value} {u:World} {t:Tx} {d2:DB} {Z:Nat->Prop},Bk u bo [Ae t] 9->ev R (.tmp 6)=.pointer (some ⟨bo,0,none⟩)->EH Z B bd d2 u->(∀i,Z i->gR D w u i)->Fr D w u->AT d s=(t,d2)->t.length<=100000000 ->
   CZ PP Tryz.f15.results.toList R [{ target:=.fn (.func 35) #[.pointer (some ⟨bo,0,none⟩)],args:=#[] }] .returning (Pf D B bd d s w) (λ_ _=>False) u:=by
  intro R u t d2 Z Bo g6 F hZ A H a4;refine Tu (by simp) ⟨(mI (bo:=bo) (w:=u)).can,SW (mI (bo:=bo) (w:=u)).calls ?_⟩;intro en u' w' X;have zF:=A.size
  cases en with
  |returned v =>
   obtain⟨rfl,rfl⟩:=X;refine Cf ?_;show El PP [.cell 6 _] [] R _ w';simp only[El,g6];refine FX (B:=Bo) rfl ?_;refine⟨by rw[H];exact a4,by rw[H],?_,A⟩;rw[H]
   exact F.wide hZ λi hi=>by
    rcases hi with hi|hi
    ·have:=j i hi;omega
    ·omega
  |panicked c=>exact X
  |outgrown=>exact X
 have pan:∀{R:Nat->Value} {u:World} {t:Tx} {e:Int} {Z:Nat->Prop},Bk u bo [Ae t] 9->ev R (.tmp 6)=.pointer (some ⟨bo,0,none⟩)->EH Z B bd d u->(∀i,Z i->gR D w u i)->¬Z bo->Fr D w u->HX u->(-9223372036854775808<=e/\e<=9223372036854775807)->AT d s=(Ia e,d) ->
   CZ PP Tryz.f15.results.toList R [{ target:=.fn (.func 35) #[.pointer (some ⟨bo,0,none⟩)],args:=#[] }] (.panicking (Na e)) (Pf D B bd d s w) (λ_ _=>False) u:=by
  intro R u t e Z Bo g6 F hZ a0 A Gu he H;refine Tu (by simp) ⟨(wL Gu Bo he).can,SW (wL Gu Bo he).calls ?_⟩;intro en u' w' X;have zF:=A.size
  cases en with
  |returned v =>
   obtain⟨h1,B',f'⟩:=X;have z':=f'.size;show CZ PP _ _ [] (settle u') _ _ w';rw[h1];refine Cf ?_;show El PP [.cell 6 _] [] R _ w';simp only[El,g6];refine FX (B:=B') rfl ?_;refine⟨by rw[H];have:=Mf he;show(Ia e).length<=_;unfold Ia;simp only[Qb,QA,QZ];omega,by rw[H],?_,Fr.new A f' λi hi=>by omega⟩;rw[H];refine(F.away f' λi hi hz=>a0 (hi ▸ hz)).wide (λi hi=>(hZ i hi).imp id λh=>by omega) λi hi=>?_;rcases hi with hi|hi
   ·have:=j i hi;omega
   ·omega
  |panicked c=>exact X
  |outgrown=>exact X
 have hl:=Zt 32 s;have a5:=bM 32 s;refine AA (zHg (G.next (w':=w1) (fE w w1)).at (by omega) (y:=32)) ?_;rintro v w2 ⟨O2,e2⟩
 have I:∃h r,CA 32 s=h::r:=by
  cases h:CA 32 s with
  |nil=>exact absurd h a5
  |cons a b=>exact⟨a,b,rfl⟩
 obtain⟨h0,r,J⟩:=I;rw[J]at O2 hl;have C:r.length<=s.length:=by simp at hl;omega
 have I:=O2.shape;obtain⟨va,vc,rfl⟩:=I;refine Bp (i:=0) (x:=(⟨h0.toArray⟩:ByteArray)) O2.sl rfl λb3 o3 A3=>AF (A3.cell0 rfl) ?_;have a6:=zNW h0;refine NY (M.up (w':=w2)) (AS h0) rfl ?_;rw[a6]
 cases hk:IC h0 with
 |none =>
  have l:AT d s=(Fw,d):=by unfold AT;rw[J];dsimp only;rw[hk]
  refine Ao λbx w3 n3 X3=>?_;have a7:=n3.lo (u:=w);refine rS X3 [.nilFunc,Ae [],.bool false] (by intro u hu;simp at hu;rcases hu with rfl|rfl|rfl<;>rfl) λY X4 f4 _=>?_;have s4:AC w Y:=⟨Fr.st (lE w w3) f4 λi hi=>by omega⟩;have Z4:Bk Y bo [Ae []] 9:=(Z1.mv (w:=w3)).fr f4 (by have:=n3.lo (u:=w1);omega);refine rS Z4 [Ae Fw] (Wn _) λE S f5 _=>?_;have Q:AC w E:=⟨Fr.st s4.e f5 λi hi=>by omega⟩;exact ret S rfl (P.up (w':=E)) (λi hi=>.inl hi) (Fr.fr Q.e) l (by decide)
 |some k =>
  have l:AT d s=match Be (CS k) (Ck k) (CY k) r with
   |none=>(Fw,d)
   |some p=>if CU k=true/\d.s.isNone=true then(KD,d) else match EY d k p.1 p.2 with
    |.ok r=>r
    |.error e=>(Ia e,d):=by unfold AT;rw[J];dsimp only;rw[hk];rfl
  refine Ao λbx w3 n3 X3=>?_;have a7:=n3.lo (u:=w);refine rS X3 (Bw k) (fn3 k) λY X4 f4 _=>?_;have X4:Bk Y bx (Bw k) 58:=X4;have s4:AC w Y:=⟨Fr.st (lE w w3) f4 λi hi=>by omega⟩;have t4:AC w2 Y:=⟨Fr.st (lE w2 w3) f4 λi hi=>by have:=n3.lo (u:=w2);omega⟩;have Z4:Bk Y bo [Ae []] 9:=(Z1.mv (w:=w3)).fr f4 (by have:=n3.lo (u:=w1);omega);have z4:=s4.e.size;refine dQ 12 λu e=>NE (B:=X4) (v:=Ae (LN k)) rfl nf (Zx (m:=1) (Bh.up (w':=u) O2.y) (by simp) rfl λa' c' SR b4=>?_);have I:=yS k;obtain⟨f1,a8,a9⟩:=I;have su:AC w u:=stp;have SR:AQ u (.slice a' _ c') (Ek r):=SR.1;refine AA (zJr (G.next (w':=u) (Fr.fr su.e)).at (zOT k) a8 a9 SR (λt H=>?_) (by omega)) ?_
  ·have:=YQ (y:=32) (s:=s) (t:=t) (by rw[J];exact QF _ H);omega
  rintro _ E ⟨hW,e5⟩;refine⟨e5.e,?_⟩;have Q:AC w E:=stp;have z5:=Q.e.size;have S:=Z4.mv (w:=E);have X5:=X4.mv (w:=E)
  cases hw:Be (CS k) (Ck k) (CY k) r with
  |none =>
   rw[hw]at hW l;have hW:_=Value.tuple #[.slice none 0 0,.slice none 0 0,.bool false]:=hW;subst hW;refine rS S [Ae Fw] (Wn _) λf K f6 _=>?_;have s6:AC w f:=⟨Fr.st Q.e f6 λi hi=>by omega⟩;exact ret K rfl (P.up (w':=f)) (λi hi=>.inl hi) (Fr.fr s6.e) l (by decide)
  |some p =>
   rw[hw]at hW l;obtain⟨na,ta,rfl,On,Ot⟩:=hW
   have l:AT d s=if CU k=true/\d.s.isNone=true then(KD,d) else match EY d k p.1 p.2 with
    |.ok r=>r
    |.error e=>(Ia e,d):=l
   have I:=P.none;obtain⟨n0,b5,b6,p0,Kd,a3⟩:=I
   have L:(CU k=true->d.s.isSome=true)->AT d s=match EY d k p.1 p.2 with
    |.ok r=>r
    |.error e=>(Ia e,d):=λh=>by
    rw[l,if_neg];rintro⟨h1,h2⟩;have:=h h1;rw[Option.isNone_iff_eq_none]at h2;rw[h2]at this;cases this
   have I:=On.shape;obtain⟨a1,c1,rfl⟩:=I;have I:=Ot.shape;obtain⟨a2,c2,rfl⟩:=I;have G5:Gk B E:=G.next (Fr.fr Q.e);have zu:=su.e.size
   have W:=λh=>yY k (P.up (w':=E)) G5 hw On Ot (λi hi=>by have:=(j i hi).2;omega) (by omega) (λt H=>by
    have:=YQ (y:=32) (s:=s) (t:=t) (by rw[J];exact QF _ H);omega) h
   have b1:bo<E.heap.size:=S.lt
   have T:∀f,¬gR D E f bo:=λf h=>by
    rcases h with h|h
    ·exact z h
    ·omega
   have U:∀{f w7:World},f.heap.size<=w7.heap.size->∀i,gR D E f i->gR D w w7 i:=λh i hi=>hi.imp id λh2=>by omega
   cases V:CU k with
   |false =>
    refine Cx (B:=X5) (v:=.bool false) (by show some (Value.bool (CU k))=_;rw[V]) ?_;have N:CU k=true->d.s.isSome=true:=λh=>by rw[V]at h;cases h
    have o:=L N;refine Cx (B:=X5) (v:=.func (.func (TC k)) #[] #[]) rfl (AO (W N) ?_ ?_)
    ·rintro _ f ⟨t,d2,hd,C,rfl,F,A⟩;rw[hd]at o;have K:=S.fr A z;have O:Fr D w f:=(Fr.fr Q.e).trans A;have z6:=O.size;refine DH (B:=K) (vs:=[Ae t]) rfl rfl rfl (Wn _) λw7 Z7 f7 z7=>?_;exact ret Z7 rfl (F.away f7 λi hi hz=>T f (hi ▸ hz)) (U f7.size) (Fr.new O f7 λi hi=>by omega) o C
    ·rintro c2 f ⟨e2,hd,rfl,F,A⟩;rw[hd]at o;have K:=S.fr A z;have O:Fr D w f:=(Fr.fr Q.e).trans A;exact pan K rfl F (U (Qe _)) (T f) O (G f (O.mono λi _ hi=>(j i hi).1)) (sJ hd) o
   |true =>
    refine Cx (B:=X5) (v:=.bool true) (by show some (Value.bool (CU k))=_;rw[V]) (Cx (B:=Kd.mv (w:=E)) (v:=.pointer p0) rfl (EE ?_))
    cases hn:d.s.isNone with
    |true =>
     rw[a3,hn];refine rS S [Ae KD] (Wn _) λf K f6 _=>?_;have s6:AC w f:=⟨Fr.st Q.e f6 λi hi=>by omega⟩;exact ret K rfl (P.up (w':=f)) (λi hi=>.inl hi) (Fr.fr s6.e) (by rw[l,if_pos ⟨V,hn⟩]) (by decide)
    |false =>
     rw[a3,hn]
     have N:CU k=true->d.s.isSome=true:=λ_=>by
      cases h:d.s with
      |none=>rw[h]at hn;cases hn
      |some q=>rfl
     have o:=L N;refine Cx (B:=X5) (v:=.func (.func (TC k)) #[] #[]) rfl (AO (W N) ?_ ?_)
     ·rintro _ f ⟨t,d2,hd,C,rfl,F,A⟩;rw[hd]at o;have K:=S.fr A z;have O:Fr D w f:=(Fr.fr Q.e).trans A;have z6:=O.size;refine DH (B:=K) (vs:=[Ae t]) rfl rfl rfl (Wn _) λw7 Z7 f7 z7=>?_;exact ret Z7 rfl (F.away f7 λi hi hz=>T f (hi ▸ hz)) (U f7.size) (Fr.new O f7 λi hi=>by omega) o C
     ·rintro c2 f ⟨e2,hd,rfl,F,A⟩;rw[hd]at o;have K:=S.fr A z;have O:Fr D w f:=(Fr.fr Q.e).trans A;exact pan K rfl F (U (Qe _)) (T f) O (G f (O.mono λi _ hi=>(j i hi).1)) (sJ hd) o
end
structure IF (B b:Nat) (l:U8) (v:Value) (w:World):Prop where
 lo:B<=b
 at':∃p,(p=.pointer none\/p=.pointer (some ⟨b,0,none⟩))/\Bk w b [p,v] 44
 own:w.ownsRow B 5 1 v l.length (Lib.byteCells l)
 ne:v.ownBlock≠some b
theorem IF.r{b:Nat}{l:U8}{v:Value}(h:IF B b l v w):Ff B b l w:=by
 have c:=h.at';obtain⟨p,d,K⟩:=c;have a:Lib.BuilderAt 44 5 B b p (Lib.byteCells l) w:=⟨h.lo,v,K.h,by rw[Lib.byteCells_length];exact h.own,h.ne⟩;rcases d with rfl|rfl
 ·exact .inl (Lib.BuilderAtF.of a)
 ·exact .inr (Lib.BuilderAtF.of a)
theorem IF.new{b:Nat}(a:B<=b)(K:Bk w b [.pointer none,.slice none 0 0] 44):IF B b [] (.slice none 0 0) w:=
 ⟨a,⟨_,.inl rfl,K⟩,World.ownsRow_nil w B 5 1,by simp[Value.ownBlock]⟩
theorem IF.fr{b:Nat}{l:U8}{v:Value}(h:IF B b l v w)(f:Fr D w w')(d:¬D b)(e:∀g,v.ownBlock=some g->¬D g):IF B b l v w':=by
 have a:=h.at';obtain⟨p,j,K⟩:=a;refine⟨h.lo,⟨p,j,K.fr f d⟩,⟨h.own.1,?_⟩,h.ne⟩;have a:=h.own.2;rcases a with m|⟨g,cap,c,rfl,hb,o,rest⟩
 ·exact .inl m
 ·exact .inr ⟨g,cap,c,rfl,hb,f.blk o (e g rfl),rest⟩
theorem zPW{t u ty e:TypeId}{i:TypeInfo}(A:P.underlying t=some (.slice e))(C:P.underlying u=some .string)(hi:P.info? e=some i)(E:i.zero=some (.int .u8 0))(b:i.size=1)(p:i.bytes=1){v:Value}{l m:U8}(own:w.ownsRow B e 1 v l.length (Lib.byteCells l))(L:m≠[])(W:l.length+m.length<=140737488355328)(M:B<=w.heap.size):
  ∃d w',(Builtin.append_ #[t,u] ty #[v,.string ⟨m.toArray⟩]).run P w=.ok d w'/\w'.ownsRow B e 1 d (l++m).length (Lib.byteCells (l++m))/\Fr (λi=>v.ownBlock=some i) w w'/\(d.ownBlock=v.ownBlock\/(d.ownBlock=some w.heap.size/\w.heap.size<w'.heap.size))/\∃a n c,d=.slice a n c:=by
 have F:=AM m;have N:0<m.length:=JI.2 L;obtain⟨d,w',q,O,Q,_⟩:=Lib.run_append_own_string (P:=P) w B t u ty e i A C hi E b p v l.length _ own ⟨m.toArray⟩ (by unfold maxLen;omega) (by omega) M
 have y:w'.ownsRow B e 1 d (l++m).length (Lib.byteCells (l++m)):=by
  rw[Lib.byteCells_append,Qb,<-F];exact O
 have R:Fr (λi=>v.ownBlock=some i) w w':=(Fr.grown Q λr o f K=>by
  have z:=own.2;rcases z with⟨rfl,_⟩|⟨g,cap,s,rfl,_,G,_⟩
  ·cases f
  ·cases f;rw[G]at K;cases K;rfl).mono λi _ h=>h.symm
 have H:∃a n c,d=.slice a n c:=by
  have z:=y.2;rcases z with⟨rfl,_⟩|⟨g,cap,s,rfl,_⟩<;>exact⟨_,_,_,rfl⟩
 refine⟨d,w',q,y,R,?_,H⟩;have z:=own.2;rcases z with⟨rfl,X⟩|⟨g,cap,s,rfl,hb,G,S,T,U,I⟩
 ·have f:=run_append_nil_string (P:=P) w t u ty e i (.int .u8 0) A C hi E ⟨m.toArray⟩ (by omega) (by omega) (by rw[p];omega);rw[f]at q;cases q;exact .inr ⟨rfl,by show w.heap.size<(w.heap.push _).size;rw[Array.size_push];omega⟩
 ·by_cases J:l.length+m.length<=cap
  ·have f:=Lib.run_append_room_string (P:=P) w t u ty e i A C hi b g l.length cap s G ⟨m.toArray⟩ (by omega) (by omega);rw[f]at q;cases q;exact .inl rfl
  ·have f:=Lib.run_append_grow_string (P:=P) w t u ty e i (.int .u8 0) A C hi E ⟨g,0,none⟩ l.length cap (Lib.byteCells l) (by rw[Lib.byteCells_length,b,Xq]) (λj x V=>by
    have:=own.cells (g:=g) rfl j x V;exact this) ⟨m.toArray⟩ (by omega) (by omega) (by rw[p];exact growslice_fits (by omega) (by omega))
   rw[f]at q;cases q;exact .inr ⟨rfl,by show w.heap.size<(w.heap.push _).size;rw[Array.size_push];omega⟩
theorem zOH{b:Nat}{l:U8}{v:Value}(h:IF B b l v w):Sp PP 34 #[.pointer (some ⟨b,0,none⟩)] w λ_ w'=>Bk w' b [.pointer (some ⟨b,0,none⟩),v] 44/\Fr (λi=>i=b) w w':=by
 have d:=h.at';obtain⟨p,e,K⟩:=d;have a:w.heap[b]? = some (.cells #[p,v] 44 (0,0)):=K.h;refine⟨AB.can (f:=34) inferInstance,?_⟩;rcases e with rfl|rfl
 ·refine(Any.Builder_copyCheck_fresh { Tryz.bldW with } Tryz.bldX.toX72 b w (by rw[Lib.cell_of_heap a];rfl) (by simp[World.shape?,a];rfl) (Lib.frozen_of_heap a 0)).mono ?_;rintro en w' ⟨rfl,rfl⟩;refine⟨⟨heap_setCell_same w b 0 _ _ _ a⟩,⟨rfl,rfl,rfl,by simp[World.setCell],λi _ hi=>heap_setCell_other w _ i _ hi,λi o c j=>?_⟩⟩;by_cases hi:i=b
  ·subst hi;rw[a]at c;cases c;cases j
  ·rw[heap_setCell_other w _ i _ hi];exact c
 ·refine(Any.Builder_copyCheck_used { Tryz.bldW with } Tryz.bldX.toX72 b w (by rw[Lib.cell_of_heap a];rfl)).mono ?_;rintro en w' ⟨rfl,rfl⟩;exact⟨K,Fr.refl _ _⟩
theorem zGJ{b:Nat}{l m:U8}{v:Value}(h:IF B b l v w)(O:B<=w.heap.size)(J:m≠[])(o:l.length+m.length<=140737488355328):
  Sp PP 14 #[.pointer (some ⟨b,0,none⟩),Ae m] w λ_ w'=>∃r,IF B b (l++m) r w'/\Fr (λi=>i=b\/v.ownBlock=some i) w w'/\(r.ownBlock=v.ownBlock\/∃g,r.ownBlock=some g/\w.heap.size<=g/\g<w'.heap.size):=by
 refine eN ?_;refine AA (zOH h) ?_;rintro _ w1 ⟨s,x⟩;refine rX s rfl ?_;have Q:=x.size
 have p:w1.ownsRow B 5 1 v l.length (Lib.byteCells l):=⟨h.own.1,by
  have d:=h.own.2;rcases d with y|⟨g,cap,f,rfl,hb,z,rest⟩
  ·exact .inl y
  ·exact .inr ⟨g,cap,f,rfl,hb,x.blk z (λe=>h.ne (by rw[e];rfl)),rest⟩⟩
 have d:∃i,PP.info? 5=some i/\i.zero=some (.int .u8 0)/\i.size=1/\i.bytes=1:=⟨_,rfl,rfl,rfl,rfl⟩;obtain⟨i,hi,K,j,A⟩:=d;have d:=zPW (P:=PP) (t:=42) (u:=9) (ty:=42) (by kernel_rfl) (by kernel_rfl) hi K j A p J o (by omega);obtain⟨r,w2,L,F,C,hb,a,n,c,rfl⟩:=d;refine AI.of L ?_;have M:=s.fr C h.ne;refine DH (B:=M) (vs:=[.slice a n c]) rfl rfl rfl (by intro u G;simp at G;subst G;rfl) λR N H S=>?_;have T:=C.size
 have q:Value.ownBlock (.slice a n c)≠some b:=by
  rcases hb with hb|⟨hb,_⟩
  ·rw[hb];exact h.ne
  ·rw[hb];intro e;have:=QL e;have:=s.lt;omega
 refine⟨.slice a n c,⟨h.lo,⟨_,.inr rfl,N⟩,⟨F.1,?_⟩,q⟩,((x.mono λi _ h=>.inl h).trans (C.mono λi _ h=>.inr h)).trans (H.mono λi _ h=>.inl h),?_⟩
 ·have d:=F.2;rcases d with y|⟨g,cap,f,I,E,z,rest⟩
  ·exact .inl y
  ·exact .inr ⟨g,cap,f,I,E,H.blk z (λe=>q (by rw[I,e];rfl)),rest⟩
 ·rcases hb with hb|⟨hb,U⟩
  ·exact .inl hb
  ·exact .inr ⟨_,hb,by omega,by omega⟩
theorem US{a gw:Nat}(d:w.heap.size<=a)(f:w.heap.size<=gw)(K:Bk w' a [.int .i64 1,.slice none 0 0,.slice (some ⟨gw,0,none⟩) 1 1,.pointer none] 38)
  (O:AD w.heap.size 28 w' (.slice (some ⟨gw,0,none⟩) 1 1) [(⟨none,0,0⟩:SV)]):EH (λi=>i=a\/i=gw) w.heap.size a EG w':=by
 have c:gw<w'.heap.size:=by
  have j:=O.lt (by simp);obtain⟨b,m,_,x⟩:=j;have:=QL m;simp only at this;omega
 have o:∀(v:Nat) (z:SV),[(⟨none,0,0⟩:SV)][v]? = some z->z=⟨none,0,0⟩:=λv z h=>by
  have:=Jy h;exact Qc.1 this
 refine⟨λ_=>False,⟨none,0,0⟩,gw,1,[⟨none,0,0⟩],none,⟨λi hi=>?_,.inl rfl,K,AD.nil _ _ _,(λb hb=>nomatch hb),?_,.inr rfl,λv z b h hb=>?_,?_,λi hi=>hi.elim,λh=>h,λb hb h=>h,λh=>h,λv z b h hb p=>p,⟨rfl,λi h=>h⟩⟩⟩
 ·rcases hi with rfl|rfl
  ·exact⟨d,K.lt⟩
  ·exact⟨f,c⟩
 ·have q:(λv=>([[]]:List (List ByteArray)).getD v [])=λ_=>[]:=by
   funext v
   match v with
   |0=>rfl
   |v+1=>rfl
  show DI 28 9 w.heap.size gw 1 1 _ (λv=>([[]]:List (List ByteArray)).getD v []) w';rw[q];exact DI.new (n:=1) O
 ·rw[o v z h]at hb;cases hb
 ·refine⟨by decide,by decide,by decide,rfl,(λe r=>nomatch r),λl t=>?_⟩;rw[Qc.1 t];exact⟨by simp,(λs u=>nomatch u)⟩
theorem yO{s:Tx}(d:s≠[]):AE s=(Lib.cut s [10]).1::AE (Lib.cut s [10]).2.1:=by
 by_cases b:(10:UInt8)∈s
 ·have e:=List.eq_append_cons_of_mem b;obtain⟨a,r,rfl,c⟩:=e;rw[Q6 c,ZW c]
 ·rw[Pc b,zNX b d];rfl
theorem zP8{s:Tx}(c:s≠[]):(Lib.cut s [10]).2.1.length<s.length/\(Lib.cut s [10]).1.length<=s.length:=by
 have h0:0<s.length:=JI.2 c;by_cases b:(10:UInt8)∈s
 ·have d:=List.eq_append_cons_of_mem b;obtain⟨a,r,rfl,e⟩:=d;rw[Q6 e];simp only[Qb,QA];omega
 ·rw[Pc b];exact⟨h0,Qe _⟩
theorem sD{s:Tx}(G0:HX w)(hs:s.length<=6000):Sp PP 9 #[Ae s] w λv w'=>v=.tuple #[Ae (BK EG (AE s)),.int .i64 0]/\AC w w'/\(BK EG (AE s)).length<=1000000000000:=by
 have hz:=AM s;have G:Gk w.heap.size w:=λu f=>G0.ext (f.mono λi hi h=>absurd h (by omega));refine eN ?_;refine iF (by omega) (dT (λi=>w.heap.size<=i) (.duo 0 (.one 1 (.one 2 (.duo 3 (oL [4,5,6] .nil) 4 (.lone 3 (.one 5 (.one 6 .nil)))))) 4 (.lone 0 (.one 1 (.one 2 (.lone 3 (.one 5 (.one 6 .nil))))))) λu e=>?_);have he:=e.e.size;refine⟨IX (α:=SV) ⟨none,0,0⟩ rfl rfl (by decide) λgw w1 Z s1 a0=>⟨Fr.fr s1.e,Aq (cs:=[.int .i64 1,.slice none 0 0,.slice (some ⟨gw,0,none⟩) 1 1]) rfl (Aq (cs:=[.int .i64 1,.slice none 0 0,.slice (some ⟨gw,0,none⟩) 1 1,.pointer none]) rfl ⟨BM λt w2 n2 K2=>⟨Fr.fr n2.e,AA gN ?_⟩,AA gN ?_⟩)⟩,AA gN ?_⟩
 case' refine_1 =>
  rintro _ a ⟨⟨j,rfl,M3,R⟩,e3⟩;refine⟨Fr.fr e3.e,?_⟩;have K2:Bk w2 t [.int .i64 1,.slice none 0 0,.slice (some ⟨gw,0,none⟩) 1 1,.pointer none] 38:=K2;have L:=K2.mv (w:=a);have N:=n2.lo (u:=w);have z2:=lz u w2;have l2:=K2.lt;have O3:AD w.heap.size 28 a (.slice (some ⟨gw,0,none⟩) 1 1) [(⟨none,0,0⟩:SV)]:=((Z.mono (B':=w.heap.size) he).up (w':=w2)).up (w':=a)
  have x:j≠t/\j≠gw:=by
   have:gw<w2.heap.size:=by
    have l:=(Z.up (w':=w2)).lt (by simp);obtain⟨b,F,_,h3⟩:=l;have:=QL F;simp only at this;omega
   constructor<;>omega
 case' refine_2 =>
  rintro _ w2 ⟨⟨j,rfl,M2,R⟩,e2⟩;refine⟨Fr.fr e2.e,BM λt a n3 L=>⟨Fr.fr n3.e,?_⟩⟩;have L:Bk a t [.int .i64 1,.slice none 0 0,.slice (some ⟨gw,0,none⟩) 1 1,.pointer none] 38:=L;have N:=n3.lo (u:=w);have M3:=M2.up (w':=a);have O3:AD w.heap.size 28 a (.slice (some ⟨gw,0,none⟩) 1 1) [(⟨none,0,0⟩:SV)]:=((Z.mono (B':=w.heap.size) he).up (w':=w2)).up (w':=a)
  have x:j≠t/\j≠gw:=by
   have:gw<w1.heap.size:=by
    have l:=Z.lt (by simp);obtain⟨b,F,_,h3⟩:=l;have:=QL F;simp only at this;omega
   have:=n3.lo (u:=w2);have:=M2.lt;constructor<;>omega
 case' refine_3 =>
  rintro _ w1 ⟨⟨j,rfl,M1,R⟩,e1⟩;refine⟨Fr.fr e1.e,IX (α:=SV) ⟨none,0,0⟩ rfl rfl (by decide) λgw w2 O2 s2 a0=>⟨Fr.fr s2.e,Aq (cs:=[.int .i64 1,.slice none 0 0,.slice (some ⟨gw,0,none⟩) 1 1]) rfl (Aq (cs:=[.int .i64 1,.slice none 0 0,.slice (some ⟨gw,0,none⟩) 1 1,.pointer none]) rfl (BM λt a n3 L=>⟨Fr.fr n3.e,?_⟩))⟩⟩;have L:Bk a t [.int .i64 1,.slice none 0 0,.slice (some ⟨gw,0,none⟩) 1 1,.pointer none] 38:=L;have N:=n3.lo (u:=w);have M3:=M1.up (w':=a);have z1:=lz u w1;have O3:AD w.heap.size 28 a (.slice (some ⟨gw,0,none⟩) 1 1) [(⟨none,0,0⟩:SV)]:=(O2.mono (B':=w.heap.size) (by omega)).up (w':=a)
  have x:j≠t/\j≠gw:=by
   have:=M1.lt;have:=n3.lo (u:=w2);have:=s2.e.size;constructor<;>omega
 all_goals
  have a1:w.heap.size<=gw:=by omega
  have P3:=US N a1 L O3;have s3:AC w a:=stp;have z3:=s3.e.size;refine Ao λbb w4 n4 B4=>?_;have a2:=n4.lo (u:=w);have b9:=n4.lo (u:=a);have W4:IF w.heap.size bb [] (.slice none 0 0) w4:=IF.new a2 B4;have S:=P3.reg;have M4:=M3.up (w':=w4);have c0:=M3.lt;have s4:AC w w4:=stp
  refine IN Ab 18 [7,8,9] 0 (λn v u=>∃(rest out:Tx) (d:DB) (D:Nat->Prop) (bv:Value),n=rest.length/\v=Ae rest/\rest.length<=s.length/\BK EG (AE s)=out++BK d (AE rest)/\out.length<=(s.length - rest.length)*100000001 /\
    EH D w.heap.size t d u/\BN PP 9 u j Lj/\¬D j/\IF w.heap.size bb out bv u/\¬D bb/\(∀g,bv.ownBlock=some g->¬D g)/\AC w u) rfl
   ⟨s.length,s,[],EG,_,_,rfl,rfl,Qe _,rfl,XE _,P3.up (w':=w4),M4,(λh=>by rcases h with h|h;exact x.1 h;exact x.2 h),W4,(λh=>by have:=(S bb h).2;omega),(λg q=>nomatch q),s4⟩ ?_
  rintro n v G8 u8 ⟨rest,out,d,D,bv,rfl,rfl,c1,H,c2,P,M,T,W,O,Q,su⟩;have zu:=su.e.size;have I:=P.reg
  have U:bb<u8.heap.size:=by
   have l:=W.at';obtain⟨p,_,K⟩:=l;exact K.lt
  have m:∀g,bv.ownBlock=some g->g<u8.heap.size/\g≠j:=λg q=>by
   have l:=W.own.2;rcases l with⟨rfl,_⟩|⟨g',cap,a3,rfl,_,y,_⟩
   ·cases q
   ·have a4:g'=g:=QL q;subst a4;refine⟨AY y,λe=>?_⟩;obtain⟨⟨es,c,F,_⟩,_⟩:=M;rw[e]at y;rw[F]at y;cases y
  refine TN (λa5=>?_) (λa6=>?_)
  ·have J:rest≠[]:=λh=>a5 (by rw[h]);have V:=zP8 J;have a7:=yO J;refine AA (yT (G.next (w':=u8) (Fr.fr su.e)).at (s:=rest) (by omega) (sep:=[10])) ?_;rintro _ z ⟨rfl,e9⟩;have s9:AC w z:=stp;have z9:=e9.e.size;refine AA (zJ6 (P.up (w':=z)) (G.next (w':=z) (Fr.fr s9.e)) (M.up (w':=z)) (s:=(Lib.cut rest [10]).1) (by omega)) ?_;rintro _ A ⟨c3,rfl,a8,C⟩;have c4:=C.size;refine IW (b:=⟨[10].toArray⟩) (by simp only[AM,QA,QZ];omega) ?_;rw[SJ];have a9:=(W.fr (e9.e) (λh=>h) (λg _ h=>h)).fr C O Q;refine AA (zGJ a9 (by omega) (by simp) (by rw[Qb,VC];omega)) ?_;rintro _ b0 ⟨b1,b2,E,b3⟩;have c5:=E.size
   have o:∀i,i<u8.heap.size->¬D i->¬gR D z A i:=λi F h2 h3=>by
    rcases h3 with h|h
    ·exact h2 h
    ·omega
   have X:∀i,gR D z A i->i<A.heap.size:=λi hi=>by
    rcases hi with h|h
    ·have:=(I i h).2;omega
    ·omega
   have b4:j≠bb:=λh=>by
    have l:=W.at';obtain⟨p,_,K⟩:=l;exact M.ne K h.symm
   have b5:AC w b0:=⟨Fr.st (Fr.st s9.e C λi hi=>(I i hi).1) E λi hi=>by
    rcases hi with hi|hi
    ·omega
    ·have l:=W.own.2;rcases l with⟨rfl,_⟩|⟨g',cap,a3,rfl,c6,_⟩
     ·cases hi
     ·have:g'=i:=QL hi;omega⟩
   have b6:=M.lt;refine⟨(Lib.cut rest [10]).2.1.length,V.1,(Lib.cut rest [10]).2.1,out++((AT d (Lib.cut rest [10]).1).1++[10]),(AT d (Lib.cut rest [10]).1).2,gR D z A,b1,rfl,rfl,by omega,?_,?_,?_,?_,o j b6 T,b2,o bb U O,?_,b5⟩
   ·rw[H,a7];show out++((AT d (Lib.cut rest [10]).1).1++[10]++BK _ _)=_;simp only[Qp]
   ·rw[Qb,Qb,VC];have F:=V.1;omega
   ·exact a8.away E λi hi=>by
     rcases hi with hi|hi
     ·rw[hi];exact o bb U O
     ·exact o i (m i hi).1 (Q i hi)
   ·exact((M.up (w':=z)).fr C T).fr E λh=>by
     rcases h with h|h
     ·exact b4 h
     ·exact(m j h).2 rfl
   ·intro g q;rcases b3 with hb|⟨g',hb,F,h2⟩
    ·rw[hb]at q;exact o g (m g q).1 (Q g q)
    ·rw[hb]at q;have:=QL q;intro h;have:=X g h;omega
  ·have b7:rest=[]:=SC a6;subst b7;have Y:BK EG (AE s)=out:=by rw[H];show out++[]=out;rw[QE]
   refine AA (W9 W.r (by omega)) ?_;rintro _ z ⟨rfl,_,f9⟩;rw[Y];have b8:out.length<=1000000000000:=by omega
   exact⟨rfl,⟨Cl.st su.e f9 (Qe _) λi hi=>by omega⟩,b8⟩
theorem TU{s:Tx}(a:HX w)(b:s.length<=6000):Sp PP 9 #[Ae s] w λv w'=>v=.tuple #[Ae (BK EG (AE s)),.int .i64 0]/\AC w w':=
 (sD a b).mono λ_ _ h=>⟨h.1,h.2.1⟩
theorem zPB{s:Tx}{f:Nat}(a:f<=i)(hi:i<s.length):(s.take (i+1)).drop f=(s.take i).drop f++[s[i]]:=by
 rw[Ci hi,List.drop_append_of_le_length (by rw[Qm];omega)]
theorem zK{s:Tx}{f:Nat}(a:f<=i)(hi:i<s.length):s.drop f=(s.take i).drop f++s[i]::s.drop (i+1):=by grind[List.drop_eq_getElem_cons,List.take_append_drop,List.length_take]
theorem gD{s:Tx}{y:UInt8}(V:s.length<=1000000000000):Sp PP 17 #[Ae s,.int .u8 (y.toNat:Int)] w λv w'=>AD w.heap.size 9 w' v (Ek (CA y s))/\AC w w':=by
 have I:=AM s;refine eN ?_;refine cP 8 [] 5 6 7 s.length (λi F H u=>∃(f:Nat) (done:List Tx),H=.int .i64 (f:Int)/\f<=i/\y∉(s.take i).drop f/\CA y s=done++CA y (s.drop f)/\AD w.heap.size 9 u F (Ek done)/\done.length<=i/\AC w u) ?_ ?_
 ·exact⟨0,[],rfl,Qe _,by simp,rfl,AD.nil _ _ _,Qe _,stp⟩
 rintro i F H G u hi ⟨f,done,rfl,m,b,o,O,J,K⟩;refine ite (λBS=>?_) (λL=>?_)
 ·have d:i<s.length:=by omega
  refine FO (i:=i) (c:=s[i]) (by simp) (ite (λM=>?_) (λp=>?_))
  ·have N:s[i]=y:=UInt8.toNat_inj.1 (by have h:((s[i].toNat:Nat):Int)=(y.toNat:Int):=M;omega);have q:(s.drop f).take (i - f)=(s.take i).drop f:=by rw[List.drop_take]
   refine gE (lo:=f) (hi:=i) rfl rfl m (by omega) ?_;rw[Ml,q];refine bS (⟨((s.take i).drop f).toArray⟩:ByteArray) λQ r R _ t=>Aw (u:=w) ⟨rfl,rfl⟩ (O.up (w':=r)) t (by rw[Qr];omega) λx l z S T=>?_;have e:AD w.heap.size 9 l x (Ek (done++[(s.take i).drop f])):=by rw[Ue];exact z
   have A:CA y s=(done++[(s.take i).drop f])++CA y (s.drop (i+1)):=by
    rw[o,zK m d,N,bU b,Qp];rfl
   have C:(done++[(s.take i).drop f]).length<=i+1:=by rw[Qb,VC];omega
   have a:y∉(s.take (i+1)).drop (i+1):=by rw[List.drop_eq_nil_of_le (by rw[Qm];omega)];simp
   have j:AC w l:=stp;refine rA ?_;exact rA ⟨rfl,d,i+1,done++[(s.take i).drop f],rfl,Qe _,a,A,e,C,j⟩
  ·have a:y∉(s.take (i+1)).drop f:=by
    rw[zPB m d];intro h;have U:=Qf.1 h;rcases U with h|h
    ·exact b h
    ·have:=Qc.1 h;exact p (by rw[<-this])
   exact rA ⟨rfl,d,f,done,rfl,by omega,a,o,O,by omega,K⟩
 ·have E:i=s.length:=by omega
  subst E;rw[Qg]at b;refine LC (lo:=f) rfl (by omega) ?_;rw[Ml,I,<-QR,Qg];refine bS (⟨(s.drop f).toArray⟩:ByteArray) λQ r R _ t=>Aw (u:=w) ⟨rfl,rfl⟩ (O.up (w':=r)) t (by rw[Qr];omega) λx l z S T=>?_;have e:AD w.heap.size 9 l x (Ek (done++[s.drop f])):=by rw[Ue];exact z
  rw[o,Y0 b];have j:AC w l:=stp;exact⟨e,j⟩
theorem cI{s:Tx}(l:s.length<=1000000000000):Sp PP 10 #[Ae s] w λv w'=>AD w.heap.size 9 w' v (Ek (AE s))/\AC w w':=by
 have p:=AM s;refine eN ?_;refine DJ (λh=>?_) (λh=>?_)
 ·have:s=[]:=SC h;subst this;exact⟨AD.nil _ _ _,stp⟩
 ·have b:s≠[]:=λe=>h (by rw[e]);have h0:0<s.length:=JI.2 b;have a:s.getLast? = some s[s.length - 1]:=by rw[List.getLast?_eq_getElem?,Qd (by omega)]
  refine rF (s.length - 1) (FO (i:=s.length - 1) (c:=s[s.length - 1]) (by simp) (ite (λm=>?_) (λd=>?_)))
  ·have o:s[s.length - 1]=10:=UInt8.toNat_inj.1 (by have h:((s[s.length - 1].toNat:Nat):Int)=10:=m;have q:(10:UInt8).toNat=10:=rfl;omega)
   have f:AE s=CA 10 (s.take (s.length - 1)):=by
    unfold AE;rw[if_neg b,a,o,if_pos rfl,XO]
   refine rF (s.length - 1) (Hv (hi:=s.length - 1) rfl (by omega) ?_);rw[Ml,Jf,JF,f];refine AA (gD (y:=10) (by rw[Qm];omega)) ?_;rintro v w1 ⟨O,j⟩;exact⟨O,j⟩
  ·have f:AE s=CA 10 s:=by
    unfold AE;rw[if_neg b,a,if_neg];intro e;have:=QL e;exact d (by rw[this];rfl)
   rw[f];refine AA (gD (y:=10) l) ?_;rintro v w1 ⟨O,j⟩;exact⟨O,j⟩
theorem Zo{s:Tx}:Sp PP 7 #[Ae s] w λv w'=>(∃b,v=.bool b)/\AC w w':=by
 have I:=AM s;refine eN ?_;refine ite (λh=>?_) (λh=>?_)
 ·refine ite (λm=>⟨⟨_,rfl⟩,stp⟩) (λm=>?_);exact ite (λp=>⟨⟨_,rfl⟩,stp⟩) (λp=>⟨⟨_,rfl⟩,stp⟩)
 ·refine AA (cI (s:=s) (by omega)) ?_;rintro v w1 ⟨O,J⟩
  have q:(AE s).length<=s.length+1:=by
   unfold AE;split
   ·simp
   ·refine Qw (Zt 10 _) ?_;split
    ·rw[List.length_dropLast];omega
    ·omega
  have e:=O.shape;obtain⟨a,c,rfl⟩:=e;have f:(Ek (AE s)).length=(AE s).length:=Qr ..;rw[f]at O ⊢;refine cO 19 [2] 4 5 (AE s).length (λi v u=>∃h:Nat,v=.int .i64 (h:Int)/\h<=i/\AC w1 u) ?_ ?_
  ·exact⟨0,rfl,Qe _,stp⟩
  rintro i v G u hi ⟨h,rfl,K,j⟩;refine ite (λBS=>?_) (λr=>?_)
  ·have d:i<(AE s).length:=by omega
   have e:∃t,t=(AE s)[i]:=⟨_,rfl⟩;obtain⟨t,y⟩:=e;have z:=AM t;have get:∀{k:KW} {C:PW},(∀b o,At u b o (enc (⟨t.toArray⟩:ByteArray))->k (.pointer (some ⟨b,o,none⟩)) u)->AI PP (Instr.indexAt 28 (.slice a (AE s).length c) (.int .i64 i)) k C u:=λE=>Bp (l:=Ek (AE s)) (O.sl.up (w':=u)) (i:=i) (x:=(⟨t.toArray⟩:ByteArray)) (by rw[QK,Qd d,y];rfl) E;refine get λb o A=>AF (A.cell0 rfl) ?_;refine ite (λF=>?_) (λF=>?_)
   case' refine_1 =>
    refine get λb o A=>AF (A.cell0 rfl) ?_;refine Hv (hi:=4) rfl (by omega) ?_;refine DJ (λ_=>?_) (λ_=>?_)
    case' refine_2 =>
     refine get λb o A=>AF (A.cell0 rfl) ?_;refine Hv (hi:=4) rfl (by omega) ?_;refine DJ (λ_=>?_) (λ_=>?_)
   all_goals first
    |refine rF (h+1) ?_
    |skip
   all_goals
    refine get λb o A=>AF (A.cell0 rfl) ?_;refine ite (λH=>?_) (λH=>rA ⟨rfl,d,_,rfl,by omega,j⟩);refine get λb o A=>AF (A.cell0 rfl) ?_;refine Hv (hi:=6) rfl (by omega) ?_;refine DJ (λ_=>?_) (λ_=>rA ⟨rfl,d,_,rfl,by omega,j⟩);refine get λb o A=>AF (A.cell0 rfl) ?_;refine ite (λ_=>⟨⟨_,rfl⟩,stp⟩) (λL=>?_);refine get λb o A=>AF (A.cell0 rfl) ?_;refine FO (i:=6) (c:=t[6]'(by omega)) (by simp) ?_;exact ite (λ_=>⟨⟨_,rfl⟩,stp⟩) (λ_=>rA ⟨rfl,d,_,rfl,by omega,j⟩)
  ·refine ite (λ_=>⟨⟨_,rfl⟩,stp⟩) (λ_=>?_);exact ite (λ_=>⟨⟨_,rfl⟩,stp⟩) (λ_=>⟨⟨_,rfl⟩,stp⟩)
set_option maxRecDepth 20000
theorem FE{t:TypeId}{x y:Operand}{s m:Tx}{k:KW}{a:PW}(h:s.length+m.length<=9223372036854775807)(b:k (Ae (s++m)) w):AI PP (do eqGuard .add t x y (Ae s) (Ae m);binOp .add t (Ae s) (Ae m)) k a w:=
 IW (by rw[AM,AM];exact h) (by rw[SJ];exact b)
theorem PA(G:HX w):Sp PP 8 #[] w λv w'=>v=.bool true/\AC w w':=by
 have a:=TU (s:=kI) G (by decide);rw[jS]at a;refine eN ?_;refine AA a ?_;rintro _ w1 ⟨rfl,b⟩;refine iT rfl ?_;exact DJ (λ_=>⟨rfl,stp⟩) (λh=>absurd rfl h)
theorem fF{s m:Tx}(h:s.getLast? = some 10\/s=[]):∃d,BK EG (AE (s++m))=BK EG (AE s)++BK d (AE m):=by
 rw[zNV h.symm,qK];exact⟨_,rfl⟩
theorem qB{s:Tx}(h:0<s.length)(a:s[s.length - 1]=10):s.getLast? = some 10:=by
 rw[List.getLast?_eq_getElem?,Qd (by omega),a]
theorem cJ{C:Checked}{os:Os}{f:FuncId}{fn:Func}{s:ChangeSpec}{H:Type}{m:TypeId×Value->H}{tb:TypeId}{b:List (String×DataW Unit)}
  (L:(b.all λx=>x.2.handleName?.isNone)=true)
  (own:ownKnob C.prog.godebug=none)(c:os.Started)(l:C.prog.inits.idxOf? f=none)(M:C.prog.funcs[f]? = some fn)
  (d:∃(w:World) (a:Tape) (i:Input),w.os=os/\(w.forCall a i).Shaped C.prog/\i.vars=[]/\Input.okWide C.prog (w.forCall a i) .any w.heap.size f i /\
   ((s.pre m C.prog fn [] false (w.forCall a i).memory i.args/\laidMetH C.prog b (w.forCall a i).memory)/\sizedMet m C.prog fn (OpenSpec.ofChange s) false (w.forCall a i).memory i.args)/\({}:Assume).holds C.prog (lone (Frame.enter C.prog f i.args .normal) [] (w.forCall a i)))
  (hl:laidOutB C.prog=true)(N:fn.params.toList.all (λt=>C.prog.readableRec t && decide (t<C.prog.types.size))=true)(O:s.vars=[])(hr:fn.resultTypes=#[tb])(hb:C.prog.underlying tb=some .bool)
  (Q:∀ds:List (DataW H),ds.length=fn.params.size->s.fn H ds = { results:=[.lit (.bool true)],args:=ds })
  (R:∀(W:World) (y:Nat) (args:Array Value) (ds:List (DataW H)) (ps:List MemPlace),W.ShapedOpen C.prog->laidMet C.prog b W->(∀(j:Nat) t v,fn.params[j]? = some t->args[j]? = some v->Value.okWide C.prog W .any y t v) ->
   DataW.TrodAll m C.prog W 0 (λ_=>true) true fn.params.toList args.toList ds ps->(DataW.weightsEach C.prog fn.params.toList ds).all (·<=reachBytes)=true->Sp C.prog f args W λv z=>v=.bool true/\Bn W z):
  ReturnsInHanded {} C os f .any (λw args=>(s.pre m C.prog fn [] false w args/\laidMetH C.prog b w)/\sizedMet m C.prog fn (OpenSpec.ofChange s) false w args) (s.post m C.prog fn false true false false):=by
 refine returnsInHanded_of_calls own c l d ?_;intro w a i _ S _ T A _;obtain⟨_,_,_,o,E,_,_,_,_,F⟩:=T;have e:o=fn:=QL (E.symm.trans M);subst e;obtain⟨⟨⟨ds,gs,K,hw,hc⟩,U⟩,hz⟩:=A;have G:=hz.weights hw;have V:=DataW.Whole.of_heap (w':=w.forCall a i) (by rfl) hw;have hL:laidMetH C.prog b (w.forCall a i):=laidMetH.of_heap (by rfl) U;rw[MakeChecks.laidMetH_plain _ _ _ L]at hL
 have X:Calls C.prog f i.args (w.forCall a i) λe z=>∃v,e=.returned v/\s.post m C.prog o false true false false (w.forCall a i) i.args v z:=by
  generalize w.forCall a i=W at *;have BS:=V.lt;have Y:=V;obtain⟨p,q,I,Z,rfl,a1,a2⟩:=V;rw[O]at Z
  have a0:gs=[]/\q=[]:=by
   cases gs with
   |nil=>exact⟨rfl,Z⟩
   |cons g r=>exact Z.elim
  obtain⟨rfl,rfl⟩:=a0
  have J:(DataW.weightsEach C.prog o.params.toList ds).all (·<=reachBytes)=true:=by
   have:(OpenSpec.ofChange s).bare.plain.varTypes C.prog=[]:=by simp[DataSpec.varTypes,ChangeSpec.plain,OpenSpec.bare,OpenSpec.ofChange,O]
   rw[this]at G;simpa using G
  refine(R W _ i.args ds p S hL F I J).calls.mono λe z u=>?_;cases e<;>try exact u.elim
  rename_i v;obtain⟨rfl,u⟩:=u;refine⟨_,rfl,ds,[],p++[],[],p,[],Y,?_,?_,?_,u.kept,λh=>by cases h⟩
  ·rw[QE,Q ds (by have:=bB I;simpa using this),hr];exact Go.ChangeShapes.trodAll_mk1 (Go.RowKit.shut_bool hb _)
  ·rw[QE,Q ds (by have:=bB I;simpa using this)];exact oX hl u.below N I λx U=>BS x (by simpa using U)
  ·rw[QE,Q ds (by have:=bB I;simpa using this),O];rfl
 refine X.mono λe z ⟨v,u,hp⟩=>?_;subst u;exact ChangeSpec.post_blind hp
open Go Go.RowKit Go.ChangeShapes
def bO (P:Program) (n:String):Bool:=match P.globalNamed n with
 |some g=>match (P.globals[g]?).map (·.type) with
  |some t=>match P.underlying t with
   |some (.interface _)=>true
   |_=>false
  |none=>false
 |none=>false
def V3 (P:Program) (n:String) (k:IntKind):Bool:=match P.globalNamed n with
 |some g=>match (P.globals[g]?).map (·.type) with
  |some t=>match P.underlying t with
   |some (.array m e)=>(match P.underlying e with
    |some (.int k2)=>decide (k2=k)
    |_=>false) && P.cellsOf e==1 && P.cellsOf t==m
   |_=>false
  |none=>false
 |none=>false
theorem lH{n l:String}{d:DataW Unit}{rest:List (String×DataW Unit)}{W:World}(hb:bO P n=true)(h:laidMet P ((n,.iface l d)::rest) W):∃t p,W.var? P n=some #[.iface t p]:=by
 obtain⟨ps,⟨g0,o,a,q,r,s,b,c,e,f,_,x⟩,_,_⟩:=h;unfold bO at hb;rw[b]at hb;dsimp only at hb;rw[c]at hb;dsimp only at hb;split at hb
 ·rename_i y hi;have m:=iface_of_trod hi f;obtain⟨_,u,v,j,_⟩:=m;refine⟨u,v,?_⟩;rw[e,show a=#[.iface u v] from Array.ext' j]
 ·cases hb
theorem zO0{n:String}{k:IntKind}{zs:List Int}{rest:List (String×DataW Unit)}{W:World}(hb:V3 P n k=true)(h:laidMet P ((n,Lib.tabData k zs)::rest) W):Lib.TabIs P W n k zs:=by
 unfold V3 at hb;split at hb
 ·rename_i g b;split at hb
  ·rename_i t c;split at hb
   ·rename_i m e d;simp only[Qz,beq_iff_eq]at hb;obtain⟨⟨a,f⟩,j⟩:=hb;split at a
    ·rename_i p l;have o:=of_decide_eq_true a;obtain rfl:=o;exact Lib.tabIs_of_head b c d l f j h
    ·cases a
   ·cases hb
  ·cases hb
 ·cases hb
end Go.W
namespace Go.Proofs.YtnanheiakfekdaaGreatDoor
open Go.W Go.ChangeShapes
set_option maxRecDepth 100000
noncomputable def EC : List (String × DataW Unit) := [("math/bits.deBruijn32tab", Rows.laid_math_bits_deBruijn32tab), ("math/bits.deBruijn64tab", Rows.laid_math_bits_deBruijn64tab), ("internal/strconv.uint64pow10", Rows.laid_internal_strconv_uint64pow10), ("unicode/utf8.acceptRanges", Rows.laid_unicode_utf8_acceptRanges), ("strconv.ErrRange", Rows.laid_strconv_ErrRange), ("strconv.ErrSyntax", Rows.laid_strconv_ErrSyntax), ("unicode/utf8.first", Rows.laid_unicode_utf8_first)]
theorem Uo : V3 PP "internal/strconv.uint64pow10" .u64 = true := by kernel_rfl
theorem U4 : bO PP "strconv.ErrRange" = true := by kernel_rfl
theorem UP : bO PP "strconv.ErrSyntax" = true := by kernel_rfl
theorem LH{W:World}(a:W.ShapedOpen PP)(h:laidMet PP EC W):HX W:=by
 have b:=h.tail.tail;have c:=b.tail.tail;have h5:=c.tail;exact⟨Tryz.lays145.s1_3 W a,zO0 (zs:=Lib.pow10Tab) Uo b,lH UP h5,lH U4 c⟩
theorem ZF:(EC.all λx=>x.2.handleName?.isNone)=true:=by kernel_rfl
end Go.Proofs.YtnanheiakfekdaaGreatDoor
namespace Go.Proofs.YtnanheiakfekdaaGreatDoor
open Go.W Go.ChangeShapes
set_option maxRecDepth 100000
set_option linter.unusedVariables false
theorem KB{W:World}{b:Nat}{v:Value}{H:Type}{g:TypeId×Value->H}{d:DataW H}{ps:List MemPlace}(h:Value.okWide Tryz.prog W .any b 9 v)(i:DataW.Trod g Tryz.prog W 0 (λ_=>true) true 9 v d ps)
  (a:(d.weights Tryz.prog 9).all (·<=reachBytes)=true):∃f:U8,v=Ae f/\f.length<=1000000000000000:=by
 obtain⟨e,j⟩:=i;have k:=DataW.trod_string (P:=Tryz.prog) (t:=9) (by kernel_rfl) j;obtain⟨s,l,c,_⟩:=k;refine⟨s.data.toList,zPX h (by kernel_rfl) l,?_⟩;have hd:d=.lit (.string s.data.toList):=congrArg Prod.fst c;rw[hd]at a;simp only[DataW.weights,Ye,List.all_nil,Bool.and_true]at a;have m:=of_decide_eq_true a;have n:=reachBytes_lt;omega
theorem Wi {H:Type}{P:Program}{t:TypeId}{ts:List TypeId}{d:DataW H}{r:List (DataW H)}{p:Nat->Bool}(h:(DataW.weightsEach P (t::ts) (d::r)).all p=true):(d.weights P t).all p=true/\(DataW.weightsEach P ts r).all p=true:=by
 simpa only[DataW.weightsEach,List.all_append,Qz]using h
theorem dR(os:Os)(args:Array Value):((World.laidAll Tryz.prog os EC).forCall (λ_ _=>0) ⟨#[],args,[]⟩).Shaped Tryz.prog:=World.shaped_of_ZipB (by kernel_rfl) (by kernel_rfl)
theorem dE(os:Os)(args:Array Value):laidMetH Tryz.prog EC ((World.laidAll Tryz.prog os EC).forCall (λ_ _=>0) ⟨#[],args,[]⟩).memory:=by
 rw[MakeChecks.laidMetH_plain _ _ _ ZF];exact laidMet_laidAll _ (by kernel_rfl) (by kernel_rfl)
end Go.Proofs.YtnanheiakfekdaaGreatDoor
namespace Go.W
open Go
variable {B i k n:Nat} {D:Nat -> Prop} {P:Program} {g:Al} {w w' w1 w2:World}
theorem dV:∀{f:FuncId} {args:Array Value} {P:Program},Sp P f args w (λv w'=>v=.bool true/\AC w w')->Sp P f args w (λv w'=>v=.bool true/\Bn w w'):=λh=>h.mono λ_ _ h=>⟨h.1,h.2.e⟩
end Go.W
namespace Go.Proofs.YtnanheiakfekdaaGreatDoor
open Go.W Go.ChangeShapes
theorem TA:ownKnob PP.godebug=none:=by kernel_rfl
theorem OB:laidOutB PP=true:=by kernel_rfl
end Go.Proofs.YtnanheiakfekdaaGreatDoor
namespace Go.W
open Go
variable {B i k n:Nat} {D:Nat -> Prop} {P:Program} {g:Al} {w w' w1 w2:World}
theorem zNb(h:P.funcs.any Func.goes=false)(f:FuncId):P.goes f=false:=by
 unfold Program.goes;rw[h,Bool.and_false,Bool.or_false,List.any_eq_false];intro g _
 cases a:P.funcs[g]? with
 |none=>simp
 |some fn=>simpa using (Array.any_eq_false'.1 h) fn (Array.mem_of_getElem? a)
theorem zIc(h:P.funcs.any Func.goes=false)(s:String):P.goesFrom s=false:=by
 unfold Program.goesFrom
 cases P.funcNamed s with
 |none=>rfl
 |some f=>exact zNb h f
theorem dO(h:P.funcs.any Func.goes=false){c:OpenClaim}(a:c.start=.entering):false=c.goesBy P:=by
 unfold OpenClaim.goesBy Program.goesAt;rw[zIc h,a];rfl
end Go.W
namespace Go.Proofs.YtnanheiakfekdaaGreatDoor
open Go.W
theorem TF:PP.funcs.any Func.goes=false:=by kernel_rfl
theorem eA : PP.mainIs = some (true, "b0dced846b3b3a43fa766eea3dc368acb4278f8c5c550bf406976ed2125d2229".toList) := by kernel_rfl
theorem bR:true=PP.looks []:=by kernel_rfl
theorem So:PP.wantsStandIn 9=false:=by kernel_rfl
end Go.Proofs.YtnanheiakfekdaaGreatDoor
