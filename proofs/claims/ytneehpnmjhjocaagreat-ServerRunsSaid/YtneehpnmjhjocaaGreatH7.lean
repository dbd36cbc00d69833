/-
  Proved here: parts of this claim.
  Conditions: told at each.
-/
import Derived.Test.YtneehpnmjhjocaaGreatH6
set_option maxHeartbeats 4000000
set_option linter.unusedVariables false
set_option linter.unusedSimpArgs false
namespace Go.W
open Go Go.Proofs
open Enc (enc)
set_option maxRecDepth 10000
variable {a:Option Addr} {i k n:Nat} {w' w1:World}
section
variable {P:Program} {T:Tab} {n:Nat}
theorem loop0J(r:T.ok P=true)(i0 m:Nat)(keep:List Nat)(I:Nat->World->Prop)(J:World->Prop){body:Code}{Q:KS}{F:Nat->Value}{w:World}(b:okB m keep [] body=true)(h0:∃n,I n w)
  (s:∀i g w,I i w->S P T n body { Q.at i0 (λ_ w'=>J w') with nrm:=λ_ w'=>∃o,o<i/\I o w' } (hdF m keep [] g F) w)
  (t:∀g w,J w->Q.ext i0 (hdF m keep [] g F) w):DeepS P T n (.loop body) Q F w:=by
 have h:=loop0G r m keep I (Q:=Q.at i0 (λ_ w'=>J w')) b h0 s;rw [zAC] at h ⊢;intro md f a u;refine Jb ?_ (h md f a u);intro e z w' j;cases e <;> simp only [KS.lift,KS.at] at j ⊢ <;> try exact j
 rename_i i;obtain⟨d,v,p,l⟩:=j;refine⟨d,v,p,?_⟩;split at l
 ·rename_i x;have y:=QD x;obtain rfl:=y;have q:=t d w' l;rw [show hdF m keep [] d F=hdF m keep (zipS [] (mapF d [])) d F from rfl,zEi b (c:=body) p] at q;exact q
 ·exact l
end
theorem SlY.frk{α:Type}[Enc α]{e d:TypeId}{w:World}{v:Value}{l:List α}{b:Nat}{cs:List Value}(h:SlY e w v l)(f:Fr (λi=>i=b) w w')(k:Bk w b cs d)(c:e≠d):SlY e w' v l:=
 h.fr f λj m z _ o hd=>by
  have g:=k.h;have hd:j=b:=hd;rw [<-hd,o] at g;cases g;exact c rfl
section
variable {R:Nat->Prop} {B:Nat} {w0 w w':World} {bs:Nat} {g:GrD} {c:CfD} {s:SvD}
theorem zLQ{k0:Nat}{f:RqD}(S:RefP R B w bs g c s)(e1:i<c.budget)(hB:B<=w.heap.size)(hu:s.held.getD k0 none=some (f,i)):
  Sp PP 60 #[.pointer (some ⟨bs,0,none⟩),.int .i64 (k0:Int)] w λv w'=>v=comeV (stepS g c s.held k0).2/\RefP (gR R w w') B w' bs g c ⟨s.wait,(stepS g c s.held k0).1⟩/\Fr R w w':=by
 have g8:=S.lo;have c3:=S.reg.1;obtain⟨K,wt,hd,lw,lh,lr,S⟩:=S;have l:=zAo hu;obtain⟨hk,hm⟩:=l;have F0:=S.fz.here;have g9:=S.so.len;have N:=(S.so.held f i hm).1;have c4:=S.gi.ok.n2;have hW:=S.ci.workers;have h5:=S.ci.slots;have h6:=S.ci.budget;have a6:=S.gi;have h7:=S.ps;have a7:k0<lh.length:=by rw [F0.lhn];exact hk
 have Z:k0<lr.length:=by rw [F0.lrn];exact hk
 have a0:∀{j:Nat} {x:StD},x∈sts g f.q k0 j->mayX x/\x.key.v<g.n/\0<=x.d/\x.d<g.n:=λ{j x} hx=>by
  have:=zD1 N.q.ok c4 (by omega) hx;exact⟨this.1,this.2.1,this.2.2.1,this.2.2.2.1⟩
 have c5:∀{j:Nat} {x:StD},x∈mls g f.q k0 j->mayX x/\x.key.v<g.n/\0<=x.d/\x.d<g.n:=λ{j x} hx=>zH8 N.q.ok c4 (by omega) hx
 have a9:∀j,(sts g f.q k0 j).length<=400:=λj=>by
  rw [zFZ];have:=sn_le (dir:=0) N.q.ok j;have:=sn_le (dir:=1) N.q.ok j;omega
 have c6:∀j,(mls g f.q k0 j).length<=400:=λj=>by
  have h1:=a9 (j+1);have h2:=(zBc (mls g f.q k0 j) (sts g f.q k0 j)).length_eq;have h4:sts g f.q k0 (j+1)=insAll (mls g f.q k0 j) (sts g f.q k0 j):=rfl;rw [<-h4,Qb] at h2;omega
 have c7:=zK0 (g:=g) (q:=f.q) (slot:=(k0:Int)) a6.ok i;have l:∃rr,lh[k0]? = some rr:=⟨lh[k0],Qd a7⟩;obtain⟨rr,b0⟩:=l;have l:∃jj,lr[k0]? = some jj:=⟨lr[k0],Qd Z⟩;obtain⟨jj,b1⟩:=l;have er:lh[k0]=rr:=by rw [Qd a7] at b0;exact QL b0
 have ej:lr[k0]=jj:=by rw [Qd Z] at b1;exact QL b1
 have a1:Fz (mutR bs K.br) R w λu=>RqV u rr.r f/\SlF u jj.states.v (sts g f.q k0 i)/\SlF u jj.mails.v (mls g f.q k0 i):=S.fz.imp λu X=>by
  have:=X.helds k0 a7 Z;rw [hu,er,ej] at this;exact⟨this.2.1,this.2.2.1,this.2.2.2.1⟩
 have C:jj.steps=i:=by
  have:=F0.helds k0 a7 Z;rw [hu,er,ej] at this;exact this.2.2.2.2
 have e2:=a1.here.1;have O:=e2.id;have l:∃ov,ov=overS g c (s.held.set k0 (some (f,i+1))):=⟨_,rfl⟩;obtain⟨ov,a2⟩:=l;have l:∃an,an=(doneL g f.q (sts g f.q k0 (i+1)) (mls g f.q k0 (i+1))).1:=⟨_,rfl⟩;obtain⟨an,b2⟩:=l;have l:∃dn,dn=(doneL g f.q (sts g f.q k0 (i+1)) (mls g f.q k0 (i+1))).2:=⟨_,rfl⟩;obtain⟨dn,hdn⟩:=l;have l:∃p,p=stepS g c s.held k0:=⟨_,rfl⟩;obtain⟨p,hp⟩:=l
 have e3:ov=true->p=(s.held.set k0 none,some (repB f.id 250 zAn)):=λh=>by
  rw [hp];unfold stepS;rw [hu];dsimp only;rw [<-a2,if_pos h]
 have c8:ov=false->dn=true->p=(s.held.set k0 none,some (repB f.id 0 an)):=λh h2=>by
  rw [hp];unfold stepS;rw [hu];dsimp only;rw [<-a2,if_neg (by rw [h];exact VU),<-hdn,if_pos h2,<-b2]
 have c9:ov=false->dn=false->c.budget<=i+1->p=(s.held.set k0 none,some (repB f.id 251 zAn)):=λh h2 h3=>by
  rw [hp];unfold stepS;rw [hu];dsimp only;rw [<-a2,if_neg (by rw [h];exact VU),<-hdn,if_neg (by rw [h2];exact VU),if_pos h3]
 have d0:ov=false->dn=false->¬c.budget<=i+1->p=(s.held.set k0 (some (f,i+1)),none):=λh h2 h3=>by
  rw [hp];unfold stepS;rw [hu];dsimp only;rw [<-a2,if_neg (by rw [h];exact VU),<-hdn,if_neg (by rw [h2];exact VU),if_neg h3]
 rw [<-hp];have a3:=zJS (g:=g) (q:=f.q) a6.ok N.q.ok (k:=k0) (i:=i+1) (by omega) N.id;rw [<-b2] at a3;have d1:an.hits.length<=1000000:=by have:=a3.2.2.2.1;omega
 have e4:(s.held.set k0 (some (f,i+1))).set k0 none=s.held.set k0 none:=List.set_set ..;clear hp a3;refine eN ?_;refine rX S.cell rfl (rix (S.fz.at (w':=w)).fh b0 λb o A=>rloadA (cs:=enc rr.r) (A.sub 1 8) (Enc.len _) (ral λbx w1 n1 X1=>?_));have e8:=n1.lo (u:=w);refine rE X1 rr.r λw2 X2 f2=>?_;have X2:Bk w2 bx (enc rr.r) 55:=X2;have s2:Stp w w2:=⟨Fr.st Le.e f2 λi hi=>by subst hi;exact e8⟩;clear X1 f2;refine rX S.cell rfl (rix (S.runs.sl.up (w':=w2)) b1 λb o A=>rloadA A (Enc.len _) (ral λbJ w3 n3 J3=>?_));have h8:=n3.lo (u:=w);refine rE J3 jj λw4 J4 f4=>?_;have J4:Bk w4 bJ (enc jj) 114:=J4;have s4:Stp w2 w4:=n3.st f4;clear J3 f4;refine dQ 23 λw5 e5=>tG X2 rr.r.q nf (tG S.cell K.xr nf (tX J4 rfl nf (tX J4 rfl nf (tX S.cell rfl nf ?_))));have Fu:=S.fz.at (w':=w5);have hV:=a1.at (w':=w5);have D:=zLH (W:=c.workers) (xq:=rr.r.q) (S:=sts g f.q k0 i) (M:=mls g f.q k0 i) a6 Fu.rows ⟨hV.1.q.kind,hV.1.q.rad⟩ hV.2.1 hV.2.2 (zF0 i) (λx hx=>⟨(a0 hx).1,(a0 hx).2.1⟩) (λx hx=>⟨(c5 hx).1,(c5 hx).2.1⟩) hW (by have:=a9 i;omega) (by have:=c6 i;omega);rw [c7] at D;refine rcall D ?_;rintro _ w6 ⟨⟨v1,v2,rfl,O6,M6⟩,e6⟩;dsimp only at O6 M6;refine⟨Fr.fr e6.e,?_⟩;have l:=O6.shape;obtain⟨sa,sc,rfl⟩:=l;have l:=M6.shape;obtain⟨ma,mc,rfl⟩:=l;have l:∃nj:RRun,nj=⟨⟨sa,(sts g f.q k0 (i+1)).length,sc⟩,⟨ma,(mls g f.q k0 (i+1)).length,mc⟩,((i+1:Nat):Int)⟩:=⟨_,rfl⟩;obtain⟨nj,a8⟩:=l;have h9:=(S.reg _ S.rj).2;have i0:=(S.reg _ S.rs).2;refine dD (λi=>i=K.br) (upF 13 0) λT e7=>tX S.cell rfl (λh=>S.ne h) (tX J4 rfl (by omega) (rarE (y:=((i+1:Nat):Int)) (by rw [C];push_cast;rfl) (by omega) (tbuild (cs:=enc nj) (by rw [a8];rfl) ?_)));have J7:=S.runs.up (w':=T);refine tixO rfl J7 (x:=lr[k0]) (by simp) λgj hgj _ _=>rstO' rfl nj J7 hgj Z rfl λU J8 Y _=>?_;have Y:Fr (λi=>i=K.br) T U:=Y.mono λi _ hi=>bjD hi;refine⟨Y,?_⟩;have z5:=lz w w5;have z7:=lz w T;have z8:=Y.size;have X8:=(X2.mv (w:=T)).fr Y (by omega);have d2:=(J4.mv (w:=T)).fr Y (by omega);have O8:=(O6.up (w':=T)).fr Y λb hb _ h=>by omega
 have M8:=(M6.up (w':=T)).fr Y λb hb _ h=>by omega
 have b3:Fr R w U:=(fE w T).trans (Y.mono λi _ h=>h ▸ S.rj);have f0:SvW g c ⟨s.wait,s.held.set k0 (some (f,i+1))⟩:=S.so.set k0 _ λx j h=>by cases h;exact⟨N,e1⟩
 have V:=S.finR (w1:=T) (w':=U) (s':=⟨s.wait,s.held.set k0 (some (f,i+1))⟩) z7 (Y.mono λi _ hi=>.inr hi) hB ((S.cell.mv (w:=T)).fr Y S.ne) J8 f0
  (((S.fz1 (w':=T)).and ((S.fzO (O6.up (w':=T)) z5).and (S.fzO (M6.up (w':=T)) z5))).imp λu ⟨X,So,Sm⟩ =>
   ⟨X.rows,X.pos,X.words,X.fw,X.fh,X.lwn,X.waits,by simp [X.lhn],by simp [X.lrn],zO9 hk hu X.helds ⟨by rw [a8];exact So,by rw [a8];exact Sm,by rw [a8]⟩⟩)
 have f1:=(a1 U (((fE w T).trans Y).mono λi _ h=>.inl (.inr h))).1;have f3:(s.held.set k0 (some (f,i+1))).getD k0 none=some (f,i+1):=by rw [zAz hk,if_pos rfl]
 have f5:=V.reg;have f6:∀{u:World},Le U u->B<=u.heap.size:=λL=>by have:=L.e.size;omega
 have fin:∀{u u':World} {R':Nat->Prop} {s':SvD},RefP R' B u bs g c s'->(∀i,R' i->R i\/w.heap.size<=i)->w.heap.size<=u.heap.size->Fr R w u->Le u u'->RefP (gR R w u') B u' bs g c s'/\Fr R w u':=λh1 h2 h3 h4 L =>
  ⟨RefP.upto (L:=L) h1 h2 c3 hB h3,h4.trans (Fr.fr L.e)⟩
 have P:∀{u u':World},Le U u->Fr (mutR bs K.br) u u'->(∀i,gR (gR R w U) u u' i->R i\/w.heap.size<=i)/\w.heap.size<=u'.heap.size/\Fr R w u'/\¬mutR bs K.br bx/\¬mutR bs K.br bJ:=λ{u u'} L m=>by
  have h1:=L.e.size;have h2:=m.size;refine⟨λi hi=>?_,by omega,(b3.trans (Fr.fr L.e)).trans (m.mono λi _ h=>S.mut h),λh=>?_,λh=>?_⟩
  ·rcases hi with (hi|hi)|hi
   ·exact .inl hi
   ·exact .inr (by omega)
   ·exact .inr (by omega)
  ·rcases h with h|h <;> omega
  ·rcases h with h|h <;> omega
 have D9:=zLP (w:=U) ⟨K,wt,hd,lw,lh,lr.set k0 nj,V⟩;dsimp only at D9;rw [<-a2] at D9;refine rcall D9 ?_;rintro _ G ⟨rfl,e9⟩;have s9:Stp U G:=⟨e9.e⟩;have DR:=λ(u:World) (L:Le U u)=>zFA (k0:=k0) (V.up (w':=u)) f3 (f6 L);simp only [e4] at DR
 cases ov with
 |true =>
  have l:=e3 rfl;obtain rfl:=l;refine rcall (DR G inferInstance) ?_;rintro _ d3 ⟨f7,d4⟩;have l:=P (u:=G) inferInstance d4;obtain⟨q1,q2,q3,q4,q5⟩:=l;refine rld (B:=(X8.mv (w:=G)).fr d4 q4) (v:=.int .i64 f.id) (by rw [<-O];rfl) (rcall zAA ?_);rintro _ b4 ⟨rfl,d5⟩;exact⟨rfl,fin f7 q1 q2 q3 inferInstance⟩
 |false =>
  have F9:=V.fz.at (w':=G);have h0:=F9.words.len
  have DD:∀{u:World},Le G u->Sp PP 122 #[agg rr.r.q,.slice K.ws.a K.ws.n K.ws.c,.slice sa (sts g f.q k0 (i+1)).length sc,.slice ma (mls g f.q k0 (i+1)).length mc] u λv w'=>(∃v1,v=.tuple #[v1,.bool dn]/\AnsS w' v1 an)/\Stp u w':=λ{u} L=>by
   have L8:Le U u:=⟨s9.e.trans L.e⟩;have D:=zLB (f1.q.up (w':=u)) N.q.ok a6 (F9.words.up (w':=u)) (F9.pos.up (w':=u)) (by omega) (O8.sl.up (w':=u)) (by have:=a9 (i+1);omega) (λx hx=>by have:=a0 hx;omega) (M8.sl.up (w':=u)) (by have:=c6 (i+1);omega);rw [<-b2,<-hdn] at D;exact D
  have z9:=lz U G;have i1:bx<G.heap.size:=by have:=(X8.mv (w:=G)).lt;omega
  have i2:bs<G.heap.size:=by omega
  refine dT (λi=>G.heap.size<=i) (oL [0,1,2,3,4,5,6,7] (.two 8 (oL [9,10,11,12,13,14] .nil) 12 (oL [8,9,10,11,13,14] .nil))) λd3 i3=>tG X8 rr.r.q (by omega) (tX V.cell rfl (by omega) ?_);refine⟨?_,?_⟩
  ·refine rcall (DD (u:=d3) inferInstance) ?_;rintro _ b4 ⟨⟨v1,rfl,ax,rfl,b5,b6,YA⟩,d5⟩;refine⟨Fr.fr d5.e,?_⟩;refine ral λba a4 d6 d7=>⟨Fr.fr d6.e,?_⟩;have f8:=d6.lo (u:=G);refine rE d7 ax λt H Q=>?_;have H:Bk t ba (enc ax) 65:=H;refine⟨Q.mono λi _ h=>by omega,?_⟩;have f9:Stp G t:=⟨Fr.st (lE G a4) Q λi h=>by omega⟩;have b7:=(YA.up (w':=a4)).frk Q d7 (by decide)
   cases dn with
   |true =>
    have l:=c8 rfl rfl;obtain rfl:=l;refine rcall (DR t inferInstance) ?_;rintro _ I ⟨b8,J⟩;have l:=P (u:=t) inferInstance J;obtain⟨q1,q2,q3,q4,q5⟩:=l;have d8:=H.lt;have g0:=lz G t;refine rld (B:=(X8.mv (w:=t)).fr J q4) (v:=.int .i64 f.id) (by rw [<-O];rfl) (rG (H.fr J (λh=>by rcases h with h|h <;> omega)) ax (rbuild (cs:=enc (⟨f.id,0,ax⟩:RepD)) rfl ?_));have hJ:=V.runs.bk (g:=K.br) (λh=>by have:=congrArg List.length h;rw [Jc] at this;simp only [QZ] at this;omega) rfl;obtain⟨g1,hJ⟩:=hJ
    have b9:=b7.fr J λb' g2 z _ hc hd=>by
     rcases hd with hd|hd
     ·have hr:=(V.cell.mv (w:=t)).h;rw [<-hd,hc] at hr;cases hr
     ·have hr:=(hJ.mv (w:=t)).h;rw [<-hd,hc] at hr;cases hr
    refine rcall (zCa (a:=an) b5 b6 b9.sl d1) ?_;rintro _ c0 ⟨⟨ee,rfl⟩,g3⟩;exact⟨rfl,fin b8 q1 q2 q3 inferInstance⟩
   |false =>
    refine dQ 9 λI g4=>tX d2 rfl nf (rarE (y:=((i+1:Nat):Int)) (by rw [C];push_cast;rfl) (by omega) (tX V.cell rfl nf (ite (λc1=>?_) (λc1=>?_))))
    ·have l:=c9 rfl rfl (by omega);obtain rfl:=l;refine rcall (DR I inferInstance) ?_;rintro _ c0 ⟨c2,a5⟩;have l:=P (u:=I) inferInstance a5;obtain⟨q1,q2,q3,q4,q5⟩:=l;refine rld (B:=(X8.mv (w:=I)).fr a5 q4) (v:=.int .i64 f.id) (by rw [<-O];rfl) (rcall zAA ?_);rintro _ g5 ⟨rfl,g6⟩;exact⟨rfl,fin c2 q1 q2 q3 inferInstance⟩
    ·have l:=d0 rfl rfl (by omega);obtain rfl:=l;exact⟨rfl,fin (u:=U) ⟨K,wt,hd,lw,lh,lr.set k0 nj,V⟩ (λi hi=>hi.imp id λh=>h.1) (by omega) b3 inferInstance⟩
  ·refine ral λba b4 d9 e0=>⟨Fr.fr d9.e,?_⟩;have f8:=d9.lo (u:=G);refine rcall (DD (u:=b4) inferInstance) ?_;rintro _ a4 ⟨⟨v1,rfl,ax,rfl,b5,b6,YA⟩,g7⟩;refine⟨Fr.fr g7.e,?_⟩;refine rE e0 ax λt H Q=>?_;have H:Bk t ba (enc ax) 65:=H;refine⟨Q.mono λi _ h=>by omega,?_⟩;have f9:Stp G t:=⟨Fr.st (lE G a4) Q λi h=>by omega⟩;have b7:=YA.frk Q (e0.mv (w:=a4)) (by decide)
   cases dn with
   |true =>
    have l:=c8 rfl rfl;obtain rfl:=l;refine rcall (DR t inferInstance) ?_;rintro _ I ⟨b8,J⟩;have l:=P (u:=t) inferInstance J;obtain⟨q1,q2,q3,q4,q5⟩:=l;have d8:=H.lt;have g0:=lz G t;refine rld (B:=(X8.mv (w:=t)).fr J q4) (v:=.int .i64 f.id) (by rw [<-O];rfl) (rG (H.fr J (λh=>by rcases h with h|h <;> omega)) ax (rbuild (cs:=enc (⟨f.id,0,ax⟩:RepD)) rfl ?_));have hJ:=V.runs.bk (g:=K.br) (λh=>by have:=congrArg List.length h;rw [Jc] at this;simp only [QZ] at this;omega) rfl;obtain⟨g1,hJ⟩:=hJ
    have b9:=b7.fr J λb' g2 z _ hc hd=>by
     rcases hd with hd|hd
     ·have hr:=(V.cell.mv (w:=t)).h;rw [<-hd,hc] at hr;cases hr
     ·have hr:=(hJ.mv (w:=t)).h;rw [<-hd,hc] at hr;cases hr
    refine rcall (zCa (a:=an) b5 b6 b9.sl d1) ?_;rintro _ c0 ⟨⟨ee,rfl⟩,g3⟩;exact⟨rfl,fin b8 q1 q2 q3 inferInstance⟩
   |false =>
    refine dQ 9 λI g4=>tX d2 rfl nf (rarE (y:=((i+1:Nat):Int)) (by rw [C];push_cast;rfl) (by omega) (tX V.cell rfl nf (ite (λc1=>?_) (λc1=>?_))))
    ·have l:=c9 rfl rfl (by omega);obtain rfl:=l;refine rcall (DR I inferInstance) ?_;rintro _ c0 ⟨c2,a5⟩;have l:=P (u:=I) inferInstance a5;obtain⟨q1,q2,q3,q4,q5⟩:=l;refine rld (B:=(X8.mv (w:=I)).fr a5 q4) (v:=.int .i64 f.id) (by rw [<-O];rfl) (rcall zAA ?_);rintro _ g5 ⟨rfl,g6⟩;exact⟨rfl,fin c2 q1 q2 q3 inferInstance⟩
    ·have l:=d0 rfl rfl (by omega);obtain rfl:=l;exact⟨rfl,fin (u:=U) ⟨K,wt,hd,lw,lh,lr.set k0 nj,V⟩ (λi hi=>hi.imp id λh=>h.1) (by omega) b3 inferInstance⟩
end
theorem zOg{h:Hs}(e:freeS h=none):(usedS h).length=h.length:=by
 unfold usedS selN;rw [JH.2,Vm];intro k b;have b:=Q0.1 b;have:=zNC e h[k] (Qa b);rw [Qk,Qd b,QP];exact Xt.2 this
theorem zQh{h:Hs}(e:freeS h=some k):(usedS h).length<h.length:=by
 have b:=zCo e;obtain⟨c,d⟩:=b;have:=(Xo (p:=λk=>(h.getD k none).isSome) (l:=List.range h.length)).2 ⟨k,Q0.2 c,by rw [d];simp⟩;rw [Vm] at this;exact this
section
variable {R:Nat->Prop} {B:Nat} {w0 w w':World} {bs:Nat} {g:GrD} {c:CfD} {s:SvD}
theorem zLM(S:RefP R B w bs g c s)(ok:SvOk g c s)(hB:B<=w.heap.size):
  Sp PP 15 #[.pointer (some ⟨bs,0,none⟩)] w λv w'=>∃R':Nat->Prop,Own w.heap.size 9 w' v ((tickS g c s).2.map bsOf)/\(∀b,Value.blk v=some b->b<w'.heap.size/\¬R' b)/\RefP R' B w' bs g c (tickS g c s).1/\(∀i,R' i->gR R w w' i)/\Fr R w w':=by
 have hR:=S.reg.1;have hc:=S.reg.2.2.1;refine eN ?_;have S0:RefP (gR R w w) B w bs g c ⟨s.wait,s.held⟩:=RefP.wide S (λi hi=>.inl hi) λi hi=>hi.elim (hR i) λh=>by omega
 refine loop0J TBok 0 9 [3,4,5,6,7,8] (λi u=>∃l h,l.length=i/\admitS l h=admitS s.wait s.held/\SvOk g c ⟨l,h⟩/\RefP (gR R w u) B u bs g c ⟨l,h⟩/\Fr R w u)
  (λu=>RefP (gR R w u) B u bs g c ⟨(admitS s.wait s.held).1,(admitS s.wait s.held).2⟩/\SvOk g c ⟨(admitS s.wait s.held).1,(admitS s.wait s.held).2⟩/\Fr R w u) rfl ⟨_,s.wait,s.held,rfl,rfl,ok,S0,Fr.refl _ _⟩ ?_ ?_
 ·rintro i G u ⟨l,h,hi,a5,W,S,f⟩;clear S0;have z0:=f.size;have SP:=S;obtain⟨K,wt,hd,lw,lh,lr,S⟩:=S;have F0:=S.fz.here;have a9:=S.small;have X:=F0.lwn;have b5:=F0.fw.len;have d0:=F0.fh.len;have b7:=F0.lhn;have Y:=F0.free;have Z:=F0.usedH;dsimp only at X Y b7 Z
  have out:admitS l h=(l,h)->∀{u':World},Le u u'->RefP (gR R w u') B u' bs g c ⟨(admitS s.wait s.held).1,(admitS s.wait s.held).2⟩/\SvOk g c ⟨(admitS s.wait s.held).1,(admitS s.wait s.held).2⟩/\Fr R w u':=λhe {u'} L=>by
   rw [<-a5,he];exact⟨RefP.upto (L:=L) SP (λi hi=>hi.imp id λh=>h.1) hR hB z0,W,f.trans (Fr.fr L.e)⟩
  refine dD (λ_=>False) [0,1,2,3,4,5,6,7,8,9,10,13,14,15,16,17,11,12,18,19] λI e1=>tX S.cell rfl nf ?_
  refine ite (λh1=>?_) (λh1=>out (by
   have:l=[]:=Qn (by omega);subst this;rfl) inferInstance)
  refine tX S.cell rfl nf (tX S.cell rfl nf ?_);have DU:=zGw (S.fz.at (w':=I)).fh (by omega);rw [Z] at DU;refine rcall DU ?_;rintro vu u2 ⟨O2,e2⟩;have y:=O2.shape;obtain⟨ua,uc,rfl⟩:=y;refine⟨Fr.fr e2.e,?_⟩;have d1:((usedS h).map λk:Nat=>(k:Int)).length=(usedS h).length:=by simp
  refine ite (λh2=>?_) (λh2=>out (by
   have d2:freeS h=none:=by
    cases hf:freeS h with
    |none=>rfl
    |some k=>have:=zQh hf;omega
   cases l with
   |nil=>rfl
   |cons x r=>unfold admitS;rw [d2]) inferInstance)
  obtain⟨k,hf⟩:∃k,freeS h=some k:=by
   cases hf:freeS h with
   |some k=>exact⟨k,rfl⟩
   |none=>have:=zOg hf;omega
  obtain⟨x,r,hl⟩:∃x r,lw=x::r:=by
   cases lw with
   |nil=>simp at b5;omega
   |cons x r=>exact⟨x,r,rfl⟩
  obtain⟨d,l',d3⟩:∃d l',l=d::l':=by
   cases l with
   |nil=>rw [hl] at X;simp at X
   |cons d l'=>exact⟨d,l',rfl⟩
  subst d3;have y:=zCo hf;obtain⟨hk,hn⟩:=y;have d4:k<lr.length:=by rw [F0.lrn];exact hk
  have b8:=S.so.wait d (by simp);have b9:=zIy hc W hf;have Fw:=(S.fz.at (w':=u2)).fw;rw [hl] at Fw;have g5:r.length<=1000:=by rw [hl] at a9;simp at a9;omega
  refine rX S.cell rfl (rcall (zLI Fw (by omega)) ?_);rintro _ u3 ⟨⟨v3,rfl,O3⟩,e3⟩;refine ral λbx u4 n4 X4=>?_;have g6:=n4.lo (u:=u);refine rE X4 x λu5 X5 f5=>?_;have X5:Bk u5 bx (enc x) 55:=X5;have s5:Stp u3 u5:=n4.st f5;clear X4 f5;refine dQ 13 λu6 e6=>tX S.cell rfl nf (tG X5 x nf ?_);have c0:putH lh x=((k:Int),lh.set k ⟨true,x⟩,0):=by unfold putH;rw [Y,hf]
  have DP:=zNm (x:=x) (S.fz.at (w':=u6)).fh (by omega);rw [c0] at DP;refine rcall DP ?_;rintro _ U ⟨⟨v7,rfl,O7⟩,e7⟩;refine⟨Fr.fr e7.e,?_⟩;have g7:=S.reg _ S.rs;have g8:=S.reg _ S.rj;have y:=O3.shape;obtain⟨a3,c3,rfl⟩:=y;have y:=O7.shape;obtain⟨a7,c7,rfl⟩:=y;have z2:=lz u u2;have z6:=lz u u6;have z7:=lz u U;refine rS S.cell [.slice a3 r.length c3] (sv1 _ _ _) λu8 C8 f8=>?_;have C8:Bk u8 bs (refL c K ⟨a3,r.length,c3⟩ hd) 98:=C8;refine rS C8 [.slice a7 (lh.set k ⟨true,x⟩).length c7] (sv1 _ _ _) λu9 C9 f9=>?_;have C9:Bk u9 bs (refL c K ⟨a3,r.length,c3⟩ ⟨a7,(lh.set k ⟨true,x⟩).length,c7⟩) 98:=C9;have V:Fr (λi=>i=bs) U u9:=f8.trans f9;have g9:=V.size;have X9:=(X5.mv (w:=U)).fr V (by omega);have J9:=(S.runs.up (w':=U)).fr V λg _ hg h=>by cases hg;exact S.ne h.symm
  have hV:Fz (mutR bs K.br) (gR R w u) u λu'=>RqV u' x d:=S.fz.imp λu' Fa=>by
   have:=Fa.waits 0 (by rw [hl];simp) (by simp);simp only [hl,Vb] at this;exact this
  have b0:RqV u9 x d:=hV u9 (((fE u U).trans V).mono λi _ h=>.inl (.inl h));have h0:bx<u9.heap.size:=X9.lt;refine dD (λi=>i=K.br) (upF 12 0) λd5 h3=>tX C9 rfl (λh=>S.ne h) (tG X9 x.q (by omega) (rcall (zKC (g:=g) (q:=d.q) (slot:=(k:Int)) ⟨b0.q.kind,b0.q.frm,b0.q.to⟩ b8.q.ok) ?_));rintro h5 A ⟨c1,d6⟩;refine⟨Fr.fr d6.e,?_⟩;have y:=c1.shape;obtain⟨d7,d8,rfl⟩:=y;have y:∃nj:RRun,nj=⟨⟨none,0,0⟩,⟨d7,(mls g d.q k 0).length,d8⟩,0⟩:=⟨_,rfl⟩;obtain⟨nj,a4⟩:=y;refine tbuild (cs:=enc nj) (by rw [a4];rfl) ?_;have c2:=J9.up (w':=A);refine tixO rfl c2 (x:=lr[k]) (by simp) λgj hgj _ _=>rstO' rfl nj c2 hgj d4 rfl λb2 d9 Q _=>?_;have Q:Fr (λi=>i=K.br) A b2:=Q.mono λi _ hi=>bjD hi;refine⟨Q,?_⟩;have h6:=lz u9 A;have g0:=lz u9 d5;have h7:=Q.size;have Z7:=(S.fz1 (w':=U)).and ((S.fzO (O3.up (w':=U)) z2).and (S.fzO O7 z6));have e0:=(Z7.step (M':=mutR bs K.br) (R':=gR (gR R w u) u A) (w':=A) ((V.mono λi _ h=>(.inl h:mutR bs K.br i)).trans (fE u9 A)) (λ_ _ h=>h) (λi _ h=>h.imp id λh=>by omega)).and (S.fzO (w':=A) c1 (by omega))
  have Zn:Fz (mutR bs K.br) (gR (gR R w u) u A) A (RefF g c K ⟨a3,r.length,c3⟩ ⟨a7,(lh.set k ⟨true,x⟩).length,c7⟩ r (lh.set k ⟨true,x⟩) (lr.set k nj) ⟨l',h.set k (some (d,0))⟩):=
   e0.imp λu' ⟨⟨Fa,Sw,Sh⟩,Sm⟩=>by
    refine⟨Fa.rows,Fa.pos,Fa.words,Sw,Sh,?_,λi h1 h2=>?_,by simp [Fa.lhn],by simp [Fa.lrn],zKW hk Fa.helds ⟨rfl,?_,?_,by rw [a4];exact Sm,by rw [a4];rfl⟩⟩
    ·rw [hl] at X;simpa using X
    ·have:=Fa.waits (i+1) (by rw [hl];simpa using h1) (by simpa using h2);simp only [hl,List.getElem_cons_succ] at this;exact this
    ·have:=Fa.waits 0 (by rw [hl];simp) (by simp);simp only [hl,Vb] at this;exact this
    ·rw [a4];exact SlF.nil _
  have fin:=S.fin (w1:=A) (w':=b2) (s':=⟨l',h.set k (some (d,0))⟩) (by omega) (Q.mono λi _ h=>.inr h) (Qw hB z0) ((C9.mv (w:=A)).fr Q S.ne) d9 b9.w Zn
  have hm:Fr R w b2:=by
   refine f.join (E:=gR R w u) (D:=R) (((fE u U).trans (V.mono λi _ h=>h ▸ S.rs)).trans ((fE u9 A).trans (Q.mono λi _ h=>h ▸ S.rj))) (λ_ _ h=>h) λi hi h=>h.elim id λh=>by omega
  refine⟨l'.length,by rw [<-hi];simp,l',h.set k (some (d,0)),rfl,?_,b9,?_,hm⟩
  ·rw [<-a5]
   conv=>rhs;unfold admitS
   rw [hf]
  ·exact RefP.wide fin (gR_gR z0 (by omega)) λi hi=>by
    rcases hi with hi|hi
    ·have:=hR i hi;omega
    ·omega
 clear S0 S ok;rintro G w1 ⟨S1,W,f1⟩;have z1:=f1.size;have y:∃p:SvD,p=⟨(admitS s.wait s.held).1,(admitS s.wait s.held).2⟩:=⟨_,rfl⟩;obtain⟨p,c4⟩:=y;rw [<-c4] at S1 W;have h8:=S1.reg.1;have e4:=S1;obtain⟨K,wt,hd,lw,lh,lr,S2⟩:=e4;have a9:=S2.small;have F2:=S2.fz.here;have hu:=F2.usedH;have d0:=F2.fh.len;have d1:(usedS p.held).length<=lh.length:=by rw [F2.lhn];exact zCQ _ _
 refine rX S2.cell rfl ?_;have D:=zGw F2.fh (by omega);rw [hu] at D;refine rcall D ?_;rintro v C ⟨O2,e2⟩;have y:=O2.shape;obtain⟨ua,uc,rfl⟩:=y;have z2:=e2.e.size;have g2:((usedS p.held).map λk:Nat=>(k:Int)).length=(usedS p.held).length:=by simp
 have P0:RefP (gR R w w1) B C bs g c ⟨p.wait,(stepsS g c ((usedS p.held).take 0) p.held).1⟩:=RefP.up (w':=C) S1
 refine cnt1 TBok 12 [] 9 11 (usedS p.held).length (λj v u=>∃J:Nat->Prop,Own C.heap.size 9 u v ((stepsS g c ((usedS p.held).take j) p.held).2.map bsOf)/\(∀b,Value.blk v=some b->b<u.heap.size/\¬J b) /\
   SvOk g c ⟨p.wait,(stepsS g c ((usedS p.held).take j) p.held).1⟩/\RefP J B u bs g c ⟨p.wait,(stepsS g c ((usedS p.held).take j) p.held).1⟩/\(∀i,J i->gR R w w1 i\/C.heap.size<=i)/\Fr (λi=>J i/\i<C.heap.size) C u) rfl rfl
  ⟨gR R w w1,Own.nil _ _ _,(λb M=>by cases M),W,P0,(λi hi=>.inl hi),Fr.refl _ _⟩ ?_
 clear P0;rintro j v G u hj ⟨J,O,N,b3,P,b4,f⟩;have zu:=f.size;have ff:Fr (λi=>gR R w w1 i/\i<C.heap.size) C u:=f.mono λi hi h=>⟨(b4 i h.1).elim id λh2=>by omega,h.2⟩;have fR:Fr R w u:=(f1.join (H:=λi=>R i) ((Fr.fr (D:=λi=>gR R w w1 i/\i<C.heap.size) e2.e).trans ff) (λ_ _ h=>h) λi hi h=>h.1.elim id λh=>by omega);have Ou:=O2.fr ff λb M h9 h=>by rcases h.1 with h4|h4;(have:=hR b h4;omega);omega
 refine ite (λhlt=>?_) (λe5=>?_)
 ·have a0:j<(usedS p.held).length:=by (try dsimp only at hlt);omega
  have y:∃k,k=(usedS p.held)[j]:=⟨_,rfl⟩;obtain⟨k,hk⟩:=y;have e8:k∈usedS p.held:=by rw [hk];exact Qa a0
  have y:=zJf e8;obtain⟨x0,i,e9⟩:=y
  have f0:k∉(usedS p.held).take j:=λh=>by
   have y:=QI.1 h;obtain⟨m,hm,he⟩:=y;rw [Qm] at hm;rw [VI,hk] at he;have:=(VQ (zML p.held)).1 he;omega
  have hx:(stepsS g c ((usedS p.held).take j) p.held).1.getD k none=some (x0,i):=by rw [zDF _ _ f0];exact e9
  have z:=zDE (g:=g) (c:=c) k ((usedS p.held).take j) p.held;rw [show (usedS p.held).take j++[k]=(usedS p.held).take (j+1) by rw [hk,<-QO a0]] at z;have y:∃a1,a1=(stepsS g c ((usedS p.held).take j) p.held).1:=⟨_,rfl⟩;obtain⟨a1,f2⟩:=y;have y:∃lo,lo=(stepsS g c ((usedS p.held).take j) p.held).2:=⟨_,rfl⟩;obtain⟨lo,c5⟩:=y
  have g4:lo.length<=64:=by
   have:=zCN (g:=g) (c:=c) ((usedS p.held).take j) p.held;rw [<-c5,Qm] at this;omega
  rw [<-f2] at hx P z b3;rw [<-c5] at O z;have f3:B<=u.heap.size:=by omega
  have f4:=P.reg.1;have f6:=(b3.held x0 i (zAo hx).2).2;have c6:SvOk g c ⟨p.wait,(stepS g c a1 k).1⟩:=(zIs k b3).1;refine rix Ou.sl (x:=(k:Int)) (by simp [a0,hk]) λb1 o1 A1=>rload1 (A1.cell0 rfl) ?_;have DS:=zLQ P f6 f3 hx;have y:∃o,o=(stepS g c a1 k).2:=⟨_,rfl⟩;obtain⟨o,ho⟩:=y;dsimp only at DS;rw [<-ho] at DS z;refine rcall DS ?_;rintro _ I ⟨rfl,P1,fs⟩;have zs:=fs.size;have a2:∀{b:Nat},b<u.heap.size->¬J b->¬gR J u I b:=λ{b} M hn h=>h.elim hn λh=>by omega
  have Os:Own C.heap.size 9 I v (lo.map bsOf):=O.fr fs λb _ M=>(N b M).2;have c8:Fr (λi=>gR J u I i/\i<C.heap.size) C I:=f.join fs (λi _ h=>⟨.inl h.1,h.2⟩) λi hi h=>⟨.inl h,hi⟩;have a6:∀i,gR J u I i->gR R w w1 i\/C.heap.size<=i:=λi hi=>hi.elim (b4 i) λh=>.inr (by omega);have T:(stepsS g c ((usedS p.held).take (j+1)) p.held).1=(stepS g c a1 k).1:=by rw [z]
  have a8:(stepsS g c ((usedS p.held).take (j+1)) p.held).2=lo++o.toList:=by rw [z]
  cases o with
  |some t =>
   refine rbs1 (bsOf t) rfl rfl (by decide) λb6 u6 n6 _ S6=>?_;have z6:=lz I u6;refine rappD ⟨rfl,rfl⟩ (Os.up (w':=u6)) S6 (by simp) (by omega) (by rw [Qr];simp;omega) λv7 U O7 f7 c9=>?_;have z7:=f7.size;have nv:∀b,ownD C.heap.size v b->b<u.heap.size/\¬J b:=λb M=>N b M.2.1;have P8:=RefP.away (RefP.up (w':=u6) P1) f7 λb M=>a2 (nv b M).1 (nv b M).2
   have k1:Own C.heap.size 9 U v7 ((stepsS g c ((usedS p.held).take (j+1)) p.held).2.map bsOf):=by
    have:(stepsS g c ((usedS p.held).take (j+1)) p.held).2.map bsOf=lo.map bsOf++[bsOf t]:=by rw [a8,QB];rfl
    rw [this];exact O7
   have k2:∀b,Value.blk v7=some b->b<U.heap.size/\¬gR J u I b:=λb M=>by
    rcases c9 with h|h
    ·rw [h] at M;have:=N b M;exact⟨by omega,a2 this.1 this.2⟩
    ·rw [h] at M;cases M;have y:=O7.lt (by simp);obtain⟨gq,g1,_,g3⟩:=y;rw [h] at g1;cases g1;refine⟨g3,λh=>?_⟩;rcases h with h|h
     ·have:=(f4 _ h).2;omega
     ·omega
   have k3:RefP (gR J u I) B U bs g c ⟨p.wait,(stepsS g c ((usedS p.held).take (j+1)) p.held).1⟩:=by rw [T];exact P8
   have k5:Fr (λi=>gR J u I i/\i<C.heap.size) C U:=
    c8.join ((Fr.fr (D:=ownD C.heap.size v) (lE I u6)).trans f7) (λ_ _ h=>h) λi hi h=>by have:=h.1;omega
   clear S6 P8 nv O7 f7 c9;exact rA ⟨rfl,a0,_,k1,k2,by rw [T];exact c6,k3,a6,k5⟩
  |none =>
   have k1:Own C.heap.size 9 I v ((stepsS g c ((usedS p.held).take (j+1)) p.held).2.map bsOf):=by
    rw [a8];simpa using Os
   have k3:RefP (gR J u I) B I bs g c ⟨p.wait,(stepsS g c ((usedS p.held).take (j+1)) p.held).1⟩:=by rw [T];exact P1
   have k2:∀b,Value.blk v=some b->b<I.heap.size/\¬gR J u I b:=λb M=>by
    have:=N b M;exact⟨by omega,a2 this.1 this.2⟩
   exact rA ⟨rfl,a0,gR J u I,k1,k2,by rw [T];exact c6,k3,a6,c8⟩
 ·obtain rfl:j=(usedS p.held).length:=by (try dsimp only at e5);omega
  rw [Qg] at O P;have h1:tickS g c s=(⟨p.wait,(stepsS g c (usedS p.held) p.held).1⟩,(stepsS g c (usedS p.held) p.held).2):=by rw [c4];rfl
  rw [h1];refine⟨J,O.mono (by omega),N,P,λi hi=>?_,fR⟩;have:=P.reg.1 i hi;have y:=b4 i hi;rcases y with (h|h)|h
  ·exact .inl h
  ·exact .inr (by omega)
  ·exact .inr (by omega)
theorem zDP(S:RefP R B w bs g c s):Sp PP 22 #[.pointer (some ⟨bs,0,none⟩)] w λv w'=>Own w.heap.size 3 w' v (idsH s.held)/\Stp w w':=by
 obtain⟨K,U,hd,V,e,W,S⟩:=S;have H:=S.small;have l:=S.fz.here;have I:=l.fh.len;have q:=l.lhn;refine eN ?_;refine cnt1 TBok 5 [] 3 4 e.length (λj v u=>Own w.heap.size 3 u v (idsH (s.held.take j))/\(idsH (s.held.take j)).length<=j/\Stp w u) rfl rfl ⟨Own.nil _ _ _,Qe _,stp⟩ ?_;rintro j v G u X ⟨O,Y,C⟩;refine rX S.cell rfl (ite (λhlt=>?_) (λt=>?_))
 ·have f:j<e.length:=by (try dsimp only at hlt);omega
  have m:=l.helds j f (by rw [l.lrn];omega)
  have b:idsH (s.held.take (j+1))=idsH (s.held.take j)++((s.held.getD j none).map (·.1.id)).toList:=by
   have h:j<s.held.length:=by omega
   rw [QO h,Qk,Qd h,QP];unfold idsH;rw [XP];cases s.held[j] <;> simp
  have J:∃o,o=s.held.getD j none:=⟨_,rfl⟩;obtain⟨o,L⟩:=J;rw [<-L] at m b;refine rX S.cell rfl ?_
  cases o with
  |none =>
   have y:e[j].used=false:=m.1;refine rix (S.fz.at (w':=u)).fh (x:=e[j]) (by simp) λM N z=>rload1 (v:=.bool false) (z.cell0 (by rw [<-y];rfl)) ?_;have b:idsH (s.held.take (j+1))=idsH (s.held.take j):=by simpa using b
   exact rA ⟨rfl,f,by rw [b];exact O,by rw [b];omega,C⟩
  |some p =>
   obtain⟨d,i⟩:=p;have y:e[j].used=true:=m.1;refine rix (S.fz.at (w':=u)).fh (x:=e[j]) (by simp) λM N z=>rload1 (v:=.bool true) (z.cell0 (by rw [<-y];rfl)) ?_;have b:idsH (s.held.take (j+1))=idsH (s.held.take j)++[d.id]:=by simpa using b
   refine rX S.cell rfl (rix (S.fz.at (w':=u)).fh (x:=e[j]) (by simp) λZ o2 P=>rload1 (P.cell 1 rfl) (rbs1 e[j].r.id rfl rfl (by decide) λb3 Q e3 _ T=>rapp1 (u:=w) ⟨rfl,rfl⟩ (O.up (w':=Q)) T (by omega) λv4 u4 D f4 s4=>?_));have A:=m.2.1.id;rw [A] at D;exact rA ⟨rfl,f,by rw [b];exact D,by rw [b];simp;omega,stp⟩
 ·obtain rfl:j=e.length:=by (try dsimp only at t);omega
  rw [q,Qg] at O;exact⟨O,C⟩
theorem zDQ(S:RefP R B w bs g c s):Sp PP 24 #[.pointer (some ⟨bs,0,none⟩)] w λv w'=>Own w.heap.size 3 w' v (idsW s.wait)/\Stp w w':=by
 obtain⟨K,y,hd,b,z,A,S⟩:=S;have l:=S.small;have e:=S.fz.here;have m:=e.fw.len;have f:=e.lwn;refine eN ?_;refine cnt1 TBok 5 [] 3 4 b.length (λj v u=>Own w.heap.size 3 u v ((s.wait.take j).map (·.id))/\Stp w u) rfl rfl ⟨Own.nil _ _ _,stp⟩ ?_;rintro j v G u C ⟨O,o⟩;refine rX S.cell rfl (ite (λhlt=>?_) (λh=>?_))
 ·have d:j<b.length:=by (try dsimp only at hlt);omega
  refine rX S.cell rfl (rix (S.fz.at (w':=u)).fw (x:=b[j]) (by simp) λD H p=>rload1 (p.cell0 rfl) (rbs1 b[j].id rfl rfl (by decide) λI q J _ r=>rapp1 (u:=w) ⟨rfl,rfl⟩ (O.up (w':=q)) r (by simp;omega) λL M t N P=>rA ⟨rfl,d,?_,stp⟩));rw [QO (by omega),QB];have:=(e.waits j d (by omega)).id;simp only [QS,JP,<-this];exact t
 ·obtain rfl:j=b.length:=by (try dsimp only at h);omega
  rw [f,Qg] at O;exact⟨O,o⟩
end
section
variable {R:Nat->Prop} {B:Nat} {w0 w w':World} {bs:Nat} {g:GrD} {c:CfD} {s:SvD}
theorem zLN{id:Int}(S:RefP R B w0 bs g c s)[L:Le w0 w](t:B<=w0.heap.size):
  Sp PP 68 #[.pointer (some ⟨bs,0,none⟩),.int .i64 id] w λv w'=>v=.int .i64 (backS s id).2/\RefP (gR R w0 w') B w' bs g c (backS s id).1/\Fr R w w':=by
 have Q:=S;obtain⟨K,wt,hd,C,lh,lr,S⟩:=S;have G:=S.fz.here;have Y:=S.small;have e:=G.plc id;have H:=G.found id;have Z:=G.fw.len;have f:∀k,waitAt s.wait id=some k->backS s id=(⟨s.wait.eraseIdx k,s.held⟩,253):=λk h=>by unfold backS;rw [h]
 have l:waitAt s.wait id=none->∀k,heldAt s.held id=some k->backS s id=(⟨s.wait,s.held.set k none⟩,253):=λh k m=>by unfold backS;rw [h];dsimp only;rw [m]
 have q:waitAt s.wait id=none->heldAt s.held id=none->backS s id=(s,141):=λh m=>by unfold backS;rw [h];dsimp only;rw [m]
 have b:∃p,p=backS s id:=⟨_,rfl⟩;obtain⟨p,hp⟩:=b;rw [<-hp] at f l q ⊢;refine eN ?_;refine rX S.cell rfl (rcall (zLJ (id:=id) (S.fz.at (w':=w)).fw (by omega)) ?_);rintro _ I ⟨⟨k,hk,J,m,v',rfl,M⟩|⟨J,v',rfl,M⟩,e3⟩
 ·have z:waitAt s.wait id=some k:=by
   rw [<-e]
   exact zCl hk (by simp [J]) λj T=>by
    have N:j<(C.take k).length:=by rw [Qm];omega
    have:=m _ (Qa N);rw [VI] at this;simp [this]
  have b:=f k z;obtain rfl:=b;have b:=M.shape;obtain⟨U,c3,rfl⟩:=b;refine rS S.cell [.slice U (C.eraseIdx k).length c3] (sv1 _ _ _) λw4 O f4=>?_;have O:Bk w4 bs (refL c K ⟨U,(C.eraseIdx k).length,c3⟩ hd) 98:=O;have V:=S.waits (w1:=I) (s':=⟨s.wait.eraseIdx k,s.held⟩) t O f4 ?_ ?_;exact⟨rfl,V.1,V.2 w inferInstance⟩
  ·exact⟨S.so.len,by have:=S.so.wl;have:=List.length_eraseIdx_le s.wait k;dsimp only;omega,λx hx=>S.so.wait x (List.mem_of_mem_eraseIdx hx),S.so.held⟩
  ·refine((S.fz1 (w':=I)).and (S.fzO M (lz w0 w))).imp λu ⟨d,Sw⟩=>⟨d.rows,d.pos,d.words,Sw,d.fh,?_,λi h P=>?_,d.lhn,d.lrn,d.helds⟩
   ·simp only [Vt,d.lwn]
   ·have hl:=d.lwn;dsimp only at P;rw [Vt] at h;rw [Vt] at P;simp only [List.getElem_eraseIdx];split
    ·exact d.waits i (by omega) (by omega)
    ·exact d.waits (i+1) (by split at h <;> omega) (by split at P <;> omega)
 ·have z:waitAt s.wait id=none:=by
   rw [<-e];exact zCk λj T=>by simp [J _ (Qa T)]
  refine rX S.cell rfl ?_;have D:=zGv (id:=id) (S.fz.at (w':=I)).fh (by omega);have b:∃o,o=heldAt s.held id:=⟨_,rfl⟩;obtain⟨o,A⟩:=b;rw [H,<-A] at D;refine rcall D ?_;rintro _ r ⟨rfl,e5⟩
  cases o with
  |some k =>
   have b:=zH4 A.symm;obtain⟨y,i,hy,W⟩:=b;have b:=l z k A.symm;obtain rfl:=b;refine rcall (zLO (k0:=k) (RefP.up (w':=r) Q) hy (Qw t (lz w0 r))) ?_;rintro _ w6 ⟨S6,X⟩;exact⟨rfl,RefP.gr (w:=w0) S6 X.size t,(fE w r).trans X⟩
  |none =>
   have b:=q z A.symm;obtain rfl:=b;exact⟨rfl,(RefP.new (w':=r) Q t).1,fE w r⟩
theorem zLL{f:List UInt8}(S:RefP R B w bs g c s)(H:B<=w.heap.size)(hf:f.length<=1000000):
  Sp PP 17 #[.pointer (some ⟨bs,0,none⟩),txt f] w λv w'=>v=comeV (comeS g c s f).2/\RefP (gR R w w') B w' bs g c (comeS g c s f).1/\Fr R w w':=by
 have X:=S.lo;have l:∃s' o,comeS g c s f=(s',o):=⟨_,_,rfl⟩;obtain⟨s',o,b⟩:=l
 have a6:reqOf f=none->idOf f=none->s'=s/\o=none:=λp z=>by
  unfold comeS at b;rw [p] at b;dsimp only at b;rw [z] at b;cases b;exact⟨rfl,rfl⟩
 have a7:reqOf f=none->∀id,idOf f=some id->s'=s/\o=some (repB id 220 zAn):=λp id z=>by
  unfold comeS at b;rw [p] at b;dsimp only at b;rw [z] at b;cases b;exact⟨rfl,rfl⟩
 have a8:∀d,reqOf f=some d->d.kind=4->s'=(backS s d.id).1/\o=some (repB d.id (backS s d.id).2 zAn):=λd p z=>by
  unfold comeS at b;rw [p] at b;dsimp only at b;rw [if_pos z] at b;cases b;exact⟨rfl,rfl⟩
 have b0:∀d,reqOf f=some d->d.kind≠4->(¬QyIs d.q g.n->s'=s/\o=some (repB d.id 180 zAn)) /\
   (QyIs d.q g.n->(heldAt s.held d.id≠none->s'=s/\o=some (repB d.id 150 zAn))/\(heldAt s.held d.id=none->(waitAt s.wait d.id≠none->s'=s/\o=some (repB d.id 150 zAn)) /\
    (waitAt s.wait d.id=none->(c.queue<=s.wait.length->s'=s/\o=some (repB d.id 252 zAn))/\(¬c.queue<=s.wait.length->s'=⟨s.wait++[d],s.held⟩/\o=none)))):=λd p z=>by
  unfold comeS at b;rw [p] at b;dsimp only at b;rw [if_neg z] at b
  have ne:∀n:Int,askS g c s d (QyIs d.q g.n)=(s,n)->n≠0->s'=s/\o=some (repB d.id n zAn):=λn e hn=>by
   rw [e] at b;dsimp only at b;rw [if_neg hn] at b;cases b;exact⟨rfl,rfl⟩
  refine⟨λh=>ne _ ?_ (by decide),λh=>⟨λG=>ne _ ?_ (by decide),λG=>⟨λI=>ne _ ?_ (by decide),λI=>⟨λh5=>ne _ ?_ (by decide),λh5=>?_⟩⟩⟩⟩
  ·unfold askS;rw [if_neg h]
  ·unfold askS;rw [if_pos h,if_pos (Xt.2 G)]
  ·unfold askS;rw [if_pos h,G,if_neg (by simp),if_pos (Xt.2 I)]
  ·unfold askS;rw [if_pos h,G,if_neg (by simp),I,if_neg (by simp),if_pos h5]
  ·have e:askS g c s d (QyIs d.q g.n)=(⟨s.wait++[d],s.held⟩,0):=by unfold askS;rw [if_pos h,G,if_neg (by simp),I,if_neg (by simp),if_neg h5]
   rw [e] at b;dsimp only at b;rw [if_pos rfl] at b;cases b;exact⟨rfl,rfl⟩
 rw [b];dsimp only;have J:=S;obtain⟨K,wt,hd,Y,lh,lr,S⟩:=S;have Z:=S.fz.here;have c4:=S.small;have c3:=Z.off;have c5:=S.gi.ok.n2;have c6:=Z.lwn;have c7:=Z.fw.len;refine eN ?_;refine rcall (zGa hf) ?_;rintro _ w1 ⟨⟨d,x,hr,rfl,O⟩|⟨a0,rfl⟩,e1⟩
 case inr =>
  refine ral λbx w2 n2 U=>rE U zRq λw3 t V=>?_;have s3:Stp w1 w3:=n2.st V;clear U V;refine iT (by first|omega|decide|(dsimp only <;> omega)) (rcall (zN0 (by omega)) ?_);rintro _ L ⟨⟨id,N,rfl⟩|⟨N,rfl⟩,e4⟩
  ·have l:=a7 a0 id N;obtain⟨rfl,rfl⟩:=l;refine rcall zAA ?_;rintro _ w5 ⟨rfl,e5⟩;exact⟨rfl,RefP.new (w':=w5) J H⟩
  ·have l:=a6 a0 N;obtain⟨rfl,rfl⟩:=l;exact⟨rfl,RefP.new (w':=L) J H⟩
 case inl =>
  have a1:=zC5 hr;have a2:=a1.small;have j:x.id=d.id:=O.1;refine ral λbx w2 n2 U=>?_;have c8:=n2.lo (u:=w);refine rE U x λw3 t V=>?_;have t:Bk w3 bx (enc x) 55:=t;have s3:Stp w1 w3:=n2.st V;have O3:=RqO.frcR (RqO.upR (w':=w2) O) V U (by decide);clear U V;refine iF (· rfl) (rX t rfl ?_);have hk:=O.2.1;refine ite (λI=>?_) (λI=>?_)
  ·obtain⟨rfl,rfl⟩:=a8 d hr (by rw [<-hk];exact I);refine dD (λi=>i<w.heap.size) (upF 9 0) λL e4=>tX t rfl (by omega) (tX t rfl (by omega) ?_);rw [j];refine rcall (zLN (id:=d.id) (w0:=w) (w:=L) J H) ?_;rintro _ w5 ⟨rfl,S5,f5⟩;refine⟨f5.mono λi _ h=>X i h,?_⟩;refine rcall zAA ?_;rintro _ W ⟨rfl,e6⟩;refine⟨Fr.fr e6.e,?_⟩;have hz:=f5.size;have d0:=lz w L;refine⟨rfl,?_,((fE w L).trans f5).trans (fE w5 W)⟩;have a3:=J.reg.1
   exact RefP.wide (RefP.up (w':=W) S5) (λi hi=>hi.imp id λh=>by have:=e6.e.size;omega) λi hi=>by
    rcases hi with hi|hi
    ·have:=a3 i hi;have:=e6.e.size;omega
    ·omega
  obtain⟨b1,b2⟩:=b0 d hr (by rw [<-hk];exact I);have b3:=Z.plc d.id;have b4:=Z.found d.id
  have P:(∀r∈Y,r.id≠x.id)↔waitAt s.wait d.id=none:=by
   rw [<-b3,j];unfold plc;rw [Ve];simp
  refine dQ 11 λL e4=>tG t x.q nf (tX S.cell rfl nf (rarE (y:=(g.n:Int)) (by omega) (by omega) ?_));have V4:QyV L x.q d.q:=((RqO.up (w':=L) O3).v).q;refine rcall (zFw (n:=(g.n:Int)) V4 (by omega) (λs hs=>by have:=a2.2 s hs;omega)) ?_;rintro _ w5 ⟨a4,e5⟩;refine⟨e5.e,?_⟩;rcases a4 with ⟨hq,rfl⟩|⟨hq,rfl⟩
  case inr =>
   have l:=b1 hq;obtain⟨rfl,rfl⟩:=l;refine iT (by first|omega|decide|(dsimp only <;> omega)) (rX t rfl (rcall zAA ?_));rintro _ W ⟨rfl,e6⟩;rw [j];exact⟨rfl,RefP.new (w':=W) J H⟩
  refine iF (· rfl) ?_;have l:=b2 hq;obtain⟨b5,b6⟩:=l;refine dQ 12 λW e6=>tX S.cell rfl nf (tX t rfl nf ?_);have D:=zGv (id:=x.id) (S.fz.at (w':=W)).fh (by omega);have l:∃oh,oh=heldAt s.held d.id:=⟨_,rfl⟩;obtain⟨oh,Q⟩:=l;rw [j,b4,<-Q] at D;refine rcall (f:=70) (by rw [j];exact D) ?_;rintro _ w7 ⟨rfl,e7⟩;refine⟨e7.e,?_⟩
  cases oh with
  |some k =>
   obtain⟨rfl,rfl⟩:=b5 (by rw [<-Q];simp);refine rX t rfl (rcall zAA ?_);rintro _ w8 ⟨rfl,e8⟩;rw [j];exact⟨rfl,RefP.new (w':=w8) J H⟩
  |none =>
   have l:=b6 Q.symm;obtain⟨b7,a5⟩:=l;refine dQ 16 λw8 e8=>tX S.cell rfl nf (tX S.cell rfl nf ?_);refine tG t x nf (rcall (zNl (x:=x) (m:=(c.queue:Int)) (S.fz.at (w':=w8)).fw (by omega)) ?_);rintro _ w9 ⟨⟨⟨r,b8,b9⟩,rfl⟩|⟨p,z,rfl⟩|⟨p,z,v9,rfl,O9⟩,e9⟩
   ·have l:=b7 (λh=>P.2 h r b8 b9);obtain⟨rfl,rfl⟩:=l;refine⟨Fr.fr e9.e,?_⟩;refine iT (by first|omega|decide|(dsimp only <;> omega)) (rX t rfl (rcall zAA ?_));rintro _ A ⟨rfl,c0⟩;rw [j];exact⟨rfl,RefP.new (w':=A) J H⟩
   ·have l:=(a5 (P.1 p)).1 (by omega);obtain⟨rfl,rfl⟩:=l;refine⟨Fr.fr e9.e,?_⟩;refine iT (by first|omega|decide|(dsimp only <;> omega)) (rX t rfl (rcall zAA ?_));rintro _ A ⟨rfl,c0⟩;rw [j];exact⟨rfl,RefP.new (w':=A) J H⟩
   ·have l:=(a5 (P.1 p)).2 (by omega);obtain⟨rfl,rfl⟩:=l;refine⟨Fr.fr e9.e,?_⟩;refine iF (· rfl) ?_;have l:=O9.shape;obtain⟨a9,c9,rfl⟩:=l;refine rS S.cell [.slice a9 (Y++[x]).length c9] (sv1 _ _ _) λA T c1=>?_;have T:Bk A bs (refL c K ⟨a9,(Y++[x]).length,c9⟩ hd) 98:=T;have hW:=S.waits (w1:=w9) (s':=⟨s.wait++[d],s.held⟩) H T c1 ?_ ?_;exact⟨rfl,hW.1,hW.2 w inferInstance⟩
    ·refine⟨S.so.len,by simp;omega,λy hy=>?_,S.so.held⟩;have l:=Qf.1 hy;rcases l with hy|hy
     ·exact S.so.wait y hy
     ·rw [Qc.1 hy];exact⟨hq,a1.2.1⟩
    ·have c2:=lz w w8;refine((S.fz1 (w':=w9)).and ((S.fzO O9 c2).and ((RqO.up (w':=w9) O3).fz (M:=mutR bs K.br) (R:=gR R w w9) λi p z=>⟨.inr ⟨p,z⟩,λh=>by have:=X i (S.mut h);omega⟩))).imp λu ⟨C,Sw,Vx⟩=>⟨C.rows,C.pos,C.words,Sw,C.fh,by simp [C.lwn],λi h h'=>?_,C.lhn,C.lrn,C.helds⟩;have hl:=C.lwn;dsimp only at h';rw [Qb] at h h';simp only [VC] at h h';simp only [VR];by_cases G:i<Y.length
     ·rw [dif_pos G,dif_pos (by omega)];exact C.waits i G (by omega)
     ·rw [dif_neg G,dif_neg (by omega)];have e1:i - Y.length=0:=by omega
      have e2:i - s.wait.length=0:=by omega
      simp only [e1,e2,Vb];exact Vx
end
section
variable {w u1 u2 uH w9:World} {g:GrD} {c:CfD} {y:RRow} {wl:List ByteArray} {ps:List RPo} {pa:Option Addr} {pc gh gr bs BH:Nat}
theorem zMA(q:GrIs g)(r:CfOk c)(d:RowO w.heap.size u1 y g (revL g))(o:PosM u2 g wl ps)(s:ps.length<=2000)(I:Own w.heap.size 170 u2 (.slice pa ps.length pc) ps)
  (t:∀i (h:i<ps.length) (b:i<wl.length),Own w.heap.size 3 u2 ps[i].pl.v (plOf g wl[i]))(p:Le u1 w9)(G:Le u2 w9)
  (J:Own BH 130 uH (.slice (some ⟨gh,0,none⟩) c.slots c.slots) (List.replicate c.slots zeroH))(K:Le uH w9)(M:w.heap.size<=BH)(x:∀i,BH<=i->i<uH.heap.size->i≠bs/\i≠gr)
  (N:Own w.heap.size 114 w9 (.slice (some ⟨gr,0,none⟩) c.slots c.slots) (List.replicate c.slots zRun))
  (S:Bk w9 bs (refL c ⟨gr,y,revL g,⟨pa,ps.length,pc⟩,wl,ps⟩ ⟨none,0,0⟩ ⟨some ⟨gh,0,none⟩,c.slots,c.slots⟩) 98)
  (U:u1.heap.size<=bs/\u1.heap.size<=gr)(V:u2.heap.size<=bs/\u2.heap.size<=gr)(P:bs≠gr)(Q:gr<w9.heap.size)(H:w.heap.size<=bs/\w.heap.size<=gr):
  RefP (λi=>w.heap.size<=i/\i<w9.heap.size) w.heap.size w9 bs g c (newS c):=by
 have z:=S.lt
 have row:∀{α:Type} [Enc α] {e:TypeId} {C:Nat} {v:Value} {l:List α} {u:World},Own C e u v l->Le u w9->w.heap.size<=C->(∀i,C<=i->i<u.heap.size->i≠bs/\i≠gr)->Fz (mutR bs gr) (λi=>w.heap.size<=i/\i<w9.heap.size) w9 λu=>SlF u v l:=λ{α _ e C v l u} O L W R =>
  O.fzB (haveI:=L;O.sl.up) λi hi T=>⟨⟨by omega,by have:=L.e.size;omega⟩,λh=>by have:=R i hi T;rcases h with h|h <;> omega⟩
 have n1:∀i,w.heap.size<=i->i<u1.heap.size->i≠bs/\i≠gr:=λi _ hi=>by omega
 have n2:∀i,w.heap.size<=i->i<u2.heap.size->i≠bs/\i≠gr:=λi _ hi=>by omega
 have f:=row d.off p (Qe _) n1;have A:=row d.to p (Qe _) n1;have j:=row d.rof p (Qe _) n1;have m:=row d.rev p (Qe _) n1;have B:=row I G (Qe _) n2;have D:∀i (h:i<ps.length) (b:i<wl.length),Fz (mutR bs gr) (λi=>w.heap.size<=i/\i<w9.heap.size) w9 λu=>SlF u ps[i].pl.v (plOf g wl[i]):=λi h b=>row (t i h b) G (Qe _) n2;have F:=row J K M x;refine⟨⟨gr,y,revL g,⟨pa,ps.length,pc⟩,wl,ps⟩,⟨none,0,0⟩,⟨some ⟨gh,0,none⟩,c.slots,c.slots⟩,[],List.replicate c.slots zeroH,List.replicate c.slots zRun,λi hi=>hi,⟨H.1,z⟩,⟨H.2,Q⟩,P,S,N,λu' f'=>?_,q,r,s,(new_ok g c).w⟩;refine⟨⟨d.rev',f u' f',A u' f',j u' f',m u' f'⟩,⟨o.ris,o.all,o.len,λi h b=>⟨(o.at' i h b).1,D i h b u' f'⟩⟩,B u' f',SlF.nil _,F u' f',rfl,λi h=>absurd h (Nat.not_lt_zero _),by simp [newS],by simp [newS],λk h b=>?_⟩
 have e:(newS c).held.getD k none=none:=by
  show (List.replicate c.slots none).getD k none=none;rw [Qk,Vk];split <;> rfl
 rw [e];show ((List.replicate c.slots zeroH)[k]).used=false/\(List.replicate c.slots zRun)[k]=zRun;simp [zeroH]
end
theorem zHM{x:RCfg}{f:List UInt8}{w:World}(hf:f.length<=1000000):
  Sp PP 11 #[agg x,txt f] w λv w'=>((¬cfgOk x/\v=.tuple #[.pointer none,.int .i64 1])\/(cfgOk x/\imgOf f=none/\v=.tuple #[.pointer none,.int .i64 30]) \/
   ∃g bs,cfgOk x/\imgOf f=some g/\v=.tuple #[.pointer (some ⟨bs,0,none⟩),.int .i64 0]/\RefP (λi=>w.heap.size<=i/\i<w'.heap.size) w.heap.size w' bs g (cfOf x) (newS (cfOf x)))/\Stp w w':=by
 refine eN ?_;refine rbx λbc w1 n1 A=>?_;have A:Bk w1 bc (enc x) 23:=A;refine rldG (B:=A) rfl rfl ?_;refine rcall zJr ?_;rintro _ w2 ⟨⟨rfl,d⟩|⟨rfl,d⟩,e2⟩
 case' inr=>exact⟨.inl ⟨d,rfl⟩,stp⟩
 have r:=zMc d;have U:=id d;obtain⟨a8,a9,b0,b1,b2⟩:=U
 have J:enc x=[.int .i64 ((cfOf x).workers:Nat),.int .i64 ((cfOf x).slots:Nat),.int .i64 ((cfOf x).queue:Nat),.int .i64 ((cfOf x).pool:Nat),.int .i64 ((cfOf x).budget:Nat)]:=by
  show [Value.int .i64 x.workers,.int .i64 x.slots,.int .i64 x.queue,.int .i64 x.pool,.int .i64 x.budget]=_;simp only [cfOf];rw [Jh (by omega),Jh (by omega),Jh (by omega),Jh (by omega),Jh (by omega)]
 have U:∃c,c=cfOf x:=⟨_,rfl⟩;obtain⟨c,hc⟩:=U;rw [<-hc] at J r ⊢;have b3:=r.slots;rw [J] at A;refine rcall (zKw hf) ?_;rintro _ w3 ⟨⟨g,R,vs,m,rfl,V3⟩|⟨m,rfl⟩,e3⟩
 case' inr =>
  refine ral λbg w5 V K=>rE K zGr λI L M=>?_;have s6:Stp w3 I:=V.st M;clear K M;refine iT (by first|omega|decide|(dsimp only <;> omega)) ?_;exact⟨.inr (.inl ⟨d,m,rfl⟩),stp⟩
 have s:=zJ3 m;refine ral λbg w5 V K=>rE K R λI L M=>?_;have L:Bk I bg (enc R) 77:=L;have s6:Stp w3 I:=V.st M;clear K M;refine iF (· rfl) (rG L R (rcall (zLv (V3.up (w':=I)) s) ?_));rintro _ W ⟨⟨y,rfl,z⟩,e7⟩;refine ral λX w8 n8 Y8=>rE Y8 y λS Y f9=>?_;have Y:Bk S X (enc y) 82:=Y;have s9:Stp W S:=n8.st f9;clear Y8 f9;refine rG L R (rcall (zLx (V3.up (w':=S)) s) ?_);rintro _ o ⟨⟨pa,pc,ps,wl,rfl,PM,N,T,t⟩,b4⟩;have z6:=lz w I;have z9:=lz w S;have a7:=lz W o;have zz:w.heap.size<=W.heap.size:=Le.size;have z:=RowO.mk z.rev' (z.off.mono z6) (z.to.mono z6) (z.rof.mono z6) (z.rev.mono z6);have T:=T.mono z9;have t:=λi h h'=>(t i h h').mono z9;refine dT (λ_=>False) (oL [0,1,2,3,4,6,7] (.two 5 (oL [8,9,10,11,12] .nil) 8 (oL [5,9,10,11,12] .nil))) λu b5=>tldG (ds:=[.int .i64 (c.workers:Nat),.int .i64 (c.slots:Nat),.int .i64 (c.queue:Nat),.int .i64 (c.pool:Nat),.int .i64 (c.budget:Nat)]) (B:=A) rfl rfl nf (tG Y y nf (tX A rfl nf (tX A rfl nf ?_)));refine⟨?_,?_⟩
 ·refine rmk zeroH rfl rfl (by omega) λZ l OH C a0=>⟨Fr.fr C.e,?_⟩;refine rmk zRun rfl rfl (by omega) λgr j O D a1=>⟨Fr.fr D.e,?_⟩;refine tbuild (cs:=refL c ⟨gr,y,revL g,⟨pa,ps.length,pc⟩,wl,ps⟩ ⟨none,0,0⟩ ⟨some ⟨Z,0,none⟩,c.slots,c.slots⟩) rfl (rbx λbs p q G=>⟨Fr.fr q.e,?_⟩);have a2:=q.b;have a3:=lz o j
  have P:gr<j.heap.size:=by
   obtain⟨gq,Q,_,h3⟩:=O.lt (by intro h;have:=congrArg List.length h;simp at this;omega);cases Q;exact h3
  have a4:=lz o u;have a5:=lz u l;have H:=lz l j;have a6:=lz j p;exact⟨.inr (.inr ⟨g,bs,d,m,rfl,zMA s r z PM N T t inferInstance inferInstance OH inferInstance (by omega) (λi Q h2=>by omega) ((O.up (w':=p)).mono (by omega)) G (by omega) (by omega) (by omega) (by omega) (by omega)⟩),stp⟩
 ·refine rmk zRun rfl rfl (by omega) λgr l O C a1=>⟨Fr.fr C.e,?_⟩;refine rmk zeroH rfl rfl (by omega) λZ j OH D a0=>⟨Fr.fr D.e,?_⟩;refine tbuild (cs:=refL c ⟨gr,y,revL g,⟨pa,ps.length,pc⟩,wl,ps⟩ ⟨none,0,0⟩ ⟨some ⟨Z,0,none⟩,c.slots,c.slots⟩) rfl (rbx λbs p q G=>⟨Fr.fr q.e,?_⟩);have a2:=q.b;have a3:=lz o j
  have P:gr<l.heap.size:=by
   obtain⟨gq,Q,_,h3⟩:=O.lt (by intro h;have:=congrArg List.length h;simp at this;omega);cases Q;exact h3
  have a4:=lz o u;have a5:=lz u l;have H:=lz l j;have a6:=lz j p;exact⟨.inr (.inr ⟨g,bs,d,m,rfl,zMA s r z PM N T t inferInstance inferInstance OH inferInstance (by omega) (λi Q h2=>by omega) ((O.up (w':=p)).mono (by omega)) G (by omega) (by omega) (by omega) (by omega) (by omega)⟩),stp⟩
open Classical in
/-- the code of no server -/
noncomputable def newE (x:RCfg):Int:=if cfgOk x then 30 else 1
theorem zNu{x:RCfg}{f:List UInt8}{w:World}(c:f.length<=1000000)(d:¬(cfgOk x/\∃g,imgOf f=some g)):
  Sp PP 11 #[agg x,txt f] w λv w'=>v=.tuple #[.pointer none,.int .i64 (newE x)]/\Stp w w':=
 (zHM c).mono λv w' ⟨h,e⟩=>⟨by
  rcases h with ⟨b,rfl⟩|⟨b,_,rfl⟩|⟨g,bs,j,hi,_⟩
  ·unfold newE;rw [if_neg b]
  ·unfold newE;rw [if_pos b]
  ·exact absurd ⟨j,g,hi⟩ d,e⟩
section
variable {R R' R2:Nat->Prop} {B B2:Nat} {u u' w w':World} {bs bt:Nat} {g:GrD} {c:CfD} {s t:SvD}
theorem RefP.stw(S:RefP R B w bs g c s)(f:Fr R w w')(b:w1.heap.size<=B):Stw w1 w w':=⟨f.mono λi _ hi=>by have:=(S.reg.1 i hi).1;omega⟩
theorem RefP.frB(S:RefP R B w bs g c s)(f:Fr R w w'):Fr (λi=>B<=i) w w':=f.mono λi _ hi=>(S.reg.1 i hi).1
theorem zKf(b:∀i,R' i->gR R u u' i)(f:Fr R u u')(T:RefP R2 B2 u bt g c t)(hd:∀i,R i->¬R2 i):RefP R2 B2 u' bt g c t/\∀i,R' i->¬R2 i:=by
 refine⟨T.away f hd,λi hi d=>?_⟩;have j:=T.reg.1 i d;have h:=b i hi;rcases h with e|e
 ·exact hd i e d
 ·omega
def SvR (B B2:Nat) (u0 u:World) (bs bt:Nat) (g:GrD) (c:CfD):Prop:=∃R R2 s,SrvP R B u bs g c s/\RefP R2 B2 u bt g c s/\(∀i,R i->¬R2 i)/\Fr (λi=>B<=i) u0 u
end
theorem zF7{x:RCfg}{im:List UInt8}{c:Nat}{l:List REv}{w:World}(h:SlF w (.slice a n c) l)(hm:EvsM w l):
  Sp PP 3 #[agg x,txt im,.slice a n c] w λv w'=>v=.bool true/\Stp w w':=by
 have d:=h.len;obtain rfl:=d;refine eN ?_;refine rbx λb w1 n1 B1=>?_;have B1:Bk w1 b (enc x) 23:=B1;refine rldG (B:=B1) rfl rfl ?_;refine rcall (zNa h.up) ?_;rintro _ w0 ⟨rfl|⟨rfl,hs,d1⟩,e0⟩
 ·exact⟨rfl,stp⟩
 refine rldG (B:=B1) rfl rfl ?_;by_cases hq:cfgOk x/\∃g,imgOf im=some g
 case neg =>
  have q:Sp PP 10 #[agg x,txt im] w0 λv w'=>v=.tuple #[.pointer none,.int .i64 (newE x)]/\Stp w0 w':=
   (zBH (by omega)).mono λv w' ⟨h,e⟩=>⟨by
    rcases h with ⟨j,rfl⟩|⟨j,_,rfl⟩|⟨g,bs,hc,hi,_⟩
    ·unfold newE;rw [if_neg j]
    ·unfold newE;rw [if_pos j]
    ·exact absurd ⟨hc,g,hi⟩ hq,e⟩
  refine rcall q ?_;rintro _ w2 ⟨rfl,e2⟩;refine rldG (B:=B1) rfl rfl ?_;refine rcall (zNu (by omega) hq) ?_;rintro _ N ⟨rfl,e3⟩;refine iF (· rfl) (rpnil (rpnil (rbne (λj=>absurd rfl j) (λ_=>?_))));refine rpnil (rcall zEP ?_);rintro _ w5 ⟨rfl,e5⟩;exact⟨rfl,stp⟩
 obtain⟨hc,g,hi⟩:=hq;have z0:=lz w1 w0;refine rcall (zOj (by omega) hc hi) ?_;rintro _ w2 ⟨⟨bs,rfl,S0⟩,e2⟩;have z2:=e2.e.size;refine rldG (B:=B1) rfl rfl ?_;refine rcall (zHM (by omega)) ?_;rintro _ N ⟨⟨q,_⟩|⟨_,q,_⟩|⟨g',bt,_,a0,rfl,T0⟩,e3⟩
 ·exact absurd hc q
 ·rw [hi] at q;cases q
 obtain rfl:g=g':=by rw [hi] at a0;exact QL a0
 have z3:=e3.e.size;refine iF (· rfl) (rpnil (rpnil (rbne (λj=>absurd rfl j) (λ_=>?_))));refine rpnil (rpnil (cnt TBok 12 [6] 11 l.length (λk u=>SvR w0.heap.size w2.heap.size N u bs bt g (cfOf x)) rfl rfl ⟨_,_,_,S0.up (w':=N),T0,λi j D=>by omega,Fr.refl _ _⟩ ?_));rintro k G u hk ⟨R,R2,s,S,T,hd,fu⟩;have su:Stw w0 N u:=⟨fu⟩;have zu:=fu.size
 refine ite (λhlt=>?_) (λd2=>rcall zEP (by
  rintro _ v1 ⟨rfl,g1⟩;exact⟨rfl,stp⟩))
 have P:k<l.length:=by omega
 have a1:l[k]? = some l[k]:=by simp
 have d:∃y,y=l[k]:=⟨_,rfl⟩;obtain⟨y,hy⟩:=d;rw [<-hy] at a1;have a7:y∈l:=by rw [hy];exact Qa P
 have d:=hm y a7;obtain⟨ps,Q⟩:=d;have b0:=(hs.2 y a7).1;have d0:=hs.1;obtain⟨yt,yf,pa,pn,pc⟩:=y;have Q:SlF w (.slice pa pn pc) ps:=Q;have b0:yf.length<=300:=b0;refine rix (i:=k) (h.up (w':=u)) a1 λb1 o1 A1=>rloadA A1 rfl (ral λb2 u2 n2 X2=>rE X2 (⟨yt,yf,pa,pn,pc⟩:REv) λI B3 f3=>?_);have B3:Bk I b2 (enc (⟨yt,yf,pa,pn,pc⟩:REv)) 36:=B3;have t3:Stp u I:=⟨Fr.st (lE u u2) f3 λi hi=>by subst hi;exact n2.lo⟩;have d3:=t3.e.size;have d4:u.heap.size<=b2:=n2.lo;clear X2 f3;have J:=S.up (w':=I);have T3:=T.up (w':=I);refine rX B3 rfl ?_
 cases yt with
 |true =>
  refine rX B3 rfl ?_
  have b3:∀v,Fr R I v->SlF v (.slice pa pn pc) ps:=λv fv=>by
   have t:Stw w0 I v:=J.stw fv (Qe _);exact SlF.up (w:=w) Q
  refine rcall (zBv J (by omega) b3) ?_;rintro v4 U ⟨R',O4,b4,A,b5,H⟩;have t4:Stw w0 I U:=J.stw H (Qe _);have b6:=H.size;have d:=zKf b5 H T3 hd;obtain⟨m,V⟩:=d;refine rcall (zLM m J.ok.2.2 (by omega)) ?_;rintro v5 u5 ⟨d5,K,W,T5,O,L⟩;have t5:Stw w0 U u5:=m.stw L (by omega);have z5:=L.size
  have X:=O4.fr L λb d6 _ D=>by
   have:=T3.reg.1 b D;omega
  have d:=zIW O L A λi j D=>V i D j;obtain⟨S5,b7⟩:=d;have d7:=zPi J;have d:=X.shape;obtain⟨a4,c4,rfl⟩:=d;have d:=K.shape;obtain⟨a5,c5,rfl⟩:=d;refine rcall ((zFu X.sl K.sl (by rw [Qr];omega)).tt rfl) ?_;rintro _ r ⟨rfl,e6⟩;have z:=S5.up (w':=r);have M:=T5.up (w':=r);have Y:=b7;have C:Fr (λi=>w0.heap.size<=i) N r:=(((fu.trans (Fr.fr t3.e)).trans (J.frB H)).trans ((m.frB L).mono λi _ hi=>Qw z2 hi)).trans (Fr.fr e6.e);have b8:Stw w0 N r:=⟨C⟩;clear O4 X K A m b4 W b5 O b3;have o:=z.ok.2.1;have Z:=z.ok.2.2;have hw:=o.workers.2;have b9:=o.slots.2;have c0:=o.queue.2;have c1:=zJ2 Z;refine rcall (zCc (z.up (w':=r))) ?_;rintro _ v2 ⟨O2,g2⟩;refine rcall (zDD (M.up (w':=v2))) ?_;rintro _ v3 ⟨O3,g3⟩;have d:=O2.shape;obtain⟨a2,c2,rfl⟩:=d;have d:=O3.shape;obtain⟨a3,c3,rfl⟩:=d;refine rcall ((zA0 (O2.sl.up (w':=v3)) O3.sl (by simp;omega)).tt rfl) ?_;rintro _ v4 ⟨rfl,g4⟩;refine rcall (zDX (z.up (w':=v4))) ?_;rintro _ v5 ⟨K,g5⟩;refine rcall (zDP (M.up (w':=v5))) ?_;rintro _ v6 ⟨O6,g6⟩;have d:=K.shape;obtain⟨a5,c5,rfl⟩:=d;have d:=O6.shape;obtain⟨a6,c6,rfl⟩:=d;refine rcall ((zA0 (K.sl.up (w':=v6)) O6.sl (by omega)).tt rfl) ?_;rintro _ v7 ⟨rfl,g7⟩;refine rcall (zDv (z.up (w':=v7))) ?_;rintro _ v8 ⟨O8,g8⟩;refine rcall (zDQ (M.up (w':=v8))) ?_;rintro _ v9 ⟨O9,g9⟩;have d:=O8.shape;obtain⟨a8,c8,rfl⟩:=d;have d:=O9.shape;obtain⟨a9,c9,rfl⟩:=d;refine rcall ((zA0 (O8.sl.up (w':=v9)) O9.sl (by omega)).tt rfl) ?_;rintro _ p ⟨rfl,c7⟩;exact rA ⟨rfl,P,_,_,_,z.up (w':=p),M.up (w':=p),λi j D=>Y i D j,C.trans (fE r p)⟩
 |false =>
  refine rX B3 rfl (rcall (zCb (f:=yf) J (by omega) (by omega)) ?_);rintro _ U ⟨rfl,A,H⟩;have t4:Stw w0 I U:=J.stw H (Qe _);have b6:=H.size;have d:=zKf (R':=gR R I U) (λi h=>h) H T3 hd;obtain⟨m,V⟩:=d
  have B4:=B3.fr H λh4=>by
   have:=(SrvX.reg S).1 _ h4;omega
  refine rX B4 rfl (rcall (zLL (f:=yf) m (by omega) (by omega)) ?_);rintro _ r ⟨rfl,M,L⟩;have t5:Stw w0 U r:=m.stw L (by omega);have d:=zIW (R':=gR R2 U r) (λi h=>h) L A λi j D=>V i D j;obtain⟨z,Y⟩:=d;refine rsne (λj=>absurd rfl j) (λ_=>?_);refine rbne (λj=>absurd rfl j) (λ_=>?_);have C:Fr (λi=>w0.heap.size<=i) N r:=((fu.trans (Fr.fr t3.e)).trans (J.frB H)).trans ((m.frB L).mono λi _ hi=>Qw z2 hi);have b8:Stw w0 N r:=⟨C⟩;clear A m B4;have o:=z.ok.2.1;have Z:=z.ok.2.2;have hw:=o.workers.2;have b9:=o.slots.2;have c0:=o.queue.2;have c1:=zJ2 Z;refine rcall (zCc (z.up (w':=r))) ?_;rintro _ v2 ⟨O2,g2⟩;refine rcall (zDD (M.up (w':=v2))) ?_;rintro _ v3 ⟨O3,g3⟩;have d:=O2.shape;obtain⟨a2,c2,rfl⟩:=d;have d:=O3.shape;obtain⟨a3,c3,rfl⟩:=d;refine rcall ((zA0 (O2.sl.up (w':=v3)) O3.sl (by simp;omega)).tt rfl) ?_;rintro _ v4 ⟨rfl,g4⟩;refine rcall (zDX (z.up (w':=v4))) ?_;rintro _ v5 ⟨K,g5⟩;refine rcall (zDP (M.up (w':=v5))) ?_;rintro _ v6 ⟨O6,g6⟩;have d:=K.shape;obtain⟨a5,c5,rfl⟩:=d;have d:=O6.shape;obtain⟨a6,c6,rfl⟩:=d;refine rcall ((zA0 (K.sl.up (w':=v6)) O6.sl (by omega)).tt rfl) ?_;rintro _ v7 ⟨rfl,g7⟩;refine rcall (zDv (z.up (w':=v7))) ?_;rintro _ v8 ⟨O8,g8⟩;refine rcall (zDQ (M.up (w':=v8))) ?_;rintro _ v9 ⟨O9,g9⟩;have d:=O8.shape;obtain⟨a8,c8,rfl⟩:=d;have d:=O9.shape;obtain⟨a9,c9,rfl⟩:=d;refine rcall ((zA0 (O8.sl.up (w':=v9)) O9.sl (by omega)).tt rfl) ?_;rintro _ p ⟨rfl,c7⟩;exact rA ⟨rfl,P,_,_,_,z.up (w':=p),M.up (w':=p),λi j D=>Y i D j,C.trans (fE r p)⟩
end Go.W
