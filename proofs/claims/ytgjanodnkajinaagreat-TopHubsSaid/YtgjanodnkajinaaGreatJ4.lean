/-
  Proved here: a part of the walks and plain laws of this claim (merged by a program of mine).
  Conditions: those that each fact names.
-/
import Derived.Shelf.Lays
import Derived.Shelf.Strings.BuilderX
import Derived.KernelRfl
import Derived.Test.YtgjanodnkajinaaGreatProg
import Derived.Shelf.SlLaysNS
import Derived.Test.YtgjanodnkajinaaGreatJ3
set_option maxHeartbeats 4000000
set_option linter.unusedVariables false
set_option linter.unusedSimpArgs false
namespace Go.W
open Go Go.Proofs
open Enc (enc)
set_option maxRecDepth 10000
variable {B N i j k m n n2 n3:Nat} {P:Program} {a a2 a3:Option Addr} {g:GrD} {ps:List Int} {q:QyD} {s:List UInt8} {u u' w w':World}
theorem zG6{c:Nat}{l:List StD}(h:SlF w (.slice a n c) l)(hn:l.length<=1000000):Sp PP F.pa #[.slice a n c] w λv w'=>Own w.heap.size E.qh w' v l/\Stp w w'/\∀b,Value.blk v=some b->b<w'.heap.size:=by
 have q_:=h.len
 obtain rfl:=q_
 refine en TBok rfl ?_
 refine rsnil (λha=>?_) (λha=>?_)
 ·have hl:l=[]:=by
   obtain⟨a',c',hv,_,h'⟩:=h
   cases hv
   rcases h' with h'|⟨b,o,hb,_⟩
   ·exact h'
   ·rw [ha] at hb;cases hb
  subst hl
  exact⟨Own.nil _ _ _,stp,λb hb=>nomatch hb⟩
 ·refine rbs (α:=StD) [] rfl (vs:=[]) rfl rfl (by decide) λb1 w1 n1 _=>?_
  have s1:Stp w w1:=⟨n1.ext⟩
  have hlt1:b1<w1.heap.size:=blk_lt n1.blk
  refine rappE ⟨rfl,rfl⟩ (Own.nil' w.heap.size E.qh _ _) (h.up (w':=w1)) n1.ext.size (by simp;omega) λv3 w3 O3 f3 hb3=>?_
  rw [List.nil_append] at O3
  have s3:Stw w w1 w3:=zAz f3
  have hres:∀b,Value.blk v3=some b->b<w3.heap.size:=λb hb=>by
   have:=f3.size
   rcases hb3 with h3|⟨h3,h4⟩
   ·rw [h3] at hb;cases hb;show b1<_;omega
   ·rw [h3] at hb;cases hb;exact h4
  exact⟨O3,stp,hres⟩
theorem zNA{x:Int}{W:Nat}(h:x∈upTo W):∃p:Nat,x=(p:Int)/\p<W:=by
 unfold upTo at h
 have q_:=List.mem_map.1 h
 obtain⟨p,h1,h2⟩:=q_
 exact⟨p,h2.symm,List.mem_range.1 h1⟩
theorem zGy{X:List StD}{W:Nat}{ol:List Int}(hW:1<=W)(ho:ol.Perm (upTo W)):(ol.flatMap λp=>boxL W X p.toNat).Perm X:=by
 have h1:(ol.flatMap λp=>boxL W X p.toNat).Perm ((upTo W).flatMap λp=>boxL W X p.toNat):=ho.flatMap_right _
 refine h1.trans ?_
 have h2:((upTo W).flatMap λp=>boxL W X p.toNat)=(List.range W).flatMap λp:Nat=>X.filter λx=>decide (homW W x.key.v=(p:Int)):=by
  unfold upTo boxL
  rw [List.flatMap_map];rfl
 rw [h2]
 refine(zLD (λx:StD=>homW W x.key.v) X W).trans ?_
 have h3:(X.filter λx=>decide (0<=homW W x.key.v/\homW W x.key.v<(W:Int)))=X:=List.filter_eq_self.2 λx _=>by
  have q_:=zKQ hW x.key.v
  obtain⟨p,hp,hl⟩:=q_
  simp only [decide_eq_true_eq];omega
 rw [h3]
def sendsL (g:GrD) (q:QyD) (P:List StD):List StD:=P.flatMap (nextL g q)
theorem zH3(hg:GrIs g)(q:QyD)(x:StD):(nextL g q x).length<=2000:=by
 unfold nextL
 split
 ·simp
 ·rw [List.length_map];exact zKW hg _ _
theorem zG1(hg:GrIs g)(q:QyD)(P:List StD):(sendsL g q P).length<=2000*P.length:=by
 induction P with
 |nil=>simp [sendsL]
 |cons x r ih =>
  have:=zH3 hg q x
  unfold sendsL at *
  rw [List.flatMap_cons,List.length_append,List.length_cons];omega
theorem zLV(S M:List StD):(freshL S M).length<=M.length:=Nat.le_trans (List.length_filter_le _ _) (zHE M)
theorem zMU{S M:List StD}(h:∀x∈M,OkX g x):∀x∈freshL S M,OkX g x:=λx hx=>h x (zEW.1 hx).1.1
theorem zOv{S M P N:List StD}(hS:SRis S)(hP:P.Perm (freshL S M))(hN:N.Perm (S++P))(hs:N.Pairwise λa b=>¬lessK b.key a.key):N=(stepL g q S M).1/\freshL N (sendsL g q P)=(stepL g q S M).2:=by
 have hdis:∀x∈freshL S M,∀y∈S,y.key≠x.key:=λx hx=>(zEW.1 hx).2
 have hR:SRis (insAll (freshL S M) S):=zGL hS (zGj (zGH S M)) hdis
 have hp2:N.Perm (insAll (freshL S M) S):=hN.trans ((hP.append_left S).trans (zB3 _ _).symm)
 have hap:N.Pairwise λa b=>a.key≠b.key:=(hp2.pairwise_iff λh=>Ne.symm h).2 (zGj hR)
 have hN1:SRis N:=(hs.and hap).imp λ⟨g1,g2⟩=>zCb (λhl=>g1 hl) (Ne.symm g2)
 have e1:N=insAll (freshL S M) S:=hN1.uniq hR λx=>hp2.mem_iff
 refine⟨e1,?_⟩
 unfold stepL
 simp only
 rw [<-e1]
 unfold freshL
 rw [zLk (show (sendsL g q P).Perm ((freshL S M).flatMap (nextL g q)) from hP.flatMap_right _)]
 rfl
theorem wk_two{L:List StD}{f:StD->List StD}:∀(ys:List (List Value)) (x:List Value) (u:World),(∃h:ys.length<L.length,∃v,x=[agg L[ys.length],v]/\Own 0 E.qb u v (f L[ys.length]))->x.length=2:=by
 rintro ys x u ⟨_,v,rfl,_⟩;rfl
structure StpI (g:GrD) (q:QyD) (S P:List StD) (B bn bs:Nat) (u:World) (na nc:_) (sa sc:_):Prop where
 now:Bk u bn [.slice na (S++P).length nc] E.yn
 sent:Bk u bs [.slice sa (sendsL g q P).length sc] E.qn
 on:Own B E.qh u (.slice na (S++P).length nc) (S++P)
 os:Own B E.qb u (.slice sa (sendsL g q P).length sc) (sendsL g q P)
theorem StpI.up{S P:List StD}{bn bs:Nat}{na nc sa sc:_}[Le u u'](h:StpI g q S P B bn bs u na nc sa sc):StpI g q S P B bn bs u' na nc sa sc:=⟨h.now.mv,h.sent.mv,h.on.up,h.os.up⟩
theorem StpI.qt{C:Nat}{S P:List StD}{bn bs:Nat}{na nc sa sc:_}(h:StpI g q S P B bn bs u na nc sa sc)(k:Qt C u u'):StpI g q S P B bn bs u' na nc sa sc:=⟨h.now.qt k,h.sent.qt k,h.on.qt k,h.os.qt k⟩
theorem zEu{r:List EdN}{xq:RQ}{xr:RRow}{S M:List StD}{W:Nat}{c c2 c3:Nat}(hg:GrIs g)(R:RwF w xr g r)(hk:xq.kind=q.kind/\xq.rad=q.rad)
  (h1:SlF w (.slice a n c) S)(h2:SlF w (.slice a2 n2 c2) M)(h3:SlF w (.slice a3 n3 c3) ps)(hW:1<=W/\W<=16)(hS:SRis S)(hSo:∀x∈S,OkX g x)(hMo:∀x∈M,OkX g x)(hSn:S.length<=10000)(hMn:M.length<=400):
  Sp PP F.c3 #[agg xq,agg xr,.slice a n c,.slice a2 n2 c2,.int .i64 (W:Int),.slice a3 n3 c3] w λv w'=>(∃v1 v2,v=.tuple #[v1,v2,.int .i64 0]/\Own w.heap.size E.qh w' v1 (stepL g q S M).1/\Own w.heap.size E.qb w' v2 (stepL g q S M).2)/\Stp w w':=by
 have q_:=h1.len
 obtain rfl:=q_
 have q_:=h2.len
 obtain rfl:=q_
 have q_:=h3.len
 obtain rfl:=q_
 obtain⟨ro,rt,rr,rv⟩:=xr
 obtain⟨roa,ron,roc⟩:=ro
 have hron:ron=g.n+1:=by have:=R.off.len;rw [zAM] at this;exact this
 subst hron
 refine en TBok rfl ?_
 refine rbx λbq w1 n1 Bq=>rbx λbr w2 n2 Br=>rld (B:=Br) rfl ?_
 have hn2:=hg.ok.n2
 refine rarE (y:=(g.n:Int)) (by show ((g.n+1:Nat):Int) - 1=(g.n:Int);omega) (by omega) (ral λbN w3 n3 Z3=>?_)
 have hb1:=n1.b;have hs1:=n1.s;have hb2:=n2.b;have hs2:=n2.s;have hb3:=n3.b;have hs3:=n3.s
 refine rsto (B:=Z3) (vs:=[.int .i64 (g.n:Int)]) rfl rfl rfl (int_o _) λw4 N4 f4 _=>?_
 have N4:Bk w4 bN [.int .i64 (g.n:Int)] E.qa:=N4
 have s4:Stp w w4:=⟨Fr.st (Le.e (a:=w) (b:=w3)) f4 λi hi=>by omega⟩
 have Bq:=(Bq.mv (w:=w3)).fr f4 (by omega)
 have Br:=(Br.mv (w:=w3)).fr f4 (by omega)
 clear Z3 f4
 refine rldG (ds:=enc (⟨⟨roa,g.n+1,roc⟩,rt,rr,rv⟩:RRow)) (B:=Br) rfl rfl (rcall (zAQ hg (R.up (w':=w4))) ?_)
 rintro _ w5 ⟨rfl,e5⟩
 refine rcall (zIC (n:=W) (by omega) (h3.up (w':=w5))) ?_
 rintro _ w6 ⟨⟨ol,ov,rfl,hol,Oo⟩,e6⟩
 refine rcall (zDw (h1.up (w':=w6)) (h2.up (w':=w6)) (by omega) (by omega)) ?_
 rintro fv w7 ⟨Of,e7⟩
 have hfo:=zMU (S:=S) hMo
 have hfl:=zLV S M
 have q_:=Of.shape
 obtain⟨fa,fc,rfl⟩:=q_
 refine rcall (zIr Of.sl (by omega) hW λx hx=>(hfo x hx).1) ?_
 rintro _ w8 ⟨⟨bv,MB,rfl,RB,hMB,hbox⟩,e8⟩
 have qb:=RB.top.shape
 obtain⟨ba,bc,rfl⟩:=qb
 refine iF (· rfl) (iF (· rfl) (rld (B:=N4) rfl (rcall (zHq (m:=(g.n:Int)) (h1.up (w':=w8)) (by omega) hS λx hx=>hSo x hx) ?_)))
 rintro _ w9 ⟨rfl,e9⟩
 refine rcall (zCh (h2.up (w':=w9)) (by omega)) ?_
 rintro _ w10 ⟨⟨rfl,_⟩|⟨rfl,h10⟩,e10⟩
 case' inr=>exact absurd (λx hx=>(hMo x hx).1) h10
 refine rcall (zBJ (g:=F.y0) (first:=[]) (cap:=[.pointer (some ⟨bN,0,none⟩)]) (p:=λx=>x.key.v≥(g.n:Int)) (h2.up (w':=w10)) (by omega) λx u hx e=>zLN ((N4.mv (w:=w10)).fr e nf)) ?_
 rintro _ w11 ⟨⟨rfl,h11⟩|⟨rfl,h11⟩,e11⟩
 case' inl=>exact absurd h11 (λ⟨y,hy,h⟩=>by have:=(hMo y hy).2;omega)
 refine rcall (zG6 (h1.up (w':=w11)) (by omega)) ?_
 rintro nv w12 ⟨On,e12,hnb00⟩
 have q_:=On.shape
 obtain⟨na0,nc0,rfl⟩:=q_
 refine ral λbn w13 n13 Z13=>?_
 have hb13:=n13.b;have hs13:=n13.s
 have z12:=e12.e.size
 refine rsto (B:=Z13) (vs:=[.slice na0 S.length nc0]) rfl rfl rfl (sv1 _ _ _) λw14 N14 f14 _=>?_
 have N14:Bk w14 bn [.slice na0 S.length nc0] E.yn:=N14
 have s14:Stp w12 w14:=⟨Fr.st (Le.e (a:=w12) (b:=w13)) f14 λi hi=>by omega⟩
 refine ral λbs w15 n15 Z15=>?_
 have hb15:=n15.b;have hs15:=n15.s
 have Z15:Bk w15 bs [.slice none 0 0] E.qn:=Z15
 have I15:StpI g q S [] w11.heap.size bn bs w15 na0 nc0 none 0:=⟨by simpa using N14.mv (w:=w15),by simpa [sendsL] using Z15,by simpa using On.up (w':=w15),by simpa [sendsL] using Own.nil _ _ _⟩
 clear Z13 f14 N14 Z15
 have hnb0:∀b,Value.blk (.slice na0 S.length nc0)=some b->b<w15.heap.size:=λb hb=>by
  have:=hnb00 b hb;omega
 have hlt:bn<w15.heap.size/\bs<w15.heap.size:=⟨I15.now.lt,I15.sent.lt⟩
 have z14:=s14.e.size
 have hlo:w11.heap.size<=bn/\w11.heap.size<=bs/\bn≠bs:=by omega
 have hol':=zJY W
 have holl:=hol.length_eq
 rw [hol'] at holl
 have hov:=Oo.shape
 obtain⟨oa,oc,rfl⟩:=hov
 have R11:=R.up (w':=w11)
 have P11:=h3.up (w':=w11)
 have RB11:=RB.up (w':=w11)
 have Bq11:=Bq.mv (w:=w11)
 have Br11:=Br.mv (w:=w11)
 have Oo11:=Oo.up (w':=w11)
 have z11:w.heap.size<=w11.heap.size:=Le.size
 refine cnt1K TBok 77 [24,25,26,27,28] 18 77 ol.length (λk d v u=>v=.int .i64 0/\Mks w15.heap.size u.heap.size d u/\(∃P na nc sa sc,P.Perm ((ol.take k).flatMap λp=>boxL W (freshL S M) p.toNat)/\StpI g q S P w11.heap.size bn bs u na nc sa sc/\(∀b,Value.blk (.slice na (S++P).length nc)=some b->b<u.heap.size)/\∀b,Value.blk (.slice sa (sendsL g q P).length sc)=some b->b<u.heap.size)/\Stp w11 u/\w15.heap.size<=u.heap.size) rfl rfl ⟨rfl,Mks.nil _ _ _ rfl,⟨[],na0,nc0,none,0,.refl _,I15,λb hb=>by have:=hnb0 b (by simpa using hb);omega,λb hb=>nomatch hb⟩,stp,Nat.le_refl _⟩ ?_
 rintro k d v G u hkk ⟨rfl,K,⟨P,na,nc,sa,sc,hP,I,hnb,hsb⟩,su,zu⟩
 have hPl:P.length<=(freshL S M).length:=by
  have h1:=(hP.append_right ((ol.drop k).flatMap λp=>boxL W (freshL S M) p.toNat)).length_eq
  rw [<-List.flatMap_append,List.take_append_drop,(zGy hW.1 hol).length_eq,List.length_append] at h1
  omega
 refine ite (λhlt2=>?_) (λhge=>?_)
 ·have hka:k<ol.length:=by omega
  have hpm:ol[k]∈upTo W:=hol.mem_iff.1 (List.getElem_mem hka)
  have hex:=zNA hpm
  obtain⟨p,hp,hpW⟩:=hex
  have hpM:p<MB.length:=by omega
  refine rix (Oo11.up (w':=u)).sl (x:=ol[k]) (by simp) λb1 o1 A1=>?_
  have A1':=A1.cell0 (v:=Value.int .i64 (p:Int)) (by rw [hp];rfl)
  refine rload1 A1' (drawR TBok mixed (λ_=>False) (upF 11 0) (by kernel_rfl) λu1 e1 _=>tldG (ds:=enc xq) (B:=Bq11) rfl rfl nf (tldG (ds:=enc (⟨⟨roa,g.n+1,roc⟩,rt,rr,rv⟩:RRow)) (B:=Br11) rfl rfl nf ?_))
  have hbl:=zIP W (freshL S M) p
  have hbo:=hbox p hpM
  have SB:SlF u1 MB[p].v MB[p].l:=(RB11.up (w':=u1)).rows _ (List.getElem_mem hpM) |>.sl
  refine tix (i:=p) (RB11.up (w':=u1)).top.sl (x:=MB[p]) (by simp) λb2 o2 A2 _=>tload1 (A2.cell0 rfl) nf (rcall (zIB SB (by rw [hbo];omega) (P11.up (w':=u1))) ?_)
  rintro lv u2 ⟨⟨L,hLp,OL⟩,e2⟩
  refine⟨e2.e,?_⟩
  have ql:=OL.shape
  obtain⟨la,lc,rfl⟩:=ql
  refine tbuild (cs:=enc xq++enc (⟨⟨roa,g.n+1,roc⟩,rt,rr,rv⟩:RRow)++[.slice la L.length lc,.int .i64 0]) rfl (rbx λbw u3 n3' W3=>⟨n3'.e,?_⟩)
  refine rcall zEd ?_
  rintro _ u4 ⟨b1',rfl,n4,B4⟩
  have hLl:=hLp.length_eq
  have hLn:L.length<=400:=by rw [hLl,hbo];omega
  have hLo:∀x∈L,OkX g x:=λx hx=>hfo x (List.mem_filter.1 (hbo ▸ hLp.mem_iff.1 hx)).1
  have zu1:=Le.size (a:=u) (b:=u1)
  have zu2:=Le.size (a:=u) (b:=u2)
  have zu4:=Le.size (a:=u) (b:=u4)
  have z24:=Le.size (a:=u2) (b:=u4)
  have hbw:=n3'.b;have hsw:=n3'.s;have hb4:=n4.b;have hs4':=n4.s
  have D4:WrkD w11 xq (⟨⟨roa,g.n+1,roc⟩,rt,rr,rv⟩:RRow) L la lc b1' bw u4:=⟨.of_ext (Le.e (a:=w11) (b:=u4)),B4,W3.mv (w:=u4),OL.sl.up⟩
  have I4:=I.up (u':=u4)
  have hX:∀i,wkX w11.heap.size b1' bw (.slice la L.length lc) (L≠[]) i->i<w11.heap.size\/(u.heap.size<=i/\i<u4.heap.size):=λi hi=>by
   rcases hi with h|h|h|⟨h,h'⟩
   ·exact .inl h
   ·right;omega
   ·right;omega
   ·have q_:=OL.lt h
    obtain⟨g',h1',h2',h3'⟩:=q_
    rw [h'] at h1';cases h1';right;omega
  have hI4:StpI g q S (P++L.take ([]:List (List Value)).length) w11.heap.size bn bs u4 na nc sa sc:=by simpa using I4
  refine rrangeG TBok rfl (gf:=F.qr) (first:=[]) (cap:=[.pointer (some ⟨b1',0,none⟩)]) (Rc:=λc u=>(∃D,Fr D c u)/\Kp (wkX w11.heap.size b1' bw (.slice la L.length lc) (L≠[])) c u) rfl rfl (zNB hg R11 hk hLo (by omega)) wk_two (λu u' h=>⟨_,h⟩)
   (λys x=>∃na nc sa sc,ys.length<=L.length/\StpI g q S (P++L.take ys.length) w11.heap.size bn bs x na nc sa sc/\WrkD w11 xq (⟨⟨roa,g.n+1,roc⟩,rt,rr,rv⟩:RRow) L la lc b1' bw x/\((∀b,Value.blk (.slice na (S++(P++L.take ys.length)).length nc)=some b->b<x.heap.size/\(b<u.heap.size\/u4.heap.size<=b))/\∀b,Value.blk (.slice sa (sendsL g q (P++L.take ys.length)).length sc)=some b->b<x.heap.size/\(b<u.heap.size\/u4.heap.size<=b))/\Mks w15.heap.size u4.heap.size d x/\Stp w11 x/\u4.heap.size<=x.heap.size) (λ_ _=>False)
   ?_ ?_ ?_ ?_ ?_ (λc u h=>h.1) (λw' e=>D4.kp (.of_ext e)) ⟨na,nc,sa,sc,by simp,hI4,D4,⟨λb hb=>⟨by have:=hnb b (by simpa using hb);omega,.inl (hnb b (by simpa using hb))⟩,λb hb=>⟨by have:=hsb b (by simpa using hb);omega,.inl (hsb b (by simpa using hb))⟩⟩,(K.fr (Le.e (a:=u) (b:=u4))).lt zu4,stp,Nat.le_refl _⟩ ?_ ?_ ?_
  ·rintro ys x x' ⟨na,nc,sa,sc,h1,h2,h3,h4,h5,h6,h7⟩ qt
   have:=qt.size
   exact⟨na,nc,sa,sc,h1,h2.qt qt,h3.kp (.of_qt qt),⟨λb hb=>⟨by have:=h4.1 b hb;omega,(h4.1 b hb).2⟩,λb hb=>⟨by have:=h4.2 b hb;omega,(h4.2 b hb).2⟩⟩,h5.qt qt,h6.qt (qt.mono (by omega)),by omega⟩
  ·rintro _ x x' h;exact h.elim
  ·rintro ys x x' _ ⟨na,nc,sa,sc,h1,h2,h3,h4,h5,h6,h7⟩ qe
   have:=qe.size
   have L2:Le x x':=⟨qe⟩
   exact⟨na,nc,sa,sc,h1,h2.up,h3.kp (.of_ext qe),⟨λb hb=>⟨by have:=h4.1 b hb;omega,(h4.1 b hb).2⟩,λb hb=>⟨by have:=h4.2 b hb;omega,(h4.2 b hb).2⟩⟩,h5.fr qe,⟨h6.e.t qe⟩,by omega⟩
  ·rintro _ x x' _ h;exact h.elim
  ·rintro x c x2 x3 q1 ⟨_,r⟩ q2;exact((Kp.of_qt q1).trans r).trans (.of_qt q2)
  ·rintro ys x x0 ⟨hlt3,vn,rfl,hvn⟩ _ ⟨na,nc,sa,sc,h1,h2,h3,h4,h5,h6,h7⟩
   refine ral λbx v1 m1 z1=>rsto (B:=z1) (vs:=enc L[ys.length]) rfl rfl rfl (Enc.one _) λv2 X2 f2 _=>?_
   have X2:Bk v2 bx (enc L[ys.length]) E.qh:=X2
   have s2:Stp x0 v2:=⟨Fr.st Le.e f2 λi hi=>by subst hi;exact m1.lo⟩
   refine⟨s2.e,λc1 qt=>?_⟩
   have zs2:=s2.e.size
   have zqt:=qt.size
   have X:=X2.qt qt
   have J:=(h2.up (u':=v2)).qt qt
   have D1:=(h3.kp (.of_ext s2.e)).kp (.of_qt qt)
   have hv1:=(hvn.up (w':=v2)).qt qt
   have M1:=(h5.fr s2.e).qt qt
   have s1':Stp w11 c1:=⟨(h6.e.t s2.e).qt (qt.mono (by omega))⟩
   have hPn:(P++L.take ys.length).length<=800:=by rw [List.length_append,List.length_take];omega
   have hsn:=zG1 hg q (P++L.take ys.length)
   have hnl:=zH3 hg q L[ys.length]
   refine rld (B:=J.now) rfl (rldG (ds:=enc L[ys.length]) (B:=X) rfl rfl (rbs1 L[ys.length] rfl rfl (by decide) λb6 v6 e6 _ S6=>?_))
   have z6:=Le.size (a:=c1) (b:=v6)
   refine rappE ⟨rfl,rfl⟩ (J.on.up (w':=v6)) S6 (by omega) (by rw [List.length_append];simp;omega) λv7 w7 O7 f7 hb7=>?_
   have k2:=(J.now.mv (w:=v6)).fro (J.on.up (w':=v6)) f7 (by decide)
   have k3:=(J.sent.mv (w:=v6)).fro (J.on.up (w':=v6)) f7 (by decide)
   have k4:=(J.os.up (w':=v6)).fro (J.on.up (w':=v6)) f7 (by decide)
   have k5:=(hv1.up (w':=v6)).fro (J.on.up (w':=v6)) f7 (by decide)
   have q7:=O7.shape
   obtain⟨a7,c7,rfl⟩:=q7
   have z7:=f7.size
   refine rsto (B:=k2) (vs:=[.slice a7 _ c7]) rfl rfl rfl (sv1 _ _ _) λw8 B8 f8 z8=>?_
   have k3:=k3.fr f8 (by omega)
   have k4:=k4.frc f8 k2 (by decide)
   have k5:=k5.frc f8 k2 (by decide)
   have O8:=O7.frc f8 k2 (by decide)
   refine rld (B:=k3) rfl ?_
   have hx5:=k5.shape
   obtain⟨xa,xc,rfl⟩:=hx5
   refine rappE ⟨rfl,rfl⟩ k4 k5.sl (by omega) (by omega) λv9 w9 O9 f9 hb9=>?_
   have k6:=k3.fro k4 f9 (by decide)
   have B9:=B8.fro k4 f9 (by decide)
   have O10:=O8.fro k4 f9 (by decide)
   have q9:=O9.shape
   obtain⟨a9,c9,rfl⟩:=q9
   have z9:=f9.size
   refine rsto (B:=k6) (vs:=[.slice a9 _ c9]) rfl rfl rfl (sv1 _ _ _) λw10 B10 f10 z10=>?_
   have B11:=B9.fr f10 (by omega)
   have O11:=O10.frc f10 k6 (by decide)
   have O12:=O9.frc f10 k6 (by decide)
   have hyl:(ys++[[agg L[ys.length],Value.slice xa (nextL g q L[ys.length]).length xc]]).length=ys.length+1:=by simp
   have htk:P++L.take (ys.length+1)=P++L.take ys.length++[L[ys.length]]:=by rw [zAa hlt3,List.append_assoc]
   have hse:sendsL g q (P++L.take (ys.length+1))=sendsL g q (P++L.take ys.length)++nextL g q L[ys.length]:=by rw [htk];unfold sendsL;rw [List.flatMap_append];simp
   have hno:S++(P++L.take (ys.length+1))=S++(P++L.take ys.length)++[L[ys.length]]:=by rw [htk];simp only [List.append_assoc]
   have J2:StpI g q S (P++L.take (ys.length+1)) w11.heap.size bn bs w10 a7 c7 a9 c9:=by
    refine⟨?_,?_,?_,?_⟩
    ·rw [hno];exact B11
    ·rw [hse];exact B10
    ·rw [hno];exact O11
    ·rw [hse];exact O12
   have zz:u4.heap.size<=c1.heap.size:=by omega
   have hon:∀i,ownD w11.heap.size (.slice na (S++(P++L.take ys.length)).length nc) i->w11.heap.size<=i/\(i<u.heap.size\/u4.heap.size<=i):=λi hi=>⟨hi.1,(h4.1 i hi.2.1).2⟩
   have hos:∀i,ownD w11.heap.size (.slice sa (sendsL g q (P++L.take ys.length)).length sc) i->w11.heap.size<=i/\(i<u.heap.size\/u4.heap.size<=i):=λi hi=>⟨hi.1,(h4.2 i hi.2.1).2⟩
   have kp:Kp (wkX w11.heap.size b1' bw (.slice la L.length lc) (L≠[])) c1 w10:=((((Kp.of_ext e6.e).trans (.of_fr f7 λi hi hd=>by have:=hX i hi;have:=hon i hd;omega)).trans (.of_fr f8 λi hi hd=>by have:=hX i hi;omega)).trans (.of_fr f9 λi hi hd=>by have:=hX i hi;have:=hos i hd;omega)).trans (.of_fr f10 λi hi hd=>by have:=hX i hi;omega)
   have s10:Stp w11 w10:=⟨Fr.st (Fr.st (Fr.st (Fr.st (Le.e (a:=w11) (b:=v6)) f7 λi hi=>hi.1) f8 λi hi=>by omega) f9 λi hi=>hi.1) f10 λi hi=>by omega⟩
   have fr:Fr (λ_=>True) c1 w10:=((((Fr.fr e6.e).trans (Fr.mono f7 λ_ _ _=>trivial)).trans (Fr.mono f8 λ_ _ _=>trivial)).trans (Fr.mono f9 λ_ _ _=>trivial)).trans (Fr.mono f10 λ_ _ _=>trivial)
   have b1n:∀b,Value.blk (.slice a7 (S++(P++L.take (ys.length+1))).length c7)=some b->b<w10.heap.size/\(b<u.heap.size\/u4.heap.size<=b):=λb hb=>by
    rw [hno] at hb
    rcases hb7 with h|⟨h,h'⟩
    ·have:=h4.1 b (h.symm.trans hb);omega
    ·have:=h.symm.trans hb;cases this;omega
   have b1s:∀b,Value.blk (.slice a9 (sendsL g q (P++L.take (ys.length+1))).length c9)=some b->b<w10.heap.size/\(b<u.heap.size\/u4.heap.size<=b):=λb hb=>by
    rw [hse] at hb
    rcases hb9 with h|⟨h,h'⟩
    ·have:=h4.2 b (h.symm.trans hb);omega
    ·have:=h.symm.trans hb;cases this;omega
   have M10:Mks w15.heap.size u4.heap.size d w10:=M1.fr fr
   exact⟨⟨a7,c7,a9,c9,by rw [hyl];omega,by rw [hyl];exact J2,D1.kp kp,by rw [hyl];exact⟨b1n,b1s⟩,M10,s10,by omega⟩,⟨_,fr⟩,kp⟩
  ·rintro ys D u6 hE ⟨na,nc,sa,sc,h1,h2,h3,h4,h5,h6,h7⟩ hD hd
   rw [hE,List.take_length] at h2 h4
   refine rld (B:=h3.w) rfl (iF (· rfl) ?_)
   have K6:=h5.add (D:=D) (by omega) hD hd
   have hPp:(P++L).Perm ((ol.take (k+1)).flatMap λp=>boxL W (freshL S M) p.toNat):=by
    rw [zAa hka,List.flatMap_append]
    refine List.Perm.append hP ?_
    simp only [List.flatMap_cons,List.flatMap_nil,List.append_nil]
    rw [hp,Int.toNat_natCast,<-hbo]
    exact hLp
   refine rA ⟨rfl,hka,rfl,K6,⟨P++L,na,nc,sa,sc,hPp,h2,λb hb=>(h4.1 b hb).1,λb hb=>(h4.2 b hb).1⟩,h6,by omega⟩
  ·rintro c D x h;exact h.elim
 ·have q_:k=ol.length:=by omega
  obtain rfl:=q_
  rw [List.take_length] at hP
  have hPf:=hP.trans (zGy hW.1 hol)
  have hsn:=zG1 hg q P
  refine iF (· rfl) (rld (B:=I.now) rfl (rcall (zCA Tryz.sortS (k:=4) (show Agg PP E.qh 4 from inferInstance) rfl cfM zKE (f:=F.qn) rfl (λx y W=>zLO) I.on (by rw [List.length_append];omega)) ?_))
  rintro _ u2 ⟨rfl,N,hN,hNs,ON,f2⟩
  have hNl:=hN.length_eq
  rw [List.length_append] at hNl
  have hso:=zOv (q:=q) (g:=g) hS hPf hN (hNs.imp λh hl=>h ((zFj _ _).2 hl))
  obtain⟨so1,so2⟩:=hso
  have B2:=I.now.fro I.on f2 (by decide)
  have C2:=I.sent.fro I.on f2 (by decide)
  have O2:=I.os.fro I.on f2 (by decide)
  have K2:=K.fr f2
  have s2:Stp w11 u2:=⟨Fr.st su.e f2 λi hi=>hi.1⟩
  have hlen:(S++P).length=N.length:=by rw [List.length_append,hNl]
  refine drawR TBok mixed (λ_=>False) (upF 7 0) (by kernel_rfl) λu3 e3 _=>tld (B:=B2) rfl nf (tld (B:=B2) rfl nf (tld (B:=C2) rfl nf ?_))
  refine rcall (zDw (ON.sl.up (w':=u3)) (O2.sl.up (w':=u3)) (by omega) (by omega)) ?_
  rintro fv u4 ⟨OF,e4⟩
  refine⟨e4.e,?_⟩
  have z2:=f2.size
  have z3:=e3.e.size
  have K4:=(K2.fr e3.e).fr e4.e
  have fin:∀u',Qt w15.heap.size u4 u'->(∃v1 v2,Value.tuple #[.slice na (S++P).length nc,fv,.int .i64 0]=.tuple #[v1,v2,.int .i64 0]/\Own w.heap.size E.qh u' v1 (stepL g q S M).1/\Own w.heap.size E.qb u' v2 (stepL g q S M).2)/\Stp w u':=λu' qt=>by
   have z15:w11.heap.size<=w15.heap.size:=by omega
   refine⟨⟨_,_,rfl,?_,?_⟩,⟨(Le.e (a:=w) (b:=u4)).qt (qt.mono (by omega))⟩⟩
   ·rw [<-so1];exact((ON.up (w':=u4)).qt qt).mono z11
   ·rw [<-so2];exact(OF.qt qt).mono (by omega)
  exact zMm rfl K4 fin
theorem zDb{c:Nat}{L:List StD}{bl bs:Nat}{dir v slot:Int}(hB:B<=w.heap.size)(K:Bk w bl [.slice a n c] E.qn)(O:Own B E.qb w (.slice a n c) L)(S:Bk w bs [.int .i64 slot] E.qa)(hL:L.length<=1000):
  Sp PP F.d9 #[.int .i64 dir,.int .i64 v,.pointer (some ⟨bl,0,none⟩),.pointer (some ⟨bs,0,none⟩)] w λ_ w'=>(∃a' n' c',Bk w' bl [.slice a' n' c'] E.qn/\Own B E.qb w' (.slice a' n' c') (L++[⟨⟨slot,dir,v⟩,0⟩]))/\Bk w' bs [.int .i64 slot] E.qa/\Fr (λi=>i=bl\/B<=i) w w':=by
 refine en TBok rfl ?_
 refine rld (B:=K) rfl (rld (B:=S) rfl ?_)
 refine rbuild (cs:=enc (⟨slot,dir,v⟩:KeyD)) rfl (rbuild (cs:=enc (⟨⟨slot,dir,v⟩,0⟩:StD)) rfl (rbs1 (⟨⟨slot,dir,v⟩,0⟩:StD) rfl rfl (by decide) λb1 w1 n1 _ S1=>?_))
 have z1:=Le.size (a:=w) (b:=w1)
 refine rappB ⟨rfl,rfl⟩ (O.up (w':=w1)) S1 (by omega) (by simp;omega) λv2 w2 O2 f2=>?_
 have K2:=(K.mv (w:=w1)).fro (O.up (w':=w1)) f2 (by decide)
 have S2:=(S.mv (w:=w1)).fro (O.up (w':=w1)) f2 (by decide)
 have q2:=O2.shape
 obtain⟨a2,c2,rfl⟩:=q2
 refine rsto (B:=K2) (vs:=[.slice a2 _ c2]) rfl rfl rfl (sv1 _ _ _) λw3 K3 f3 _=>?_
 have hne:bs≠bl:=by
  rintro rfl
  have h1:=K2.h;have h2:=S2.h
  rw [h1] at h2;cases h2
 exact⟨⟨a2,_,c2,K3,O2.frc f3 K2 (by decide)⟩,S2.fr f3 hne,((Fr.fr n1.e).trans (f2.mono λi _ hi=>.inr hi.1)).trans (f3.mono λi _ hi=>.inl hi)⟩
theorem zJi{slot:Int}:mls g q slot 0=(src q 0).map (λv:Nat=>(⟨⟨slot,0,v⟩,0⟩:StD))++(src q 1).map (λv:Nat=>(⟨⟨slot,1,v⟩,0⟩:StD)):=rfl
theorem zIu{xq:RQ}{slot:Int}(hk:xq.kind=q.kind/\xq.frm=q.frm/\xq.to=q.to)(hq:QyOk q g.n):
  Sp PP F.c2 #[agg xq,.int .i64 slot] w λv w'=>Own w.heap.size E.qb w' v (mls g q slot 0)/\Stp w w':=by
 obtain⟨hk1,hk2,hk3⟩:=hk
 have hfrm:=hq.frm
 have hkind:=hq.kind
 have hs0:src q 0=[q.frm.toNat]:=rfl
 refine en TBok rfl ?_
 refine rbx λbq w1 n1 Bq=>rbx λbs w2 n2 Bs=>ral λbl w3 n3 Bl=>?_
 have Bl:Bk w3 bl [.slice none 0 0] E.qn:=Bl
 have hb1:=n1.b;have hs1:=n1.s;have hb2:=n2.b;have hs2:=n2.s;have hb3:=n3.b;have hs3:=n3.s
 refine rld (B:=Bq) rfl ?_
 have S1:=zDb (L:=[]) (dir:=0) (v:=xq.frm) (B:=w3.heap.size) (Nat.le_refl _) Bl (Own.nil _ _ _) (Bs.mv (w:=w3)) (by simp)
 refine ite (λh1=>?_) (λh1=>?_)
 ·refine rld (B:=Bq) rfl (rcall S1 ?_)
  rintro _ w4 ⟨⟨a4,n4,c4,K4,O4⟩,S4,f4⟩
  have s4:Stp w2 w4:=⟨Fr.st (Le.e (a:=w2) (b:=w3)) f4 λi hi=>by omega⟩
  refine rld (B:=Bq) rfl ?_
  have z4:=f4.size
  refine rcall (zDb (dir:=1) (v:=xq.to) z4 K4 O4 S4 (by simp)) ?_
  rintro _ w5 ⟨⟨a5,n5,c5,K5,O5⟩,S5,f5⟩
  refine rld (B:=K5) rfl ?_
  have hto:=hq.to (by omega)
  have hs1:src q 1=[q.to.toNat]:=by unfold src;rw [if_neg (by decide),if_pos (by omega)]
  have e:([]:List StD)++[⟨⟨slot,0,xq.frm⟩,0⟩]++[⟨⟨slot,1,xq.to⟩,0⟩]=mls g q slot 0:=by
   rw [zJi,hs0,hs1,hk2,hk3]
   simp only [List.map_cons,List.map_nil,List.nil_append,List.cons_append]
   rw [Int.toNat_of_nonneg hfrm.1,Int.toNat_of_nonneg hto.1]
  rw [e] at O5
  exact⟨O5.mono (by omega),⟨Fr.st (Le.e (a:=w) (b:=w4)) f5 λi hi=>by omega⟩⟩
 ·have fin:∀(w4:World) (a4:Option Addr) (n4 c4:Nat),Own w3.heap.size E.qb w4 (.slice a4 n4 c4) (([]:List StD)++[⟨⟨slot,0,xq.frm⟩,0⟩])->Own w.heap.size E.qb w4 (.slice a4 n4 c4) (mls g q slot 0):=λw4 a4 n4 c4 O4=>by
   have hs1:src q 1=[]:=by unfold src;rw [if_neg (by decide),if_neg (by omega)]
   have e:([]:List StD)++[⟨⟨slot,0,xq.frm⟩,0⟩]=mls g q slot 0:=by
    rw [zJi,hs0,hs1,hk2]
    simp only [List.map_cons,List.map_nil,List.nil_append,List.append_nil]
    rw [Int.toNat_of_nonneg hfrm.1]
   rw [<-e];exact O4.mono (by omega)
  refine ite (λh2=>?_) (λh2=>?_)
  ·refine rld (B:=Bq) rfl (rcall S1 ?_)
   rintro _ w4 ⟨⟨a4,n4,c4,K4,O4⟩,S4,f4⟩
   refine rld (B:=K4) rfl ?_
   exact⟨fin w4 _ _ _ O4,⟨Fr.st (Le.e (a:=w) (b:=w3)) f4 λi hi=>by omega⟩⟩
  ·refine ite (λh3=>?_) (λh3=>absurd h3 (by omega))
   refine rld (B:=Bq) rfl (rcall S1 ?_)
   rintro _ w4 ⟨⟨a4,n4,c4,K4,O4⟩,S4,f4⟩
   refine rld (B:=K4) rfl ?_
   exact⟨fin w4 _ _ _ O4,⟨Fr.st (Le.e (a:=w) (b:=w3)) f4 λi hi=>by omega⟩⟩
theorem zAl{v n:Int}{b:Nat}(K:Bk w b [.int .i64 n] E.qa):Sp PP F.yx #[.int .i64 v,.pointer (some ⟨b,0,none⟩)] w λr w'=>Tells (0<=v/\v<n) r/\w'=w:=by
 refine en TBok rfl ?_
 refine ite (λh1=>?_) (λh1=>⟨.f λh=>h1 h.1,rfl⟩)
 refine rld (B:=K) rfl ?_
 exact ite (λh2=>⟨.t ⟨h1,h2⟩,rfl⟩) (λh2=>⟨.f λh=>h2 h.2,rfl⟩)
theorem zGW{s:ByteArray}(hs:s.size<=1000000):Sp PP F.yy #[.string s] w λv w'=>Tells (¬WordB s) v/\Stp w w':=by
 refine en TBok rfl ?_
 refine rcall (zEq hs) ?_
 rintro _ w1 ⟨⟨rfl,h⟩|⟨rfl,h⟩,e1⟩
 ·exact⟨.f λhn=>hn h,stp⟩
 ·exact⟨.t h,stp⟩
theorem zEt{xq:RQ}{n:Int}(V:QyV w xq q)(hl:q.words.length<=1000000)(hs:∀s∈q.words,s.size<=1000000):
  Sp PP F.zg #[agg xq,.int .i64 n] w λv w'=>((QyIs q n/\v=.int .i64 0)\/(¬QyIs q n/\v=.int .i64 180))/\Stp w w':=by
 obtain⟨k1,k2,k3,kw,k4,k5⟩:=V
 obtain⟨x1,x2,x3,⟨wa,wn,wc⟩,x4,x5⟩:=xq
 simp only at k1 k2 k3 k4 k5
 subst k1 k2 k3 k4 k5
 have hwn:wn=q.words.length:=kw.len
 subst hwn
 have hagg:agg (⟨q.kind,q.frm,q.to,⟨wa,q.words.length,wc⟩,q.rad,q.most⟩:RQ)=.agg #[.int .i64 q.kind,.int .i64 q.frm,.int .i64 q.to,.slice wa q.words.length wc,.int .i64 q.rad,.int .i64 q.most]:=rfl
 rw [hagg]
 refine en TBok rfl ?_
 refine rbx λbq w1 n1 Bq=>rbx λbn w2 n2 Bn=>?_
 have NO:¬QyIs q n->∀u:World,Stp w u->((QyIs q n/\Value.int .i64 180=.int .i64 0)\/(¬QyIs q n/\Value.int .i64 180=.int .i64 180))/\Stp w u:=λh u s=>⟨.inr ⟨h,rfl⟩,s⟩
 have YES:QyIs q n->∀u:World,Stp w u->((QyIs q n/\Value.int .i64 0=.int .i64 0)\/(¬QyIs q n/\Value.int .i64 0=.int .i64 180))/\Stp w u:=λh u s=>⟨.inl ⟨h,rfl⟩,s⟩
 refine rld (B:=Bq) rfl (ite (λh1=>?_) (λh1=>?_))
 ·refine rld (B:=Bq) rfl (rcall (zAl (Bn.mv (w:=w2))) ?_)
  rintro _ _ ⟨⟨rfl,h5⟩|⟨rfl,h5⟩,rfl⟩
  case' inr=>exact NO (λh=>h5 h.2.1) _ stp
  refine rld (B:=Bq) rfl (rcall (zAl (Bn.mv (w:=_))) ?_)
  rintro _ _ ⟨⟨rfl,h6⟩|⟨rfl,h6⟩,rfl⟩
  ·exact YES ⟨by omega,h5,λ_=>h6,λh=>absurd h (by omega)⟩ _ stp
  ·exact NO (λh=>h6 (h.2.2.1 (by omega))) _ stp
 refine ite (λh2=>?_) (λh2=>?_)
 ·refine rld (B:=Bq) rfl (rcall (zAl (Bn.mv (w:=w2))) ?_)
  rintro _ _ ⟨⟨rfl,h5⟩|⟨rfl,h5⟩,rfl⟩
  case' inr=>exact NO (λh=>h5 h.2.1) _ stp
  refine rld (B:=Bq) rfl (rcall (zAl (Bn.mv (w:=_))) ?_)
  rintro _ _ ⟨⟨rfl,h6⟩|⟨rfl,h6⟩,rfl⟩
  ·exact YES ⟨by omega,h5,λ_=>h6,λh=>absurd h (by omega)⟩ _ stp
  ·exact NO (λh=>h6 (h.2.2.1 (by omega))) _ stp
 refine ite (λh3=>?_) (λh3=>NO (λh=>by have:=h.1;omega) _ stp)
 refine rld (B:=Bq) rfl (ite (λh4=>?_) (λh4=>?_))
 case' refine_2 =>
  have hno:¬QyIs q n:=λh=>by have:=(h.2.2.2 h3).1;omega
  refine rld (B:=Bq) rfl (rcall (zAl (Bn.mv (w:=_))) ?_)
  rintro _ _ ⟨⟨rfl,h5⟩|⟨rfl,h5⟩,rfl⟩
  ·exact NO hno _ stp
  ·exact NO hno _ stp
 refine rld (B:=Bq) rfl (ite (λh5=>?_) (λh5=>?_))
 case' refine_2 =>
  have hno:¬QyIs q n:=λh=>by have:=(h.2.2.2 h3).1;omega
  refine rld (B:=Bq) rfl (rcall (zAl (Bn.mv (w:=_))) ?_)
  rintro _ _ ⟨⟨rfl,h5⟩|⟨rfl,h5⟩,rfl⟩
  ·exact NO hno _ stp
  ·exact NO hno _ stp
 refine rld (B:=Bq) rfl (rcall (zBq (g:=F.yy) (first:=[]) (cap:=[]) (p:=λs=>¬WordB s) (kw.up (w':=w2)) hl (λr u1 hr _=>zGW (hs r hr))) ?_)
 rintro _ w3 ⟨⟨rfl,h6⟩|⟨rfl,h6⟩,e3⟩
 ·have hno:¬QyIs q n:=λh=>by
   obtain⟨y,hy,h7⟩:=h6
   exact h7 ((h.2.2.2 h3).2.2.2 y hy)
  refine rld (B:=Bq) rfl (rcall (zAl (Bn.mv (w:=_))) ?_)
  rintro _ _ ⟨⟨rfl,h5⟩|⟨rfl,h5⟩,rfl⟩
  ·exact NO hno _ stp
  ·exact NO hno _ stp
 have hwd:∀s∈q.words,WordB s:=λs h=>Classical.byContradiction λhn=>h6 ⟨s,h,hn⟩
 refine rld (B:=Bq) rfl (rcall (zAl (Bn.mv (w:=w3))) ?_)
 rintro _ _ ⟨⟨rfl,h7⟩|⟨rfl,h7⟩,rfl⟩
 case' inr=>exact NO (λh=>h7 h.2.1) _ stp
 refine rld (B:=Bq) rfl (ite (λh8=>?_) (λh8=>NO (λh=>h8 (h.2.2.2 h3).2.1.1) _ stp))
 refine rld (B:=Bq) rfl (ite (λh9=>?_) (λh9=>NO (λh=>h9 (h.2.2.2 h3).2.1.2) _ stp))
 refine rld (B:=Bq) rfl (ite (λh10=>?_) (λh10=>NO (λh=>h10 (h.2.2.2 h3).2.2.1.1) _ stp))
 refine rld (B:=Bq) rfl (ite (λh11=>?_) (λh11=>NO (λh=>h11 (h.2.2.2 h3).2.2.1.2) _ stp))
 exact YES ⟨.inr (.inr h3),h7,λh=>absurd h (by omega),λ_=>⟨by omega,⟨h8,h9⟩,⟨h10,h11⟩,hwd⟩⟩ _ stp
abbrev FrB (w:World) (b:Nat) (s:List UInt8) (A:Nat):Prop:=Bk w b [txt s,.int .i64 (A:Int)] E.qv
theorem zBD{A b:Nat}(B:FrB w b s A)(hs:s.length<=4611686018427387904):
  SpP PP F.qq #[.pointer (some ⟨b,0,none⟩)] w (λv w'=>∃n A':Nat,RdsV rdN s A n A'/\v=.int .i64 (n:Int)/\FrB w' b s A'/\Fr (λi=>i=b) w w')
   (λc w'=>c=PanF/\rdN (s.drop A)=none/\Fr (λi=>i=b) w w'):=
 (zAT B hs).mono (λv w' ⟨n,h1,h2,h3,h4⟩=>⟨n,_,rdn_of h1,h2,h3,h4⟩) (λc w' ⟨h1,h2,h3⟩=>⟨h1,rdn_no h2,h3⟩)
theorem zGE{A b:Nat}(B:FrB w b s A)(hs:s.length<=4611686018427387904):
  SpP PP F.qw #[.pointer (some ⟨b,0,none⟩),.int .i64 (m:Int)] w (λv w'=>∃n A':Nat,RdsV rdN s A n A'/\n<=m/\v=.int .i64 (n:Int)/\FrB w' b s A'/\Fr (λi=>i=b) w w')
   (λc w'=>c=PanF/\(∀n t,rdN (s.drop A)=some (n,t)->¬n<=m)/\Fr (λi=>i=b) w w'):=by
 refine enP TBok rfl ?_
 refine rcallP (zBD B hs) ?_ ?_
 ·rintro _ u1 ⟨n,A',hr,rfl,B1,f1⟩
  refine ite (λh=>?_) (λh=>?_)
  ·refine rcallP zAb ?_ ?_
   ·rintro _ u2 ⟨_,rfl,rfl⟩
    exact⟨n,A',hr,by omega,rfl,B1,f1⟩
   ·rintro _ u3 ⟨h,_⟩;cases h
  ·refine rcallP zAb ?_ ?_
   ·rintro _ u3 ⟨h,_⟩;cases h
   ·rintro _ u2 ⟨_,rfl,rfl⟩
    refine⟨rfl,λk t hk=>?_,f1⟩
    rw [hr.2] at hk;cases hk
    omega
 ·rintro _ u1 ⟨rfl,hno,f1⟩
  exact⟨rfl,(λn t hr=>by rw [hno] at hr;cases hr),f1⟩
theorem zGF{A b:Nat}(B:FrB w b s A)(hs:s.length<=4611686018427387904):
  SpP PP F.ph #[.pointer (some ⟨b,0,none⟩)] w (λv w'=>∃x A',RdsV rdT s A x A'/\v=txt x/\FrB w' b s A'/\Fr (λi=>i=b) w w')
   (λc w'=>c=PanF/\rdT (s.drop A)=none/\Fr (λi=>i=b) w w'):=by
 refine enP TBok rfl ?_
 refine drawR TBok mixed (λ_=>False) (upF 16 0) (by kernel_rfl) λu1 e1 _=>tld (B:=B) rfl nf (tld (B:=B) rfl nf (rcall (zCU (A:=A) hs) ?_))
 rintro v u2 ⟨⟨x,A',hr,rfl⟩|⟨hno,rfl⟩,e2⟩
 ·refine⟨e2.e,?_⟩
  refine rcallP zAb ?_ ?_
  ·rintro _ u3 ⟨_,rfl,rfl⟩
   have B2:=B.mv (w:=u3)
   refine rsto (B:=B2) (vs:=[.int .i64 _]) rfl rfl rfl (int_o _) λu4 B4 f4 _=>?_
   exact⟨x,A',hr,rfl,B4,(Fr.fr (Le.e (a:=w) (b:=u3))).trans f4⟩
  ·rintro _ u3 ⟨h,_⟩;cases h
 ·refine⟨e2.e,?_⟩
  refine rcallP zAb ?_ ?_
  ·rintro _ u3 ⟨h,_⟩;cases h
  ·rintro _ u3 ⟨_,rfl,rfl⟩
   exact⟨rfl,hno,Fr.fr (Le.e (a:=w) (b:=u3))⟩
theorem panR'{rs:List ResultVar}{F:Nat->Value}{c:List PanicEntry}{R:Value->World->Prop}{pn:List PanicEntry->World->Prop}{d:Value}(h0:F 4294967296=d)(hd:decD d=[])(h:pn c w):panS P rs R pn F c w:=by
 unfold panS
 rw [h0,hd];exact h
theorem zOb{r:List UInt8}(h:rdN r=none):rdQ k r=none:=by unfold rdQ;rw [h]
theorem rdQ_2{a:Nat}{r r1:List UInt8}(h:rdN r=some (a,r1))(hk:k<=2):rdQ k r=match rdN r1 with
  |none=>none
  |some (b,r2)=>some (⟨k,a,b,[],0,0⟩,r2):=by unfold rdQ;rw [h];simp only;rw [if_pos hk];rfl
theorem rdQ_3{a:Nat}{r r1:List UInt8}(h:rdN r=some (a,r1))(hk:¬k<=2):rdQ k r=match rdWs r1 with
  |none=>none
  |some (ws,r2)=>match rdN r2 with
   |none=>none
   |some (x,r3)=>match rdN r3 with
    |none=>none
    |some (y,r4)=>some (⟨k,a,0,ws.map bsOf,x,y⟩,r4):=by unfold rdQ;rw [h];simp only;rw [if_neg hk];rfl
def QyO (B:Nat) (w:World) (x:RQ) (q:QyD):Prop:=x.kind=q.kind/\x.frm=q.frm/\x.to=q.to/\Own B E.qg w x.words.v q.words/\x.rad=q.rad/\x.most=q.most
abbrev QrT (s:List UInt8) (A b kind:Nat) (w:World) (v:Value) (w':World):Prop:=∃q A' x,RdsV (rdQ kind) s A q A'/\v=agg x/\QyO w.heap.size w' x q/\FrB w' b s A'/\Fr (λi=>i=b) w w'
theorem zJ9{A b kind:Nat}(B:FrB w b s A)(hs:s.length<=4611686018427387904):
  SpP PP F.z5 #[.pointer (some ⟨b,0,none⟩),.int .i64 (kind:Int)] w (λv w'=>QrT s A b kind w v w')
   (λc w'=>c=PanF/\rdQ kind (s.drop A)=none/\Fr (λi=>i=b) w w'):=by
 have hbl:=B.lt
 refine enP TBok rfl ?_
 refine ral λbr w1 n1 R1=>?_
 have hb1:=n1.b;have hs1:=n1.s
 refine rcallP (zBD (B.mv (w:=w1)) hs) ?_ ?_
 case' refine_2 =>
  rintro _ w2 ⟨rfl,hno,f2⟩
  exact⟨rfl,zOb hno,(Fr.fr n1.e).trans f2⟩
 rintro _ w2 ⟨a,A2,hr2,rfl,B2,f2⟩
 have R2:=R1.fr f2 (by omega)
 have z2:=f2.size
 refine rbuild (cs:=[.int .i64 (kind:Int),.int .i64 (a:Int),.int .i64 0,.slice none 0 0,.int .i64 0,.int .i64 0]) rfl (ral λbq w3 n3 Q3=>?_)
 have hb3:=n3.b;have hs3:=n3.s
 refine rsto (B:=Q3) (vs:=[.int .i64 (kind:Int),.int .i64 (a:Int),.int .i64 0,.slice none 0 0,.int .i64 0,.int .i64 0]) rfl rfl rfl (by intro u hu;simp at hu;rcases hu with rfl|rfl|rfl|rfl|rfl|rfl <;> rfl) λw4 Q4 f4 _=>?_
 have Q4:Bk w4 bq [.int .i64 (kind:Int),.int .i64 (a:Int),.int .i64 0,.slice none 0 0,.int .i64 0,.int .i64 0] E.qt:=Q4
 have lq:=Q4.lt
 have z34:=f4.size
 have hne1:¬br=bq:=by omega
 have hne2:¬b=bq:=by omega
 have R4:=(R2.mv (w:=w3)).fr f4 hne1
 have B4:FrB w4 b s A2:=(B2.mv (w:=w3)).fr f4 hne2
 have F4:Fr (λi=>i=b) w w4:=Fr.st' ((((Fr.fr n1.e).trans f2).trans (Fr.fr n3.e))) f4 λi hi=>by omega
 have hlr:=R1.lt
 refine ite (λh1=>?_) (λh1=>?_)
 ·have hk2:kind<=2:=by omega
  have e2:=rdQ_2 hr2.2 hk2
  refine rcallP (zBD B4 hs) ?_ ?_
  case' refine_2 =>
   rintro _ w5 ⟨rfl,hno,f5⟩
   exact⟨rfl,by rw [e2,hno],F4.trans f5⟩
  rintro _ w5 ⟨c5,A5,hr5,rfl,B5,f5⟩
  refine rsto (B:=Q4.fr f5 (by omega)) (vs:=[.int .i64 (c5:Int)]) rfl rfl rfl (int_o _) λw6 Q6 f6 _=>?_
  have Q6:Bk w6 bq [.int .i64 (kind:Int),.int .i64 (a:Int),.int .i64 (c5:Int),.slice none 0 0,.int .i64 0,.int .i64 0] E.qt:=Q6
  refine rldG (ds:=[.int .i64 (kind:Int),.int .i64 (a:Int),.int .i64 (c5:Int),.slice none 0 0,.int .i64 0,.int .i64 0]) (B:=Q6) rfl rfl ?_
  have R6:=(R4.fr f5 (by omega)).fr f6 hne1
  refine rsto (B:=R6) (vs:=[.int .i64 (kind:Int),.int .i64 (a:Int),.int .i64 (c5:Int),.slice none 0 0,.int .i64 0,.int .i64 0]) rfl rfl rfl (by intro u hu;simp at hu;rcases hu with rfl|rfl|rfl|rfl|rfl|rfl <;> rfl) λw7 R7 f7 _=>?_
  have R7:Bk w7 br [.int .i64 (kind:Int),.int .i64 (a:Int),.int .i64 (c5:Int),.slice none 0 0,.int .i64 0,.int .i64 0] E.qt:=R7
  have B7:FrB w7 b s A5:=(B5.fr f6 hne2).fr f7 (by omega)
  have F7:Fr (λi=>i=b) w w7:=Fr.st' (Fr.st' (F4.trans f5) f6 λi hi=>by omega) f7 λi hi=>by omega
  refine rresG (B:=R7) rfl ?_
  exact⟨⟨kind,a,c5,[],0,0⟩,A5,⟨kind,a,c5,⟨none,0,0⟩,0,0⟩,⟨hr5.1,by rw [e2,hr5.2]⟩,rfl,⟨rfl,rfl,rfl,Own.nil _ _ _,rfl,rfl⟩,B7,F7⟩
 ·have hk2:¬kind<=2:=by omega
  have e3:=rdQ_3 hr2.2 hk2
  refine rcallP (zGE (m:=8) B4 hs) ?_ ?_
  case' refine_2 =>
   rintro _ w5 ⟨rfl,hno,f5⟩
   refine⟨rfl,?_,F4.trans f5⟩
   have:rdWs (s.drop A2)=none:=by
    unfold rdWs
    cases h:rdN (s.drop A2) with
    |none=>rfl
    |some p=>obtain⟨n,t⟩:=p;simp only;rw [if_neg (hno n t h)]
   rw [e3,this]
  rintro _ w5 ⟨N,A5,hr5,hN,rfl,B5,f5⟩
  have ew:rdWs (s.drop A2)=rdMany rdT N (s.drop A5):=by unfold rdWs;rw [hr5.2];simp only;rw [if_pos hN]
  have hwb:=B.lt
  have Q5:=Q4.fr f5 (by omega)
  have R5:Bk w5 br (Value.cells (.agg #[.int .i64 0,.int .i64 0,.int .i64 0,.slice none 0 0,.int .i64 0,.int .i64 0])).toList E.qt:=R4.fr f5 (by omega)
  have z5:=f5.size
  have h5:A5<=s.length:=hr5.1
  refine cnt TBok 18 [] 18 N (λk u=>∃(Ak:Nat) (ws:List (List UInt8)) (wa:Option Addr) (wc:Nat),ws.length=k/\preR ws (rdMany rdT (N - k) (s.drop Ak))=rdMany rdT N (s.drop A5)/\Ak<=s.length/\FrB u b s Ak/\Bk u bq [.int .i64 (kind:Int),.int .i64 (a:Int),.int .i64 0,.slice wa (ws.map bsOf).length wc,.int .i64 0,.int .i64 0] E.qt/\Own w5.heap.size E.qg u (.slice wa (ws.map bsOf).length wc) (ws.map bsOf)/\Bk u br (Value.cells (.agg #[.int .i64 0,.int .i64 0,.int .i64 0,.slice none 0 0,.int .i64 0,.int .i64 0])).toList E.qt/\Fr (λi=>i=b) w u/\w5.heap.size<=u.heap.size) rfl rfl
   ⟨A5,[],none,0,rfl,by rw [zD8];simp,h5,B5,by simpa using Q5,by simpa using Own.nil _ _ _,R5,F4.trans f5,Nat.le_refl _⟩ ?_
  rintro k G u hk ⟨Ak,ws,wa,wc,hwl,hpre,hAk,Bu,Qu,Ou,Ru,Fu,zu⟩
  refine ite (λhlt=>?_) (λhge=>?_)
  ·have hkN:k<N:=by omega
   have e0:N - k=(N - (k+1))+1:=by omega
   rw [e0] at hpre
   have lqu:=Qu.lt
   refine drawRT TBok mixed (λ_=>True) (.one 0 (.one 2 (.duo 1 (.one 3 (.one 4 (.one 5 (.one 6 (.one 7 .nil))))) 3 (.duo 1 (.one 4 (.one 5 (.one 6 (.one 7 .nil)))) 4 (.lone 1 (.one 5 (.one 6 (.one 7 .nil)))))))) (by kernel_rfl) λu1 e1 _=>?_
   have BX:FrB u1 b s Ak:=Bk.mv (w:=u1) Bu
   have EX:=e1.e
   refine⟨?_,?_⟩
   ·refine rld (B:=Qu) rfl ⟨Fr.refl _ _,?_⟩
    refine rcallP (zGF (A:=Ak) BX hs) ?_ ?_
    case' refine_2 =>
     rintro _ u2 ⟨rfl,hno,f6⟩
     have ewn:rdWs (s.drop A2)=none:=by
      rw [ew,<-hpre,zCc hno];rfl
     have hfin:PanF=PanF/\rdQ kind (s.drop A)=none/\Fr (λi=>i=b) w u2:=⟨rfl,by rw [e3,ewn],(Fu.trans (Fr.fr EX)).trans f6⟩
     intro F' ag
     show panS PP _ _ (λc w'=>c=PanF/\rdQ kind (s.drop A)=none/\Fr (λi=>i=b) w w') F' PanF u2
     exact panR' (ag 4294967296 rfl) rfl hfin
    rintro _ u2 ⟨x,A',hr,rfl,B6,f6⟩
    refine⟨Fr.mono f6 λ_ _ _=>trivial,?_⟩
    have Q6:=(Bk.mv (w:=u1) Qu).fr f6 (by omega)
    have R6:=(Bk.mv (w:=u1) Ru).fr f6 (by omega)
    have O6:=(Own.up (w':=u1) Ou).frc f6 BX (by decide)
    have z6:=f6.size
    have z1:=Le.size (a:=u) (b:=u1)
    refine rbs1 (bsOf x) rfl rfl (by decide) λb7 u3 n3' _ S7=>⟨Fr.fr n3'.e,?_⟩
    have Q7:=Q6.mv (w:=u3)
    have z7:=Le.size (a:=u2) (b:=u3)
    refine rappB ⟨rfl,rfl⟩ (O6.up (w':=u3)) S7 (by omega) (by simp;omega) λv8 u8 O8 f8=>⟨Fr.mono f8 λ_ _ _=>trivial,?_⟩
    have Q8:=Q7.fro (O6.up (w':=u3)) f8 (by decide)
    have R8:=(R6.mv (w:=u3)).fro (O6.up (w':=u3)) f8 (by decide)
    have B8:FrB u8 b s A':=(Bk.mv (w:=u3) B6).fro (O6.up (w':=u3)) f8 (by decide)
    have z8:=f8.size
    have em:(ws.map bsOf)++[bsOf x]=(ws++[x]).map bsOf:=by rw [List.map_append];rfl
    rw [em] at O8
    have q8:=O8.shape
    obtain⟨a8,c8,rfl⟩:=q8
    refine rsto (B:=Q8) (vs:=[.slice a8 ((ws++[x]).map bsOf).length c8]) rfl rfl rfl (by intro u hu;simp at hu;subst hu;rfl) λu9 Q9 f9 _=>⟨Fr.mono f9 λ_ _ _=>trivial,?_⟩
    have B9:FrB u9 b s A':=B8.fr f9 (by omega)
    have F9:Fr (λi=>i=b) w u9:=Fr.st' (Fr.st' (((Fu.trans (Fr.fr EX)).trans f6).trans (Fr.fr n3'.e)) f8 λi hi=>by have:=hi.1;omega) f9 λi hi=>by omega
    have hp9:preR (ws++[x]) (rdMany rdT (N - (k+1)) (s.drop A'))=rdMany rdT N (s.drop A5):=by rw [<-hpre];exact(zAS hr.2 ws).symm
    exact rA ⟨rfl,hkN,A',ws++[x],a8,c8,by simp [hwl],hp9,hr.1,B9,Q9,O8.frc f9 Q8 (by decide),R8.fr f9 (by omega),F9,by omega⟩
   ·refine rcallP (zGF (A:=Ak) BX hs) ?_ ?_
    case' refine_2 =>
     rintro _ u2 ⟨rfl,hno,f6⟩
     have ewn:rdWs (s.drop A2)=none:=by
      rw [ew,<-hpre,zCc hno];rfl
     have hfin:PanF=PanF/\rdQ kind (s.drop A)=none/\Fr (λi=>i=b) w u2:=⟨rfl,by rw [e3,ewn],(Fu.trans (Fr.fr EX)).trans f6⟩
     intro F' ag
     show panS PP _ _ (λc w'=>c=PanF/\rdQ kind (s.drop A)=none/\Fr (λi=>i=b) w w') F' PanF u2
     exact panR' (ag 4294967296 rfl) rfl hfin
    rintro _ u2 ⟨x,A',hr,rfl,B6,f6⟩
    refine⟨Fr.mono f6 λ_ _ _=>trivial,?_⟩
    have Q6:=(Bk.mv (w:=u1) Qu).fr f6 (by omega)
    have R6:=(Bk.mv (w:=u1) Ru).fr f6 (by omega)
    have O6:=(Own.up (w':=u1) Ou).frc f6 BX (by decide)
    have z6:=f6.size
    have z1:=Le.size (a:=u) (b:=u1)
    refine⟨?_,?_⟩
    ·refine rld (B:=Q6) rfl ⟨Fr.refl _ _,?_⟩
     refine rbs1 (bsOf x) rfl rfl (by decide) λb7 u3 n3' _ S7=>⟨Fr.fr n3'.e,?_⟩
     have Q7:=Q6.mv (w:=u3)
     have z7:=Le.size (a:=u2) (b:=u3)
     refine rappB ⟨rfl,rfl⟩ (O6.up (w':=u3)) S7 (by omega) (by simp;omega) λv8 u8 O8 f8=>⟨Fr.mono f8 λ_ _ _=>trivial,?_⟩
     have Q8:=Q7.fro (O6.up (w':=u3)) f8 (by decide)
     have R8:=(R6.mv (w:=u3)).fro (O6.up (w':=u3)) f8 (by decide)
     have B8:FrB u8 b s A':=(Bk.mv (w:=u3) B6).fro (O6.up (w':=u3)) f8 (by decide)
     have z8:=f8.size
     have em:(ws.map bsOf)++[bsOf x]=(ws++[x]).map bsOf:=by rw [List.map_append];rfl
     rw [em] at O8
     have q8:=O8.shape
     obtain⟨a8,c8,rfl⟩:=q8
     refine rsto (B:=Q8) (vs:=[.slice a8 ((ws++[x]).map bsOf).length c8]) rfl rfl rfl (by intro u hu;simp at hu;subst hu;rfl) λu9 Q9 f9 _=>⟨Fr.mono f9 λ_ _ _=>trivial,?_⟩
     have B9:FrB u9 b s A':=B8.fr f9 (by omega)
     have F9:Fr (λi=>i=b) w u9:=Fr.st' (Fr.st' (((Fu.trans (Fr.fr EX)).trans f6).trans (Fr.fr n3'.e)) f8 λi hi=>by have:=hi.1;omega) f9 λi hi=>by omega
     have hp9:preR (ws++[x]) (rdMany rdT (N - (k+1)) (s.drop A'))=rdMany rdT N (s.drop A5):=by rw [<-hpre];exact(zAS hr.2 ws).symm
     exact rA ⟨rfl,hkN,A',ws++[x],a8,c8,by simp [hwl],hp9,hr.1,B9,Q9,O8.frc f9 Q8 (by decide),R8.fr f9 (by omega),F9,by omega⟩
    ·refine rbs1 (bsOf x) rfl rfl (by decide) λb7 u3 n3' _ S7=>⟨Fr.fr n3'.e,?_⟩
     refine rld (B:=Q6) rfl ⟨Fr.refl _ _,?_⟩
     have Q7:=Q6.mv (w:=u3)
     have z7:=Le.size (a:=u2) (b:=u3)
     refine rappB ⟨rfl,rfl⟩ (O6.up (w':=u3)) S7 (by omega) (by simp;omega) λv8 u8 O8 f8=>⟨Fr.mono f8 λ_ _ _=>trivial,?_⟩
     have Q8:=Q7.fro (O6.up (w':=u3)) f8 (by decide)
     have R8:=(R6.mv (w:=u3)).fro (O6.up (w':=u3)) f8 (by decide)
     have B8:FrB u8 b s A':=(Bk.mv (w:=u3) B6).fro (O6.up (w':=u3)) f8 (by decide)
     have z8:=f8.size
     have em:(ws.map bsOf)++[bsOf x]=(ws++[x]).map bsOf:=by rw [List.map_append];rfl
     rw [em] at O8
     have q8:=O8.shape
     obtain⟨a8,c8,rfl⟩:=q8
     refine rsto (B:=Q8) (vs:=[.slice a8 ((ws++[x]).map bsOf).length c8]) rfl rfl rfl (by intro u hu;simp at hu;subst hu;rfl) λu9 Q9 f9 _=>⟨Fr.mono f9 λ_ _ _=>trivial,?_⟩
     have B9:FrB u9 b s A':=B8.fr f9 (by omega)
     have F9:Fr (λi=>i=b) w u9:=Fr.st' (Fr.st' (((Fu.trans (Fr.fr EX)).trans f6).trans (Fr.fr n3'.e)) f8 λi hi=>by have:=hi.1;omega) f9 λi hi=>by omega
     have hp9:preR (ws++[x]) (rdMany rdT (N - (k+1)) (s.drop A'))=rdMany rdT N (s.drop A5):=by rw [<-hpre];exact(zAS hr.2 ws).symm
     exact rA ⟨rfl,hkN,A',ws++[x],a8,c8,by simp [hwl],hp9,hr.1,B9,Q9,O8.frc f9 Q8 (by decide),R8.fr f9 (by omega),F9,by omega⟩
  ·have q_:k=N:=by omega
   obtain rfl:=q_
   rw [Nat.sub_self] at hpre
   have hws:rdWs (s.drop A2)=some (ws,s.drop Ak):=by rw [ew,<-hpre];simp [rdMany,preR]
   have lqu:=Qu.lt
   have lru:=Ru.lt
   refine rcallP (zBD Bu hs) ?_ ?_
   case' refine_2 =>
    rintro _ u2 ⟨rfl,hno,f6⟩
    have hfin:PanF=PanF/\rdQ kind (s.drop A)=none/\Fr (λi=>i=b) w u2:=⟨rfl,by rw [e3,hws];simp only;rw [hno],Fu.trans f6⟩
    exact hfin
   rintro _ u2 ⟨x,A6,hr6,rfl,B6,f6⟩
   have Q6:=Qu.fr f6 (by omega)
   have R6:=Ru.fr f6 (by omega)
   have O6:=Ou.frc f6 Bu (by decide)
   refine rsto (B:=Q6) (vs:=[.int .i64 (x:Int)]) rfl rfl rfl (int_o _) λu3 Q7 f7 _=>?_
   have Q7:Bk u3 bq [.int .i64 (kind:Int),.int .i64 (a:Int),.int .i64 0,.slice wa (ws.map bsOf).length wc,.int .i64 (x:Int),.int .i64 0] E.qt:=Q7
   have B7:FrB u3 b s A6:=B6.fr f7 hne2
   have R7:=R6.fr f7 hne1
   have O7:=O6.frc f7 Q6 (by decide)
   have F7:Fr (λi=>i=b) w u3:=Fr.st' (Fu.trans f6) f7 λi hi=>by omega
   refine rcallP (zBD B7 hs) ?_ ?_
   case' refine_2 =>
    rintro _ u4 ⟨rfl,hno,f8⟩
    have hfin:PanF=PanF/\rdQ kind (s.drop A)=none/\Fr (λi=>i=b) w u4:=⟨rfl,by rw [e3,hws];simp only;rw [hr6.2];simp only;rw [hno],F7.trans f8⟩
    exact hfin
   rintro _ u4 ⟨y,A8,hr8,rfl,B8,f8⟩
   have Q8:=Q7.fr f8 (by omega)
   have R8:=R7.fr f8 (by omega)
   have O8:=O7.frc f8 B7 (by decide)
   refine rsto (B:=Q8) (vs:=[.int .i64 (y:Int)]) rfl rfl rfl (int_o _) λu5 Q9 f9 _=>?_
   have Q9:Bk u5 bq [.int .i64 (kind:Int),.int .i64 (a:Int),.int .i64 0,.slice wa (ws.map bsOf).length wc,.int .i64 (x:Int),.int .i64 (y:Int)] E.qt:=Q9
   have B9:FrB u5 b s A8:=B8.fr f9 hne2
   have R9:=R8.fr f9 hne1
   have O9:=O8.frc f9 Q8 (by decide)
   refine rldG (ds:=enc (⟨kind,a,0,⟨wa,(ws.map bsOf).length,wc⟩,x,y⟩:RQ)) (B:=Q9) rfl rfl (rsto (B:=R9) (vs:=enc (⟨kind,a,0,⟨wa,(ws.map bsOf).length,wc⟩,x,y⟩:RQ)) rfl rfl rfl (Enc.one _) λu6 R10 f10 _=>?_)
   have R10:Bk u6 br (enc (⟨kind,a,0,⟨wa,(ws.map bsOf).length,wc⟩,x,y⟩:RQ)) E.qt:=R10
   have B10:FrB u6 b s A8:=B9.fr f10 (by omega)
   have O10:=O9.frc f10 R9 (by decide)
   have F10:Fr (λi=>i=b) w u6:=Fr.st' (Fr.st' (F7.trans f8) f9 λi hi=>by omega) f10 λi hi=>by omega
   refine rresG (B:=R10) rfl ?_
   have hfin:QrT s A b kind w (agg (⟨kind,a,0,⟨wa,(ws.map bsOf).length,wc⟩,x,y⟩:RQ)) u6:=⟨⟨kind,a,0,ws.map bsOf,x,y⟩,A8,⟨kind,a,0,⟨wa,(ws.map bsOf).length,wc⟩,x,y⟩,⟨hr8.1,by rw [e3,hws];simp only;rw [hr6.2];simp only;rw [hr8.2]⟩,rfl,⟨rfl,rfl,rfl,O10.mono (by omega),rfl,rfl⟩,B10,F10⟩
   exact hfin
structure RqV (w:World) (x:RReq) (d:RqD):Prop where
 id:x.id=d.id
 kind:x.kind=d.kind
 q:QyV w x.q d.q
def RqZ (x:RqD):Prop:=if x.kind=4 then x.q=zQy else if x.kind=3 then x.q.to=0 else x.q.words=[]/\x.q.rad=0/\x.q.most=0
theorem zEp{x:RReq}{d:RqD}(V:RqV w x d):Sp PP F.c1 #[agg x] w λv w'=>Tells (RqZ d) v/\Stp w w':=by
 obtain⟨h1,h2,⟨k1,k2,k3,kw,k4,k5⟩⟩:=V
 obtain⟨xi,xk,⟨x1,x2,x3,⟨wa,wn,wc⟩,x4,x5⟩⟩:=x
 obtain⟨di,dk,⟨d1,d2,d3,dw,d4,d5⟩⟩:=d
 simp only at h1 h2 k1 k2 k3 k4 k5
 subst h1 h2 k1 k2 k3 k4 k5
 have hwn:wn=dw.length:=kw.len
 subst hwn
 have hagg:agg (⟨xi,xk,⟨x1,x2,x3,⟨wa,dw.length,wc⟩,x4,x5⟩⟩:RReq)=.agg #[.int .i64 xi,.int .i64 xk,.int .i64 x1,.int .i64 x2,.int .i64 x3,.slice wa dw.length wc,.int .i64 x4,.int .i64 x5]:=rfl
 rw [hagg]
 have hw0:dw.length=0↔dw=[]:=List.length_eq_zero_iff
 refine en TBok rfl ?_
 refine rbx λb w1 n1 B1=>rldG (ds:=[.int .i64 x1,.int .i64 x2,.int .i64 x3,.slice wa dw.length wc,.int .i64 x4,.int .i64 x5]) (B:=B1) rfl rfl (ral λb2 w2 n2 Z2=>?_)
 have hb1:=n1.b;have hs1:=n1.s;have hb2:=n2.b;have hs2:=n2.s
 refine rsto (B:=Z2) (vs:=[.int .i64 x1,.int .i64 x2,.int .i64 x3,.slice wa dw.length wc,.int .i64 x4,.int .i64 x5]) rfl rfl rfl (by intro u hu;simp at hu;rcases hu with rfl|rfl|rfl|rfl|rfl|rfl <;> rfl) λw3 B3 f3 _=>?_
 have B3:Bk w3 b2 [.int .i64 x1,.int .i64 x2,.int .i64 x3,.slice wa dw.length wc,.int .i64 x4,.int .i64 x5] E.qt:=B3
 have s3:Stp w w3:=⟨Fr.st (Le.e (a:=w) (b:=w2)) f3 λi hi=>by omega⟩
 have B1:=(B1.mv (w:=w2)).fr f3 (by omega)
 clear Z2 f3
 refine rld (B:=B1) rfl (ite (λh4=>?_) (λh4=>?_))
 ·have hz:RqZ ⟨xi,xk,⟨x1,x2,x3,dw,x4,x5⟩⟩↔(x1=0/\x2=0/\x3=0/\dw=[]/\x4=0/\x5=0):=by
   unfold RqZ zQy;simp only;rw [if_pos h4];simp only [QyD.mk.injEq]
  refine rld (B:=B3) rfl (ite (λh5=>?_) (λh5=>⟨.f λm=>h5 (hz.1 m).1,stp⟩))
  refine rld (B:=B3) rfl (ite (λh6=>?_) (λh6=>⟨.f λm=>h6 (hz.1 m).2.1,stp⟩))
  refine rld (B:=B3) rfl (ite (λh7=>?_) (λh7=>⟨.f λm=>h7 (hz.1 m).2.2.1,stp⟩))
  refine rld (B:=B3) rfl (ite (λh8=>?_) (λh8=>⟨.f λm=>h8 (by rw [(hz.1 m).2.2.2.1];rfl),stp⟩))
  refine rld (B:=B3) rfl (ite (λh9=>?_) (λh9=>⟨.f λm=>h9 (hz.1 m).2.2.2.2.1,stp⟩))
  refine rld (B:=B3) rfl (ite (λh10=>?_) (λh10=>⟨.f λm=>h10 (hz.1 m).2.2.2.2.2,stp⟩))
  exact⟨.t (hz.2 ⟨h5,h6,h7,hw0.1 (by omega),h9,h10⟩),stp⟩
 refine ite (λh5=>?_) (λh5=>?_)
 ·have hz:RqZ ⟨xi,xk,⟨x1,x2,x3,dw,x4,x5⟩⟩↔x3=0:=by unfold RqZ;simp only;rw [if_neg h4,if_pos h5]
  refine rld (B:=B3) rfl ?_
  exact ite (λh6=>⟨.t (hz.2 h6),stp⟩) (λh6=>⟨.f λm=>h6 (hz.1 m),stp⟩)
 have hz:RqZ ⟨xi,xk,⟨x1,x2,x3,dw,x4,x5⟩⟩↔(dw=[]/\x4=0/\x5=0):=by unfold RqZ;simp only;rw [if_neg h4,if_neg h5]
 refine rld (B:=B3) rfl (ite (λh8=>?_) (λh8=>⟨.f λm=>h8 (by rw [(hz.1 m).1];rfl),stp⟩))
 refine rld (B:=B3) rfl (ite (λh9=>?_) (λh9=>⟨.f λm=>h9 (hz.1 m).2.1,stp⟩))
 refine rld (B:=B3) rfl (ite (λh10=>?_) (λh10=>⟨.f λm=>h10 (hz.1 m).2.2,stp⟩))
 exact⟨.t (hz.2 ⟨hw0.1 (by omega),h9,h10⟩),stp⟩
theorem zES{x:RReq}{d:RqD}(V:RqV w x d)(hl:d.q.words.length<=1000000)(hs:∀s∈d.q.words,s.size<=1000000):Sp PP F.qal #[agg x] w λv w'=>Tells (RqIs d) v/\Stp w w':=by
 obtain⟨h1,h2,hq⟩:=V
 refine en TBok rfl ?_
 refine rbx λb w1 n1 B1=>rld (B:=B1) rfl (ite (λh4=>?_) (λh4=>?_))
 ·have hok:d.kind=4\/d.q.kind=d.kind/\QyIs d.q 200:=.inl (by rw [<-h2];exact h4)
  have q_:∃u,u=w1:=⟨_,rfl⟩
  obtain⟨u,hu⟩:=q_
  subst hu
  refine rld (B:=B1) rfl (ite (λh6=>?_) (λh6=>⟨.f λm=>h6 (by rw [h1];exact m.2.1.1),stp⟩))
  refine rld (B:=B1) rfl (ite (λh7=>?_) (λh7=>⟨.f λm=>h7 (by rw [h1];exact m.2.1.2),stp⟩))
  refine rldG (ds:=enc x) (B:=B1) rfl (Enc.len x) (rcall (zEp (d:=d) ⟨h1,h2,hq.up (w':=u)⟩) ?_)
  rintro v w9 ⟨hz,e9⟩
  refine⟨?_,stp⟩
  rcases hz with ⟨rfl,hz⟩|⟨rfl,hz⟩
  ·exact .t ⟨hok,⟨by rw [<-h1];exact h6,by rw [<-h1];exact h7⟩,hz⟩
  ·exact .f λm=>hz m.2.2
 refine rld (B:=B1) rfl (rld (B:=B1) rfl ?_)
 refine ite (λh5=>?_) (λh5=>?_)
 ·refine rldG (ds:=enc x.q) (B:=B1) rfl (Enc.len x.q) (rcall (zEt (n:=200) (hq.up (w':=w1)) hl hs) ?_)
  rintro _ u ⟨⟨hy,rfl⟩|⟨hy,rfl⟩,eu⟩
  ·have hok:d.kind=4\/d.q.kind=d.kind/\QyIs d.q 200:=.inr ⟨by rw [<-h2,<-hq.kind];exact h5,hy⟩
   refine iT rfl (rld (B:=B1) rfl (ite (λh6=>?_) (λh6=>⟨.f λm=>h6 (by rw [h1];exact m.2.1.1),stp⟩)))
   refine rld (B:=B1) rfl (ite (λh7=>?_) (λh7=>⟨.f λm=>h7 (by rw [h1];exact m.2.1.2),stp⟩))
   refine rldG (ds:=enc x) (B:=B1) rfl (Enc.len x) (rcall (zEp (d:=d) ⟨h1,h2,hq.up (w':=u)⟩) ?_)
   rintro v w9 ⟨hz,e9⟩
   refine⟨?_,stp⟩
   rcases hz with ⟨rfl,hz⟩|⟨rfl,hz⟩
   ·exact .t ⟨hok,⟨by rw [<-h1];exact h6,by rw [<-h1];exact h7⟩,hz⟩
   ·exact .f λm=>hz m.2.2
  ·refine iF (by decide) ?_
   exact⟨.f λm=>by
    have q_:=m.1
    rcases q_ with h|h
    ·exact h4 (by rw [h2];exact h)
    ·exact hy h.2,stp⟩
 ·exact⟨.f λm=>by
   have q_:=m.1
   rcases q_ with h|h
   ·exact h4 (by rw [h2];exact h)
   ·exact h5 (by rw [hq.kind,h2];exact h.1),stp⟩
def RqO (B:Nat) (w:World) (x:RReq) (d:RqD):Prop:=x.id=d.id/\x.kind=d.kind/\QyO B w x.q d.q
theorem RqO.v{x:RReq}{d:RqD}(h:RqO B w x d):RqV w x d:=⟨h.1,h.2.1,⟨h.2.2.1,h.2.2.2.1,h.2.2.2.2.1,h.2.2.2.2.2.1.sl,h.2.2.2.2.2.2.1,h.2.2.2.2.2.2.2⟩⟩
theorem zMj{r t:List UInt8}(h:rdQ k r=some (q,t)):q.words.length<=8/\∀s∈q.words,s.size<=4000:=by
 unfold rdQ at h
 split at h
 ·cases h
 ·split at h
  ·split at h
   ·cases h
   ·cases h;simp
  ·split at h
   ·cases h
   ·rename_i ws r2 hw
    split at h
    ·cases h
    ·split at h
     ·cases h
     ·cases h
      have:=zEa hw
      refine⟨by simpa using this.1,λs hs=>?_⟩
      have q_:=List.mem_map.1 hs
      obtain⟨l,hl,rfl⟩:=q_
      have:=this.2 l hl
      simpa [bsOf,ByteArray.size] using this
theorem rdR_1(h:rdN s=none):rdR s=none:=by unfold rdR;rw [h]
theorem rdR_2{r1:List UInt8}{id:Nat}(h:rdN s=some (id,r1)):rdR s=match rdN r1 with
  |none=>none
  |some (k,r2)=>if k<=4 then (if k=4 then some (⟨id,4,zQy⟩,r2) else match rdQ k r2 with
   |none=>none
   |some (q,r3)=>some (⟨id,k,q⟩,r3)) else none:=by unfold rdR;rw [h];rfl
abbrev zRq:RReq:=⟨0,0,⟨0,0,0,⟨none,0,0⟩,0,0⟩⟩
abbrev RpT (s:List UInt8) (b:Nat) (w:World) (v:Value) (w':World):Prop:=∃d A' x,RdsV rdR s 0 d A'/\RqIs d/\v=agg x/\RqO w.heap.size w' x d/\FrB w' b s A'/\Fr (λi=>i=b) w w'
abbrev RpN (s:List UInt8) (b:Nat) (w:World) (c:List PanicEntry) (w':World):Prop:=c=PanF/\(∀d t,rdR s=some (d,t)->¬RqIs d)/\Fr (λi=>i=b) w w'
theorem zDn{b:Nat}(B:FrB w b s 0)(hs:s.length<=4611686018427387904):
  SpP PP F.q4 #[.pointer (some ⟨b,0,none⟩)] w (λv w'=>RpT s b w v w') (λc w'=>RpN s b w c w'):=by
 have hbl:=B.lt
 refine enP TBok rfl ?_
 refine ral λbr w1 n1 R1=>?_
 have hb1:=n1.b;have hs1:=n1.s
 have R1:Bk w1 br (enc zRq) E.qd:=R1
 refine rcallP (zBD (B.mv (w:=w1)) hs) ?_ ?_
 case' refine_2 =>
  rintro _ w2 ⟨rfl,hno,f2⟩
  have hfin:RpN s b w PanF w2:=⟨rfl,(λd t h=>by rw [rdR_1 (by simpa using hno)] at h;cases h),(Fr.fr n1.e).trans f2⟩
  exact hfin
 rintro _ w2 ⟨id,A2,hr2,rfl,B2,f2⟩
 have R2:=R1.fr f2 (by omega)
 have z2:=f2.size
 refine rbuild (cs:=enc (⟨id,0,⟨0,0,0,⟨none,0,0⟩,0,0⟩⟩:RReq)) rfl (ral λbx w3 n3 X3=>?_)
 have hb3:=n3.b;have hs3:=n3.s
 refine rsto (B:=X3) (vs:=enc (⟨id,0,⟨0,0,0,⟨none,0,0⟩,0,0⟩⟩:RReq)) rfl rfl rfl (Enc.one _) λw4 X4 f4 _=>?_
 have X4:Bk w4 bx (enc (⟨id,0,⟨0,0,0,⟨none,0,0⟩,0,0⟩⟩:RReq)) E.qd:=X4
 have hlr:=R1.lt
 have hne1:¬br=bx:=by omega
 have hne2:¬b=bx:=by omega
 have R4:=(R2.mv (w:=w3)).fr f4 hne1
 have B4:FrB w4 b s A2:=(B2.mv (w:=w3)).fr f4 hne2
 have F4:Fr (λi=>i=b) w w4:=Fr.st' ((((Fr.fr n1.e).trans f2).trans (Fr.fr n3.e))) f4 λi hi=>by omega
 have z4:=f4.size
 have e2:=rdR_2 (show rdN s=some (id,s.drop A2) by simpa using hr2.2)
 refine rcallP (zGE (m:=4) B4 hs) ?_ ?_
 case' refine_2 =>
  rintro _ w5 ⟨rfl,hno,f5⟩
  have hfin:RpN s b w PanF w5:=by
   refine⟨rfl,λd t h=>?_,F4.trans f5⟩
   rw [e2] at h
   cases hn:rdN (s.drop A2) with
   |none=>rw [hn] at h;cases h
   |some p =>
    obtain⟨k,t'⟩:=p
    rw [hn] at h
    simp only at h
    rw [if_neg (hno k t' hn)] at h;cases h
  exact hfin
 rintro _ w5 ⟨k,A5,hr5,hk,rfl,B5,f5⟩
 have e5:rdR s=(if k=4 then some (⟨id,4,zQy⟩,s.drop A5) else match rdQ k (s.drop A5) with
   |none=>none
   |some (q,r3)=>some (⟨id,k,q⟩,r3)):=by rw [e2,hr5.2];simp only;rw [if_pos hk]
 have X5:=X4.fr f5 (by omega)
 have R5:=R4.fr f5 (by omega)
 have z5:=f5.size
 refine rsto (B:=X5) (vs:=[.int .i64 (k:Int)]) rfl rfl rfl (int_o _) λw6 X6 f6 _=>?_
 have X6:Bk w6 bx (enc (⟨id,k,⟨0,0,0,⟨none,0,0⟩,0,0⟩⟩:RReq)) E.qd:=X6
 have R6:=R5.fr f6 hne1
 have B6:FrB w6 b s A5:=B5.fr f6 hne2
 have lx:=X4.lt
 have F6:Fr (λi=>i=b) w w6:=Fr.st' (F4.trans f5) f6 λi hi=>by omega
 have z6:=f6.size
 refine rld (B:=X6) rfl (ite (λh4=>?_) (λh4=>?_))
 ·dsimp only at h4
  have hk4:¬k=4:=by omega
  rw [if_neg hk4] at e5
  refine rld (B:=X6) rfl (rcallP (zJ9 (kind:=k) B6 hs) ?_ ?_)
  case' refine_2 =>
   rintro _ w7 ⟨rfl,hno,f7⟩
   have hfin:RpN s b w PanF w7:=⟨rfl,(λd t h=>by rw [e5,hno] at h;cases h),F6.trans f7⟩
   exact hfin
  rintro _ w7 ⟨q,A7,xq,hr7,rfl,OQ,B7,f7⟩
  have z7:=f7.size
  have X7:=X6.fr f7 (by omega)
  have R7:=R6.fr f7 (by omega)
  refine rsto (B:=X7) (vs:=enc xq) rfl rfl rfl (Enc.one _) λw8 X8 f8 _=>?_
  have XU:Bk w8 bx (enc (⟨id,k,xq⟩:RReq)) E.qd:=X8
  have RU:=R7.fr f8 hne1
  have BU:FrB w8 b s A7:=B7.fr f8 hne2
  have FU:Fr (λi=>i=b) w w8:=Fr.st' (F6.trans f7) f8 λi hi=>by omega
  have z8:=f8.size
  have hz6:w.heap.size<=w6.heap.size:=by omega
  have OU:RqO w.heap.size w8 (⟨id,k,xq⟩:RReq) ⟨id,k,q⟩:=⟨rfl,rfl,OQ.1,OQ.2.1,OQ.2.2.1,(OQ.2.2.2.1.frc f8 X7 (by decide)).mono hz6,OQ.2.2.2.2⟩
  have hrd:RdsV rdR s 0 (⟨id,k,q⟩:RqD) A7:=⟨hr7.1,by rw [List.drop_zero,e5,hr7.2]⟩
  have q_:∃x,x=(⟨id,k,xq⟩:RReq):=⟨_,rfl⟩
  obtain⟨x,hx⟩:=q_
  have q_:∃d,d=(⟨id,k,q⟩:RqD):=⟨_,rfl⟩
  obtain⟨d,hd⟩:=q_
  have q_:∃y,y=A7:=⟨_,rfl⟩
  obtain⟨AU,hAU⟩:=q_
  have hsmall:d.q.words.length<=1000000/\∀t∈d.q.words,t.size<=1000000:=by
   have h8:=zMj hr7.2
   rw [hd]
   exact⟨Nat.le_trans h8.1 (by decide),λt ht=>Nat.le_trans (h8.2 t ht) (by decide)⟩
  rw [<-hx] at XU OU
  rw [<-hd] at OU hrd
  rw [<-hAU] at BU hrd
  have hsm:d.q.words.length<=1000000/\∀t∈d.q.words,t.size<=1000000:=hsmall
  refine rldG (ds:=enc x) (B:=XU) rfl (Enc.len x) (rcall (zES (d:=d) OU.v hsm.1 hsm.2) ?_)
  rintro _ w9 ⟨⟨rfl,hm⟩|⟨rfl,hm⟩,e9⟩
  ·refine rcallP zAb ?_ ?_
   ·rintro _ w9 ⟨_,rfl,rfl⟩
    have X9:=XU.mv (w:=w9)
    have R9:=RU.mv (w:=w9)
    refine rldG (ds:=enc x) (B:=X9) rfl (Enc.len x) (rsto (B:=R9) (vs:=enc x) rfl rfl rfl (Enc.one _) λw10 R10 f10 _=>?_)
    have R10:Bk w10 br (enc x) E.qd:=R10
    have B10:FrB w10 b s AU:=(Bk.mv (w:=w9) BU).fr f10 (by omega)
    have F10:Fr (λi=>i=b) w w10:=Fr.st' (FU.trans (Fr.fr e9.e)) f10 λi hi=>by omega
    refine rresG (B:=R10) rfl ?_
    have hfin:RpT s b w (agg x) w10:=⟨d,AU,x,hrd,hm,rfl,⟨OU.1,OU.2.1,OU.2.2.1,OU.2.2.2.1,OU.2.2.2.2.1,(OU.2.2.2.2.2.1.up (w':=w9)).frc f10 R9 (by decide),OU.2.2.2.2.2.2⟩,B10,F10⟩
    exact hfin
   ·rintro _ _ ⟨h,_⟩;cases h
  ·refine rcallP zAb ?_ ?_
   ·rintro _ _ ⟨h,_⟩;cases h
   ·rintro _ w9 ⟨_,rfl,rfl⟩
    have hfin:RpN s b w PanF w9:=by
     refine⟨rfl,λd' t h hd=>?_,FU.trans (Fr.fr e9.e)⟩
     have h2:=hrd.2
     rw [List.drop_zero,h] at h2
     cases h2
     exact hm hd
    exact hfin
 ·dsimp only at h4
  have hk4:k=4:=by omega
  rw [if_pos hk4] at e5
  have XU:Bk w6 bx (enc (⟨id,k,⟨0,0,0,⟨none,0,0⟩,0,0⟩⟩:RReq)) E.qd:=X6
  have RU:=R6
  have BU:=B6
  have FU:=F6
  have OU:RqO w.heap.size w6 (⟨id,k,⟨0,0,0,⟨none,0,0⟩,0,0⟩⟩:RReq) ⟨id,4,zQy⟩:=⟨rfl,by rw [hk4];rfl,rfl,rfl,rfl,Own.nil _ _ _,rfl,rfl⟩
  have hrd:RdsV rdR s 0 (⟨id,4,zQy⟩:RqD) A5:=⟨hr5.1,by rw [List.drop_zero,e5]⟩
  have q_:∃x,x=(⟨id,k,⟨0,0,0,⟨none,0,0⟩,0,0⟩⟩:RReq):=⟨_,rfl⟩
  obtain⟨x,hx⟩:=q_
  have q_:∃d,d=(⟨id,4,zQy⟩:RqD):=⟨_,rfl⟩
  obtain⟨d,hd⟩:=q_
  have q_:∃y,y=A5:=⟨_,rfl⟩
  obtain⟨AU,hAU⟩:=q_
  have hsmall:d.q.words.length<=1000000/\∀t∈d.q.words,t.size<=1000000:=by rw [hd];simp [zQy]
  rw [<-hx] at XU OU
  rw [<-hd] at OU hrd
  rw [<-hAU] at BU hrd
  have hsm:d.q.words.length<=1000000/\∀t∈d.q.words,t.size<=1000000:=hsmall
  refine rldG (ds:=enc x) (B:=XU) rfl (Enc.len x) (rcall (zES (d:=d) OU.v hsm.1 hsm.2) ?_)
  rintro _ w9 ⟨⟨rfl,hm⟩|⟨rfl,hm⟩,e9⟩
  ·refine rcallP zAb ?_ ?_
   ·rintro _ w9 ⟨_,rfl,rfl⟩
    have X9:=XU.mv (w:=w9)
    have R9:=RU.mv (w:=w9)
    refine rldG (ds:=enc x) (B:=X9) rfl (Enc.len x) (rsto (B:=R9) (vs:=enc x) rfl rfl rfl (Enc.one _) λw10 R10 f10 _=>?_)
    have R10:Bk w10 br (enc x) E.qd:=R10
    have B10:FrB w10 b s AU:=(Bk.mv (w:=w9) BU).fr f10 (by omega)
    have F10:Fr (λi=>i=b) w w10:=Fr.st' (FU.trans (Fr.fr e9.e)) f10 λi hi=>by omega
    refine rresG (B:=R10) rfl ?_
    have hfin:RpT s b w (agg x) w10:=⟨d,AU,x,hrd,hm,rfl,⟨OU.1,OU.2.1,OU.2.2.1,OU.2.2.2.1,OU.2.2.2.2.1,(OU.2.2.2.2.2.1.up (w':=w9)).frc f10 R9 (by decide),OU.2.2.2.2.2.2⟩,B10,F10⟩
    exact hfin
   ·rintro _ _ ⟨h,_⟩;cases h
  ·refine rcallP zAb ?_ ?_
   ·rintro _ _ ⟨h,_⟩;cases h
   ·rintro _ w9 ⟨_,rfl,rfl⟩
    have hfin:RpN s b w PanF w9:=by
     refine⟨rfl,λd' t h hd=>?_,FU.trans (Fr.fr e9.e)⟩
     have h2:=hrd.2
     rw [List.drop_zero,h] at h2
     cases h2
     exact hm hd
    exact hfin
theorem zF1{h:HitD}:Sp PP F.q1 #[agg h] w λv w'=>Tells (¬HitOk h) v/\Stp w w':=by
 refine en TBok rfl ?_
 refine rbx λb1 w1 n1 B1=>rld (B:=B1) rfl (ite (λh1=>⟨.t (λe=>by have:=e.1;omega),stp⟩) (λh1=>?_))
 refine rld (B:=B1) rfl (ite (λh2=>⟨.t (λe=>by have:=e.2.1;omega),stp⟩) (λh2=>?_))
 refine rld (B:=B1) rfl (ite (λh3=>⟨.t (λe=>by have:=e.2.2.1;omega),stp⟩) (λh3=>?_))
 refine rld (B:=B1) rfl (ite (λh4=>⟨.t (λe=>by have:=e.2.2.2;omega),stp⟩) (λh4=>⟨.f (λe=>e ⟨by omega,by omega,by omega,by omega⟩),stp⟩))
theorem zCW{c:Nat}{l:List HitD}(h:SlF w (.slice a n c) l)(hn:l.length<=1000000):
  Sp PP F.zk #[.slice a n c,.func (.func F.q1) #[] #[]] w λv w'=>((∃k:Nat,v=.int .i64 (k:Int)/\∃y∈l,¬HitOk y)\/(v=.int .i64 (-1)/\∀y∈l,HitOk y))/\Stp w w':=by
 have q_:=h.len
 obtain rfl:=q_
 refine en TBok rfl ?_
 refine cnt TBok 9 [4,5] 8 l.length (λk u=>(∀y∈l.take k,HitOk y)/\Stp w u) rfl rfl ⟨by simp,stp⟩ ?_
 rintro k g u hk ⟨hall,e⟩
 refine ite (λhlt=>?_) (λhge=>?_)
 ·have hka:k<l.length:=by omega
  refine rix (h.up (w':=u)) (x:=l[k]) (by simp) λb1 o1 A1=>rloadA A1 rfl (rcall (zF1 (h:=l[k])) ?_)
  rintro _ u1 ⟨⟨rfl,hy⟩|⟨rfl,hy⟩,e1⟩
  ·exact⟨.inl ⟨k,rfl,l[k],List.getElem_mem _,hy⟩,stp⟩
  ·refine rA ⟨rfl,hka,λt ht=>?_,stp⟩
   rw [zAa hka] at ht
   have q_:=List.mem_append.1 ht
   rcases q_ with ht|ht
   ·exact hall t ht
   ·rw [List.mem_singleton.1 ht];exact Classical.not_not.1 hy
 ·have q_:k=l.length:=by omega
  obtain rfl:=q_
  rw [List.take_of_length_le (Nat.le_refl _)] at hall
  exact⟨.inr ⟨rfl,hall⟩,stp⟩
theorem zA4{c:Nat}{l:List HitD}(h:SlF w (.slice a n c) l)(hn:l.length<=1000000):
  Sp PP F.y5 #[.slice a n c,.func (.func F.q1) #[] #[]] w λv w'=>Tells (∃y∈l,¬HitOk y) v/\Stp w w':=by
 refine en TBok rfl ?_
 refine rcall (zCW h hn) ?_
 rintro _ u1 ⟨⟨k,rfl,hy⟩|⟨rfl,hy⟩,e1⟩
 ·refine ite (λh1=>⟨.t hy,stp⟩) (λh1=>absurd h1 (by omega))
 ·refine ite (λh1=>absurd h1 (by omega)) (λh1=>⟨.f (λ⟨y,h2,h3⟩=>h3 (hy y h2)),stp⟩)
theorem zBT{x : RepD}{l : List HitD}(h : SlF w (.slice x.a.s.a x.a.s.n x.a.s.c) l)(hn : l.length <= 1000000) :
    Sp PP F.ci #[agg x] w λv w' => Tells (RepOk x l) v /\ Stp w w' := by
  obtain ⟨id, code, fd, num, sa, sn, sc⟩ := x
  have hlen : sn = l.length := h.len
  have no : ∀ u : World, Stp w u -> ¬ RepOk ⟨id, code, fd, num, sa, sn, sc⟩ l -> Tells (RepOk ⟨id, code, fd, num, sa, sn, sc⟩ l) (.bool false) /\ Stp w u := λu s hf => ⟨.f hf, s⟩
  have l0 : l.length = 0 -> l = [] := List.eq_nil_of_length_eq_zero
  refine en TBok rfl ?_
  refine rbx λb1 w1 n1 B1 => (rldG (ds := enc (⟨fd, num, sa, sn, sc⟩ : AnsD)) (B := B1) rfl rfl (ral λb2 w2 n2 z2 => (rsto (B := z2) (vs := enc (⟨fd, num, sa, sn, sc⟩ : AnsD)) rfl rfl rfl (Enc.one _) λw3 B3 f3 _ => ?_)))
  have s3 : Stp w1 w3 := ⟨Fr.st Le.e f3 λi hi => by subst hi; exact n2.lo⟩
  have B2 : Bk w3 b2 [.bool fd, .int .i64 num, .slice sa sn sc] E.qi := B3
  have B1 := B1.mv (w := w3)
  clear B3 z2 f3
  refine rld (B := B2) rfl (ite (λ(z1 : num = 0) => ?pp) (λ(z1 : ¬ num = 0) => ?n1))
  case' pp =>
    refine rld (B := B2) rfl (ite (λ(z2 : (sn : Int) = 0) => ?yy) (λ(z2 : ¬ (sn : Int) = 0) => ?n2))
  case' n1 => have hz : ¬ (num = 0 /\ l = []) := λe => z1 e.1
  case' n2 => have hz : ¬ (num = 0 /\ l = []) := λe => by rw [e.2] at hlen; simp at hlen; omega
  case' yy => have hz : num = 0 /\ l = [] := ⟨z1, l0 (by omega)⟩
  all_goals
    refine rld (B := B1) rfl (ite (λ(h : id < 0) => no _ stp λe => by have := e.1.1; dsimp only at this; omega) (λ(h1 : ¬ id < 0) => ?_))
    refine rld (B := B1) rfl (ite (λ(h : 2147483647 < id) => no _ stp λe => by have := e.1.2; dsimp only at this; omega) (λ(h2 : ¬ 2147483647 < id) => ?_))
    refine rld (B := B1) rfl (ite (λ(h : code < 0) => no _ stp λe => by have := e.2.1.1; dsimp only at this; omega) (λ(h3 : ¬ code < 0) => ?_))
    refine rld (B := B1) rfl (ite (λ(h : 1000 < code) => no _ stp λe => by have := e.2.1.2; dsimp only at this; omega) (λ(h4 : ¬ 1000 < code) => ?_))
    have base : (0 <= id /\ id <= 2147483647) /\ (0 <= code /\ code <= 1000) := ⟨⟨by omega, by omega⟩, by omega, by omega⟩
    refine rld (B := B1) rfl (ite (λ(hc : code ≠ 0) => ?_) (λ(hc : ¬ code ≠ 0) => ?_))
    · cases fd
      · first
        | exact no _ stp λe => hz (e.2.2.2.2.1 hc).2
        | (refine rld (B := B2) rfl ?_
           exact ⟨.t ⟨base.1, base.2, ⟨by show 0 <= num; omega, by show num <= 400; omega⟩, by rw [hz.2]; simp, λ_ => ⟨rfl, hz⟩, λ_ => hz, .inl hz.2, by rw [hz.2]; simp⟩, stp⟩)
      · first
        | exact no _ stp λe => nomatch (e.2.2.2.2.1 hc).1
        | (refine rld (B := B2) rfl ?_
           exact no _ stp λe => nomatch (e.2.2.2.2.1 hc).1)
    · have hc0 : code = 0 := Classical.not_not.1 hc
      refine rld (B := B2) rfl ?_
      cases fd
      · first
        | exact no _ stp λe => hz (e.2.2.2.2.2.1 rfl)
        | (refine rld (B := B2) rfl ?_
           exact ⟨.t ⟨base.1, base.2, ⟨by show 0 <= num; omega, by show num <= 400; omega⟩, by rw [hz.2]; simp, λh => absurd hc0 h, λ_ => hz, .inl hz.2, by rw [hz.2]; simp⟩, stp⟩)
      · refine rld (B := B2) rfl (ite (λ(h5 : 0 <= num) => ?_) (λ(h5 : ¬ 0 <= num) => no _ stp λe => by have := e.2.2.1.1; dsimp only at this; omega))
        refine rld (B := B2) rfl (ite (λ(h6 : num <= 400) => ?_) (λ(h6 : ¬ num <= 400) => no _ stp λe => by have := e.2.2.1.2; dsimp only at this; omega))
        refine rld (B := B2) rfl (ite (λ(h7 : (sn : Int) <= 100) => ?_) (λ(h7 : ¬ (sn : Int) <= 100) => no _ stp λe => by have := e.2.2.2.1; omega))
        have go : (l = [] \/ num = 0) -> ∀ {u : World} {v : Value}, Tells (∃ y ∈ l, ¬ HitOk y) v -> ∃ b : Bool, v = .bool b /\ Tells (RepOk ⟨id, code, true, num, sa, sn, sc⟩ l) (.bool (!b)) := by
          rintro ho u v (⟨rfl, y, hy1, hy2⟩ | ⟨rfl, hy⟩)
          · exact ⟨true, rfl, .f λe => hy2 (e.2.2.2.2.2.2.2 y hy1)⟩
          · exact ⟨false, rfl, .t ⟨base.1, base.2, ⟨h5, h6⟩, by omega, λh => absurd hc0 h, (λh => nomatch h), ho, λy hy' => Classical.not_not.1 λh => hy ⟨y, hy', h⟩⟩⟩
        refine rld (B := B2) rfl (ite (λ(h8 : num = 0) => ?_) (λ(h8 : ¬ num = 0) => ?_))
        · refine rld (B := B2) rfl (rcall (zA4 (h.up (w' := w3)) hn) ?_)
          rintro v u4 ⟨hv, e4⟩
          have q_ := go (.inr h8) (u := u4) hv
          obtain ⟨b, rfl, hT⟩ := q_
          exact ⟨hT, stp⟩
        · refine rld (B := B2) rfl ?_
          refine ite (λ(h9 : (sn : Int) = 0) => ?_) (λ(h9 : ¬ (sn : Int) = 0) => no _ stp λe => by
            have q_ := e.2.2.2.2.2.2.1
            rcases q_ with h' | h'
            · rw [h'] at hlen; simp at hlen; omega
            · exact h8 h')
          refine rld (B := B2) rfl (rcall (zA4 (h.up (w' := w3)) hn) ?_)
          rintro v u4 ⟨hv, e4⟩
          have q_ := go (.inl (l0 (by omega))) (u := u4) hv
          obtain ⟨b, rfl, hT⟩ := q_
          exact ⟨hT, stp⟩
def digs (n:Nat):List (Nat×Bool):=if h:n<128 then [(n,false)] else (n % 128,true)::digs (n / 128)
termination_by n
decreasing_by omega
theorem zHe(h:n<128):digs n=[(n,false)]:=by rw [digs,dif_pos h]
theorem zHd(h:¬n<128):digs n=(n % 128,true)::digs (n / 128):=by rw [digs,dif_neg h]
def dgV (p:Nat×Bool):List Value:=[.int .i64 (p.1:Int),.bool p.2]
def dgB (p:Nat×Bool):UInt8:=UInt8.ofNat (if p.2 then p.1+128 else p.1)
theorem zHG(n:Nat):(digs n).map dgB=numB n:=by
 induction n using Nat.strongRecOn with
 |ind n ih =>
  by_cases h:n<128
  ·rw [zHe h,numB_lt h];rfl
  ·rw [zHd h,zBZ h,List.map_cons,ih (n / 128) (by omega)]
   congr 1
   show UInt8.ofNat (n % 128+128)=_
   rw [Nat.add_comm]
theorem zLn(n:Nat):∀p∈digs n,p.1<128:=by
 induction n using Nat.strongRecOn with
 |ind n ih =>
  by_cases h:n<128
  ·rw [zHe h];intro p hp;simp at hp;subst hp;exact h
  ·rw [zHd h];intro p hp
   have q_:=List.mem_cons.1 hp
   rcases q_ with rfl|hp
   ·show n % 128<128;omega
   ·exact ih (n / 128) (by omega) p hp
theorem zMO(h:n<=2147483647):(digs n).length<=5:=by
 have:=zD5 h
 rw [<-zHG,List.length_map] at this
 exact this
abbrev DgQ (b:Nat) (u u':World):Prop:=Fr (λi=>i=b) u u'/\∃x,Bk u b [.int .i64 x] E.qa
abbrev DgR (b:Nat) (u u':World):Prop:=∀x,Bk u b [.int .i64 x] E.qa->Bk u' b [.int .i64 x] E.qa
theorem zLm{b:Nat}(hn:n<=2147483647):SeqG PP F.q2 [] [.pointer (some ⟨b,0,none⟩)] (DgQ b) (DgR b) (λu=>Bk u b [.int .i64 (n:Int)] E.qa)
  (λys x _=>∃rest,ys++x::rest=(digs n).map dgV) (λys=>ys=(digs n).map dgV):=by
 refine⟨λy J Jx w hJ hJx hY h0 B0=>?_⟩
 refine en TBok rfl ?_
 refine loop0 TBok 4 [2,3] (λu=>∃ys m:_,ys++(digs m).map dgV=(digs n).map dgV/\J ys u/\Bk u b [.int .i64 ((m:Nat):Int)] E.qa/\m<=2147483647) (cellN b) rfl ⟨[],n,rfl,h0,B0,hn⟩ ?_
 rintro g u ⟨ys,m,hys,hj,B,hm⟩
 refine rld (B:=B) rfl (rremE (z:=((m % 128:Nat):Int)) (by omega) (by omega) (by omega) ?_)
 refine rld (B:=B) rfl (rdivE (q:=((m / 128:Nat):Int)) (by omega) (by rw [Int.tdiv_eq_ediv_of_nonneg (by omega)];omega) (by omega) ?_)
 refine rsto (B:=B) (vs:=[.int .i64 _]) rfl rfl rfl (zAf _) λu1 B1 f1 _=>rld (B:=B1) rfl ?_
 have hj1:=hJ _ _ _ hj ⟨f1,_,B⟩
 refine ite (λhgt=>?_) (λhle=>?_)
 ·have hd:=zHd (n:=m) (by omega)
  refine ryield (vs:=dgV (m % 128,true)) rfl rfl rfl rfl (hY ys u1 _ ⟨(digs (m / 128)).map dgV,by rw [<-hys,hd];rfl⟩ hj1) ?_
  rintro bb u2 ⟨⟨rfl,hj2⟩|⟨rfl,hx⟩,hR⟩
  ·have B2:=hR _ B1
   refine rld (B:=B2) rfl (iF (by omega) ?_)
   refine⟨⟨ys++[dgV (m % 128,true)],m / 128,by rw [List.append_assoc,<-hys,hd];rfl,hj2,B2,by omega⟩,?_⟩
   rw [zIQ B2,zIQ B]
   omega
  ·exact .inr hx
 ·have hd:=zHe (n:=m) (by omega)
  have hm1:m % 128=m:=by omega
  refine ryield (vs:=dgV (m,false)) rfl rfl rfl (by rw [<-hm1];exact congrArg (λq:Nat=>[Value.int .i64 (q:Int),.bool false]) (by omega)) (hY ys u1 _ ⟨[],by rw [<-hys,hd];rfl⟩ hj1) ?_
  rintro bb u2 ⟨⟨rfl,hj2⟩|⟨rfl,hx⟩,hR⟩
  ·have B2:=hR _ B1
   refine rld (B:=B2) rfl (iT (by omega) (.inl ⟨_,?_,hj2⟩))
   rw [<-hys,hd];rfl
  ·exact .inr hx
theorem zHA{n:Int}:Sp PP F.ct #[.int .i64 n] w λv w'=>(∃b,v=.func (.func F.q2) #[] #[.pointer (some ⟨b,0,none⟩)]/\w.heap.size<=b/\Bk w' b [.int .i64 n] E.qa)/\Stp w w':=by
 refine en TBok rfl ?_
 refine rbx λb1 w1 n1 B1=>?_
 exact⟨⟨b1,rfl,n1.lo,B1⟩,stp⟩
theorem zHz{n : Int} : Sp PP F.y8 #[.int .i64 n] w λv w' => v = numV n /\ Stp w w' := by
  have no : ¬ (0 <= n /\ n <= 2147483647) -> numV n = .tuple #[txt [], .int .i64 1] := λh => if_neg h
  refine en TBok rfl ?_
  refine ite (λh => ⟨(no (by omega)).symm, stp⟩) (λh1 => ?_)
  refine ite (λh => ⟨(no (by omega)).symm, stp⟩) (λh2 => ?_)
  have ok : numV n = .tuple #[txt (numB n.toNat), .int .i64 0] := if_pos (by omega)
  clear no
  have q_ : ∃ N : Nat, n = (N : Int) := ⟨n.toNat, by omega⟩
  obtain ⟨N, rfl⟩ := q_
  rw [Int.toNat_natCast] at ok
  have hN : N <= 2147483647 := by omega
  have hl5 := zMO hN
  refine ral λb4 w1 n1 B4 => (rcall (zHA (n := (N : Int))) ?_)
  rintro v w2 ⟨⟨bd, rfl, hbd, Bd⟩, e2⟩
  have C4 := B4.mv (w := w2)
  have hb4 := n1.b; have hs4 := n1.s
  have z2 := Le.size (a := w) (b := w2)
  refine rrangeG TBok rfl (gf := F.q2) (first := []) (cap := [.pointer (some ⟨bd, 0, none⟩)]) (Rc := λc u => (∃ D, Fr D c u) /\ DgR bd c u) rfl rfl (zLm (b := bd) hN)
    (by rintro ys x _ ⟨rest, h⟩
        have : x ∈ (digs N).map dgV := by rw [<- h]; simp
        have q_ := List.mem_map.1 this
        obtain ⟨p, _, rfl⟩ := q_
        rfl) (λu u' h => ⟨_, h.1⟩)
    (λys u => ∃ k, ys = ((digs N).take k).map dgV /\ k <= (digs N).length /\ ∃ oa on oc, Bk u b4 [.slice oa on oc] E.yr /\ Own w.heap.size E.yi u (.slice oa on oc) (((digs N).take k).map dgB) /\ Stp w u) (λ_ _ => False)
    ?_ ?_ ?_ ?_ ?_ (λc u h => h.1) (λw' e => by have := Bd.fr e id; exact this) ⟨0, rfl, by omega, none, 0, 0, C4, Own.nil _ _ _, stp⟩ ?_ ?_ ?_
  · rintro ys u u' ⟨k, h1, h2, oa, on, oc, h3, h4, h5⟩ q; exact ⟨k, h1, h2, oa, on, oc, h3.qt q, h4.qt q, h5.qt (q.mono z2)⟩
  · rintro _ u u' h; exact h.elim
  · rintro ys u u' _ ⟨k, h1, h2, oa, on, oc, h3, h4, h5⟩ ⟨q, x, Bx⟩
    exact ⟨k, h1, h2, oa, on, oc, h3.fr q (by omega), h4.frc q Bx (by decide), ⟨Fr.st h5.e q λi hi => by subst hi; exact Nat.le_trans (by omega) hbd⟩⟩
  · rintro _ u u' _ h; exact h.elim
  · rintro u c u2 u3 q1 ⟨_, r⟩ q2 x B; exact (r x (B.qt q1)).qt q2
  · rintro ys x u ⟨rest, hr⟩ _ ⟨k, h1, h2, oa, on, oc, h3, h4, h5⟩
    have hk : k < (digs N).length := by
      have q_ := Nat.lt_or_ge k (digs N).length
      rcases q_ with h | h
      · exact h
      · exfalso
        have := congrArg List.length hr
        rw [h1] at this
        simp at this; omega
    have hx : x = dgV (digs N)[k] := by
      have hyl : ys.length = k := by rw [h1, List.length_map, List.length_take]; omega
      have e1 : (((digs N).map dgV))[k]? = some x := by rw [<- hr, <- hyl, List.getElem?_append_right (Nat.le_refl _)]; simp
      rw [List.getElem?_map, List.getElem?_eq_getElem hk] at e1
      exact (Option.some.inj e1).symm
    have ht := zAa hk
    have hsm := zLn N _ (List.getElem_mem hk)
    have q_ : ∃ p, p = (digs N)[k] := ⟨_, rfl⟩
    obtain ⟨⟨d, m⟩, hdm⟩ := q_
    rw [<- hdm] at hx ht hsm
    subst hx
    refine ⟨Fr.refl _ _, λu1 q => ?_⟩
    have h3 := h3.qt q; have h4 := h4.qt q; have h5 := h5.qt (q.mono z2)
    have hlen : (((digs N).take k).map dgB).length <= 5 := by rw [List.length_map, List.length_take]; omega
    have hys : ys ++ [dgV (d, m)] = ((digs N).take (k + 1)).map dgV := by rw [h1, ht]; simp
    have hbs : ((digs N).take k).map dgB ++ [dgB (d, m)] = ((digs N).take (k + 1)).map dgB := by rw [ht]; simp
    cases m
    case' false =>
      refine rld (B := h3) rfl (rconvE (z := ((dgB (d, false)).toNat : Int)) (zLf (x := d) (by dsimp only at hsm; omega)) (rbs1 (dgB (d, false)) rfl rfl (by decide) λb6 w6 e6 _ S6 => ?_))
    case' true =>
      refine rarE (y := ((d + 128 : Nat) : Int)) (by omega) (by dsimp only at hsm; omega) (rld (B := h3) rfl (rconvE (z := ((dgB (d, true)).toNat : Int)) (zLf (x := d + 128) (by dsimp only at hsm; omega)) (rbs1 (dgB (d, true)) rfl rfl (by decide) λb6 w6 e6 _ S6 => ?_)))
    all_goals
      refine rapp1 (u := w) ⟨rfl, rfl⟩ (h4.up (w' := w6)) S6 (by omega) λv7 w7 O7 f7 s7 => ?_
      have r1 := (h3.mv (w := w6)).fro (h4.up (w' := w6)) f7 (by decide)
      rw [hbs] at O7
      have q7 := O7.shape
      obtain ⟨a7, c7, rfl⟩ := q7
      refine rsto (B := r1) (vs := [.slice a7 _ c7]) rfl rfl rfl (by simp; rfl) λw8 B8 f8 _ => ?_
      have s8 : Stp w w8 := ⟨Fr.st Le.e f8 λi hi => by subst hi; exact n1.lo⟩
      refine ⟨⟨k + 1, hys, hk, a7, _, c7, B8, O7.frc f8 r1 (by decide), s8⟩, ⟨λi => w.heap.size <= i, ((Fr.fr e6.e).trans s7.e).trans (f8.mono λi _ hi => by subst hi; exact n1.lo)⟩, λx Bx => ?_⟩
      have k1 := (Bx.mv (w := w6)).fro (h4.up (w' := w6)) f7 (by decide)
      exact k1.fr f8 (by omega)
  · rintro ys D u hE ⟨k, h1, h2, oa, on, oc, h3, h4, h5⟩ hD hd
    have hk : k = (digs N).length := by
      have := congrArg List.length (h1.symm.trans hE)
      simp at this; omega
    subst hk
    rw [List.take_of_length_le (Nat.le_refl _), zHG] at h4
    refine rld (B := h3) rfl (rbstr h4.sl ?_)
    refine leave1 hd λu' q => ?_
    exact ⟨ok.symm, h5.qt (q _ (by omega))⟩
  · rintro c D u h; exact h.elim
end Go.W
namespace Go.Proofs
open Go.Shelf
def Tryz.bld_ren:Go.Shelf.Ren:=⟨fun|166=>222|240=>275|276=>311|169=>142|n=>n,fun|0=>0|3=>3|4=>4|5=>5|9=>9|20=>20|37=>263|70=>262|72=>265|75=>351|80=>108|127=>354|164=>454|n=>n,fun|n=>n⟩
theorem Tryz.bldW:Go.Proofs.Lays.n166 Tryz.prog Tryz.bld_ren:={
 mixed:=by kernel_rfl
 f166:=W.ff Tryz.func222
 f240:=W.ff Tryz.func275
 f276:=W.ff Tryz.func311
 t0:=Tryz.underlying0
 a0:=Tryz.isAgg0
 z0:=Tryz.sizeOf0
 v0:=Tryz.zeroValue0
 t3:=Tryz.underlying3
 a3:=Tryz.isAgg3
 z3:=Tryz.sizeOf3
 v3:=Tryz.zeroValue3
 t4:=Tryz.underlying4
 a4:=Tryz.isAgg4
 z4:=Tryz.sizeOf4
 v4:=Tryz.zeroValue4
 t9:=Tryz.underlying9
 a9:=Tryz.isAgg9
 z9:=Tryz.sizeOf9
 v9:=Tryz.zeroValue9
 t20:=Tryz.underlying20
 a20:=Tryz.isAgg20
 z20:=Tryz.sizeOf20
 v20:=Tryz.zeroValue20
 t37:=Tryz.underlying263
 a37:=Tryz.isAgg263
 z37:=Tryz.sizeOf263
 v37:=Tryz.zeroValue263
 t70:=Tryz.underlying262
 a70:=Tryz.isAgg262
 z70:=Tryz.sizeOf262
 v70:=Tryz.zeroValue262
 t72:=Tryz.underlying265
 a72:=Tryz.isAgg265
 z72:=Tryz.sizeOf265
 v72:=Tryz.zeroValue265
 t75:=Tryz.underlying351
 a75:=Tryz.isAgg351
 z75:=Tryz.sizeOf351
 v75:=Tryz.zeroValue351
 t164:=Tryz.underlying454
 a164:=Tryz.isAgg454
 z164:=Tryz.sizeOf454
 v164:=Tryz.zeroValue454 }
theorem Tryz.bldS:Go.Proofs.Lays.n169 Tryz.prog Tryz.bld_ren:={
 mixed:=by kernel_rfl
 f169:=W.ff Tryz.func142
 t0:=Tryz.underlying0
 a0:=Tryz.isAgg0
 z0:=Tryz.sizeOf0
 v0:=Tryz.zeroValue0
 t3:=Tryz.underlying3
 a3:=Tryz.isAgg3
 z3:=Tryz.sizeOf3
 v3:=Tryz.zeroValue3
 t9:=Tryz.underlying9
 a9:=Tryz.isAgg9
 z9:=Tryz.sizeOf9
 v9:=Tryz.zeroValue9
 t37:=Tryz.underlying263
 a37:=Tryz.isAgg263
 z37:=Tryz.sizeOf263
 v37:=Tryz.zeroValue263
 t70:=Tryz.underlying262
 a70:=Tryz.isAgg262
 z70:=Tryz.sizeOf262
 v70:=Tryz.zeroValue262
 t72:=Tryz.underlying265
 a72:=Tryz.isAgg265
 z72:=Tryz.sizeOf265
 v72:=Tryz.zeroValue265
 t127:=Tryz.underlying354
 a127:=Tryz.isAgg354
 z127:=Tryz.sizeOf354
 v127:=Tryz.zeroValue354 }
theorem Tryz.bldX:Builder.Extra Tryz.prog Tryz.bld_ren:={
 sizeBuilder:=by kernel_rfl
 liesBuilder:=by kernel_rfl
 t5:=Tryz.underlying5
 a5:=Tryz.isAgg5
 z5:=Tryz.sizeOf5
 v5:=Tryz.zeroValue5
 infoByte:=by kernel_rfl
 cellsByte:=by kernel_rfl
 sizeByte:=by kernel_rfl
 neB5:=by decide }
end Go.Proofs
namespace Go.W
open Go Go.Proofs
open Enc (enc)
set_option maxRecDepth 10000
variable {B N i j k m n n2 n3:Nat} {P:Program} {a a2 a3:Option Addr} {g:GrD} {ps:List Int} {q:QyD} {s:List UInt8} {u u' w w':World}
theorem SlY.frB{α:Type}[Enc α]{e T:TypeId}{b:Nat}{es:List TypeId}{v:Value}{l:List α}(h:SlY e w v l)(f:FrX (λi=>i=b) B es w w')(hb:∃c z,w.heap[b]? = some (.cells c T z))(hT:T≠e)(he:e∉es):SlY e w' v l:=
 h.fr f (by
  rintro g cs z hg hc (rfl|hD)
  ·obtain⟨c,z',h'⟩:=hb
   rw [h'] at hc;cases hc;exact hT rfl
  ·exact he (hD.cells hc))
abbrev BldR (B b:Nat) (l:List UInt8) (w:World):Prop:=BldB E.yq E.yi B b l w
abbrev BldF (B b:Nat) (w w':World):Prop:=FrX (λi=>i=b) B [E.yi] w w'
theorem zFX{b:Nat}{l m:List UInt8}(h:BldR B b l w)(hB:B<=w.heap.size)(hlen:l.length+m.length<=140737488355328):
  Sp PP F.qj #[.pointer (some ⟨b,0,none⟩),txt m] w λv w'=>v=.tuple #[.int .i64 m.length,.nilIface]/\BldR B b (l++m) w'/\BldF B b w w':=
 zLQ (f:=F.qj) Tryz.bldW Tryz.bldX rfl rfl rfl (FnAt.can (f:=F.qj) inferInstance) h hB hlen
theorem zCk{b:Nat}{l:List UInt8}(h:BldR B b l w)(hB:B<=w.heap.size):
  Sp PP F.qm #[.pointer (some ⟨b,0,none⟩)] w λv w'=>v=txt l/\BldR B b l w'/\BldF B b w w':=
 zLi (f:=F.qm) Tryz.bldS Tryz.bldX rfl rfl rfl (FnAt.can (f:=F.qm) inferInstance) h hB
theorem zID{n:Int}:Sp PP F.y8 #[.int .i64 n] w λv w'=>(∃e:Int,v=.tuple #[txt (if 0<=n/\n<=2147483647 then numB n.toNat else []),.int .i64 e])/\Stp w w':=
 zHz.mono λ_ _ h1=>⟨by
  rw [h1.1];unfold numV
  split
  ·exact⟨0,rfl⟩
  ·exact⟨1,rfl⟩,h1.2⟩
theorem zCH{b:Nat}{bs:List UInt8}{c:Nat}{l:List Int}(hb:BldR B b bs w)(h:SlY E.qa w (.slice a n c) l)(hB:B<=w.heap.size)(hn:l.length<=1000000)(hl:bs.length<=1000000000):
  Sp PP F.qar #[.pointer (some ⟨b,0,none⟩),.slice a n c] w λv w'=>v=.tuple #[]/\BldR B b (bs++numsB l) w'/\BldF B b w w':=by
 have q_:=h.len
 obtain rfl:=q_
 refine en TBok rfl ?_
 refine cnt TBok 11 [4,5,6,7] 10 l.length (λk u=>BldR B b (bs++numsB (l.take k)) u/\BldF B b w u) rfl rfl ⟨by simpa [numsB] using hb,FrX.refl _ _ _ _⟩ ?_
 rintro k g u hk ⟨hu,fu⟩
 refine ite (λhlt=>?_) (λhge=>?_)
 ·have hka:k<l.length:=by omega
  have hs:=zLB hka
  have h1:=zA0 (l.take (k+1))
  rw [List.length_take,hs,List.length_append] at h1
  have hz:=h.frB fu hb.obj (by decide) (by decide)
  refine rix hz.sl (x:=l[k]) (by simp) λb4 o4 A4=>rload1 (A4.cell0 rfl) (rcall (zID (n:=l[k])) ?_)
  rintro _ u1 ⟨⟨e9,rfl⟩,e1⟩
  refine rcall (zFX (hu.up (w':=u1)) (Nat.le_trans hB (Nat.le_trans fu.size e1.e.size)) (by rw [List.length_append];omega)) ?_
  rintro _ u2 ⟨rfl,h2,f2⟩
  rw [List.append_assoc,<-hs] at h2
  refine rA ⟨rfl,hka,h2,(fu.trans (FrX.ext e1.e)).trans f2⟩
 ·have q_:k=l.length:=by omega
  obtain rfl:=q_
  rw [List.take_of_length_le (Nat.le_refl _)] at hu
  exact⟨rfl,hu,fu⟩
theorem SlY.of_new{α:Type}[Enc α]{e:TypeId}{b:Nat}{cs:Array Value}{xs:List α}(h:SlF w' (.slice (some ⟨b,0,none⟩) n n) xs)(N:New w w' b cs e):SlY e w' (.slice (some ⟨b,0,none⟩) n n) xs:=⟨h,.inr ⟨b,_,_,rfl,N.blk⟩⟩
theorem zCm{x:RepD}{l:List HitD}(h:SlF w (.slice x.a.s.a x.a.s.n x.a.s.c) l)(hn:l.length<=1000000):
  Sp PP F.dg #[agg x] w λv w'=>((RepOk x l/\v=.tuple #[txt (encR x l),.int .i64 0])\/(¬RepOk x l/\v=.tuple #[txt [],.int .i64 1]))/\Stp w w':=by
 obtain⟨id,code,fd,num,sa,sn,sc⟩:=x
 have hlen:sn=l.length:=h.len
 refine en TBok rfl ?_
 refine rbx λb1 w1 n1 B1=>rldG (ds:=enc (⟨id,code,fd,num,sa,sn,sc⟩:RepD)) (B:=B1) rfl rfl (rcall (zBT (x:=⟨id,code,fd,num,sa,sn,sc⟩) (h.up (w':=w1)) hn) ?_)
 rintro v w2 ⟨⟨rfl,hok⟩|⟨rfl,hok⟩,e2⟩
 case' inr=>exact⟨.inr ⟨hok,rfl⟩,stp⟩
 have z2:=Le.size (a:=w) (b:=w2)
 refine ral λb4 w3 n3 B3=>?_
 have hb1:=n1.b;have hs1:=n1.s;have hb4:=n3.b;have hs4:=n3.s;have z12:=Le.size (a:=w1) (b:=w2)
 have hBb:w.heap.size<=b4:=by omega
 have L0:BldR w.heap.size b4 [] w3:=zNO hBb B3
 clear B3
 refine rld (B:=B1) rfl (rld (B:=B1) rfl (rbs (α:=Int) [id,code] rfl (vs:=[.int .i64 id,.int .i64 code]) rfl rfl (by decide) λb5 w5 n5 S5=>?_))
 have s5:Stp w3 w5:=⟨n5.ext⟩
 have z5:=Le.size (a:=w) (b:=w5)
 refine rcall (zCH (L0.up (w':=w5)) (SlY.of_new S5 n5) z5 (by simp) (by simp)) ?_
 rintro _ w6 ⟨rfl,L6,f6⟩
 rw [List.nil_append] at L6
 have s6:Stp w w6:=⟨FrX.st Le.e f6 (Nat.le_refl _) λi hi=>by omega⟩
 have z6:=s6.e.size
 have C1:=(B1.mv (w:=w5)).keptX f6 (by omega) (by decide)
 refine rld (B:=C1) rfl ?_
 have q1:=zA0 [id,code]
 simp only [List.length_cons,List.length_nil] at q1
 refine ite (λhc=>?_) (λhc=>?_)
 ·have hv:Value.tuple #[txt (numsB [id,code]),.int .i64 0]=.tuple #[txt (encR ⟨id,code,fd,num,sa,sn,sc⟩ l),.int .i64 0]:=by
   unfold encR;rw [if_pos hc,List.append_nil]
  refine rcall (zCk L6 z6) ?_
  rintro _ w7 ⟨rfl,L7,f7⟩
  exact⟨.inl ⟨hok,hv⟩,⟨FrX.st s6.e f7 (Nat.le_refl _) λi hi=>by omega⟩⟩
 refine rld (B:=C1) rfl ?_
 cases fd
 case' false =>
  refine rld (B:=C1) rfl (rld (B:=C1) rfl (rbs (α:=Int) [0,num,(sn:Int)] rfl (vs:=[.int .i64 0,.int .i64 num,.int .i64 (sn:Int)]) rfl rfl (by decide) λb8 w8 n8 S8=>?_))
  have q2:=zA0 [0,num,(sn:Int)]
  have hfin:numsB [id,code]++numsB [0,num,(sn:Int)]++hitsB l=encR ⟨id,code,false,num,sa,sn,sc⟩ l:=by
   unfold encR
   rw [if_neg hc,hlen,List.append_assoc];rfl
 case' true =>
  refine rld (B:=C1) rfl (rld (B:=C1) rfl (rbs (α:=Int) [1,num,(sn:Int)] rfl (vs:=[.int .i64 1,.int .i64 num,.int .i64 (sn:Int)]) rfl rfl (by decide) λb8 w8 n8 S8=>?_))
  have q2:=zA0 [1,num,(sn:Int)]
  have hfin:numsB [id,code]++numsB [1,num,(sn:Int)]++hitsB l=encR ⟨id,code,true,num,sa,sn,sc⟩ l:=by
   unfold encR
   rw [if_neg hc,hlen,List.append_assoc];rfl
 all_goals
  have s8:Stp w6 w8:=⟨n8.ext⟩
  have z8:=Le.size (a:=w) (b:=w8)
  simp only [List.length_cons,List.length_nil] at q2
  refine rcall (zCH (L6.up (w':=w8)) (SlY.of_new S8 n8) z8 (by simp) (by omega)) ?_
  rintro _ w9 ⟨rfl,L9,f9⟩
  have s9:Stp w w9:=⟨FrX.st Le.e f9 (Nat.le_refl _) λi hi=>by omega⟩
  have z9:=s9.e.size
  have C9:=(C1.mv (w:=w8)).keptX f9 (by omega) (by decide)
  refine rld (B:=C9) rfl (cnt TBok 39 [7] 38 l.length (λk u=>BldR w.heap.size b4 (numsB [id,code]++numsB _++hitsB (l.take k)) u/\Stp w u) rfl rfl ⟨by simpa [hitsB] using L9,s9⟩ ?_)
  rintro k g u hk ⟨hu,eu⟩
  refine ite (λhlt=>?_) (λhge=>?_)
  ·have hka:k<l.length:=by have hlt':(k:Int)<(sn:Int):=hlt;omega
   have q_:∃y,l[k]? = some y:=⟨_,List.getElem?_eq_getElem hka⟩
   obtain⟨y,hy⟩:=q_
   refine rix (h.up (w':=u)) (x:=y) hy λb7 o7 A7=>rloadA A7 rfl (ral λb10 w10 n10 z10=>rsto (B:=z10) (vs:=enc y) rfl rfl rfl (Enc.one _) λw11 B11 f11 _=>?_)
   have s11:Stp u w11:=⟨Fr.st Le.e f11 λi hi=>by subst hi;exact n10.lo⟩
   have BH:Bk w11 b10 [.int .i64 y.v,.int .i64 y.d] E.qe:=B11
   clear B11 z10 f11
   refine rld (B:=BH) rfl (rld (B:=BH) rfl (rbs (α:=Int) [y.v,y.d] rfl (vs:=[.int .i64 y.v,.int .i64 y.d]) rfl rfl (by decide) λb12 w12 n12 S12=>?_))
   have s12:Stp w11 w12:=⟨n12.ext⟩
   have q3:=zA0 [y.v,y.d]
   have q4:=zHS (l.take k)
   simp only [List.length_cons,List.length_nil,List.length_take] at q3 q4
   refine rcall (zCH (hu.up (w':=w12)) (SlY.of_new S12 n12) (Le.size (a:=w) (b:=w12)) (by simp) (by rw [List.length_append,List.length_append];omega)) ?_
   rintro _ w13 ⟨rfl,L13,f13⟩
   rw [List.append_assoc,<-zLv hy] at L13
   refine rA ⟨rfl,hka,L13,⟨FrX.st Le.e f13 (Nat.le_refl _) λi hi=>by omega⟩⟩
  ·have hge':¬(k:Int)<(sn:Int):=hge
   have q_:k=l.length:=by omega
   obtain rfl:=q_
   rw [List.take_of_length_le (Nat.le_refl _),hfin] at hu
   refine rcall (zCk hu eu.e.size) ?_
   rintro _ w14 ⟨rfl,L14,f14⟩
   exact⟨.inl ⟨hok,rfl⟩,⟨FrX.st eu.e f14 (Nat.le_refl _) λi hi=>by omega⟩⟩
theorem zD9{p r:List UInt8}:RdAt (p++r) p.length n↔n<=2147483647/\∃t,r=numB n++t:=by
 unfold RdAt;rw [List.drop_left]
abbrev RdrB (w:World) (b:Nat) (p r:List UInt8):Prop:=Bk w b [txt (p++r),.int .i64 (p.length:Nat)] E.qv
theorem RdrB.next{b:Nat}{p r t:List UInt8}(e:r=numB n++t)(h:Bk w b [txt (p++r),.int .i64 ((p.length+(numB n).length:Nat):Int)] E.qv):RdrB w b (p++numB n) t:=by
 unfold RdrB
 rw [List.length_append,List.append_assoc,<-e]
 exact h
theorem zBj{p r:List UInt8}{b:Nat}(B:RdrB w b p r)(hs:p.length+r.length<=4611686018427387904):
  SpP PP F.qq #[.pointer (some ⟨b,0,none⟩)] w (λv w'=>∃(n:Nat) (t:List UInt8),n<=2147483647/\r=numB n++t/\v=.int .i64 (n:Int)/\RdrB w' b (p++numB n) t/\Fr (λi=>i=b) w w')
   (λc w'=>c=PanF/\(∀(n:Nat) (t:List UInt8),n<=2147483647->r≠numB n++t)/\Fr (λi=>i=b) w w'):=
 (zAT B (by rw [List.length_append];exact hs)).mono
  (λv w' ⟨n,hr,hv,hB,hf⟩=>by
   have q_:=zD9.1 hr
   obtain⟨h1,t,ht⟩:=q_
   exact⟨n,t,h1,ht,hv,RdrB.next ht hB,hf⟩)
  (λc w' ⟨hc,hno,hf⟩=>⟨hc,λn t h1 ht=>hno n (zD9.2 ⟨h1,t,ht⟩),hf⟩)
theorem zEb{p r:List UInt8}{b:Nat}(B:RdrB w b p r)(hs:p.length+r.length<=4611686018427387904)(hm:m<=2147483647):
  SpP PP F.qw #[.pointer (some ⟨b,0,none⟩),.int .i64 (m:Int)] w (λv w'=>∃(n:Nat) (t:List UInt8),n<=m/\r=numB n++t/\v=.int .i64 (n:Int)/\RdrB w' b (p++numB n) t/\Fr (λi=>i=b) w w')
   (λc w'=>c=PanF/\(∀(n:Nat) (t:List UInt8),n<=m->r≠numB n++t)/\Fr (λi=>i=b) w w'):=
 (zDW B (by rw [List.length_append];exact hs)).mono
  (λv w' ⟨n,hr,hn,hv,hB,hf⟩=>by
   have q_:=zD9.1 hr
   obtain⟨h1,t,ht⟩:=q_
   exact⟨n,t,hn,ht,hv,RdrB.next ht hB,hf⟩)
  (λc w' ⟨hc,hno,hf⟩=>⟨hc,λn t h1 ht=>hno n (zD9.2 ⟨by omega,t,ht⟩) h1,hf⟩)
theorem zA1{a:Int}{r:List Int}(h:0<=a/\a<=2147483647):numsB (a::r)=numB a.toNat++numsB r:=by simp [numsB,h]
theorem zE0:numsB []=[]:=rfl
def rest2 (x:RepD) (l:List HitD):List UInt8:=if x.code≠0 then [] else numB (if x.a.found then 1 else 0)++(numB x.a.num.toNat++(numB l.length++hitsB l))
theorem zBC{x:RepD}{l:List HitD}(h:RepOk x l):encR x l=numB x.id.toNat++(numB x.code.toNat++rest2 x l):=by
 unfold encR rest2
 have h1:=h.1;have h2:=h.2.1;have h3:=h.2.2.1;have h4:=h.2.2.2.1
 rw [zA1 h1,zA1 ⟨h2.1,by omega⟩,zE0,List.append_nil]
 split
 ·simp
 ·rw [zA1 (by split <;> omega),zA1 ⟨h3.1,by omega⟩,zA1 (by omega),zE0]
  have:(if x.a.found=true then (1:Int) else 0).toNat=if x.a.found=true then 1 else 0:=by split <;> rfl
  rw [this]
  simp
theorem zBK{y:HitD}{r:List HitD}(h:HitOk y):hitsB (y::r)=numB y.v.toNat++(numB y.d.toNat++hitsB r):=by
 obtain⟨h1,h2,h3,h4⟩:=h
 have:hitsB (y::r)=numsB [y.v,y.d]++hitsB r:=by simp [hitsB]
 rw [this,zA1 (by omega),zA1 (by omega),zE0]
 simp
theorem RepOk.congr{x y:RepD}{l:List HitD}(h:RepOk x l)(h1:x.id=y.id)(h2:x.code=y.code)(h3:x.a.found=y.a.found)(h4:x.a.num=y.a.num):RepOk y l:=by
 unfold RepOk at h ⊢;rw [<-h1,<-h2,<-h3,<-h4];exact h
def Kn (s:List UInt8) (k:RepD->List HitD->List UInt8->Prop):Prop:=∀x l t,RepOk x l->s=encR x l++t->k x l t
theorem kn1{r:List UInt8}(e:s=numB n++r):Kn s λx l t=>x.id.toNat=n/\r=numB x.code.toNat++(rest2 x l++t):=by
 intro x l t hok he
 rw [zBC hok,List.append_assoc,List.append_assoc,e] at he
 exact⟨(zAc he).1.symm,(zAc he).2⟩
theorem kn2{r r':List UInt8}(h:Kn s λx l t=>x.id.toNat=n/\r=numB x.code.toNat++(rest2 x l++t))(e:r=numB m++r'):Kn s λx l t=>x.id.toNat=n/\x.code.toNat=m/\r'=rest2 x l++t:=by
 intro x l t hok he
 have q_:=h x l t hok he
 obtain⟨h1,h2⟩:=q_
 rw [e] at h2
 exact⟨h1,(zAc h2).1.symm,(zAc h2).2⟩
theorem kn3{r:List UInt8}(h:Kn s λx l t=>x.id.toNat=n/\x.code.toNat=0/\r=rest2 x l++t):Kn s λx l t=>x.id.toNat=n/\x.code.toNat=0/\r=numB (if x.a.found then 1 else 0)++(numB x.a.num.toNat++(numB l.length++(hitsB l++t))):=by
 intro x l t hok he
 have q_:=h x l t hok he
 obtain⟨h1,h2,h3⟩:=q_
 refine⟨h1,h2,?_⟩
 have:x.code=0:=by have:=hok.2.1.1;omega
 rw [h3];unfold rest2
 rw [if_neg (by simp [this])]
 simp
theorem kn4{r r':List UInt8}(h:Kn s λx l t=>x.id.toNat=n/\x.code.toNat=0/\r=numB (if x.a.found then 1 else 0)++(numB x.a.num.toNat++(numB l.length++(hitsB l++t))))(e:r=numB m++r'):
  Kn s λx l t=>x.id.toNat=n/\x.code.toNat=0/\(if x.a.found then 1 else 0)=m/\r'=numB x.a.num.toNat++(numB l.length++(hitsB l++t)):=by
 intro x l t hok he
 have q_:=h x l t hok he
 obtain⟨h1,h2,h3⟩:=q_
 rw [e] at h3
 exact⟨h1,h2,(zAc h3).1.symm,(zAc h3).2⟩
theorem kn5{r r':List UInt8}{f:Nat}(h:Kn s λx l t=>x.id.toNat=n/\x.code.toNat=0/\(if x.a.found then 1 else 0)=f/\r=numB x.a.num.toNat++(numB l.length++(hitsB l++t)))(e:r=numB m++r'):
  Kn s λx l t=>x.id.toNat=n/\x.code.toNat=0/\(if x.a.found then 1 else 0)=f/\x.a.num.toNat=m/\r'=numB l.length++(hitsB l++t):=by
 intro x l t hok he
 have q_:=h x l t hok he
 obtain⟨h1,h2,h3,h4⟩:=q_
 rw [e] at h4
 exact⟨h1,h2,h3,(zAc h4).1.symm,(zAc h4).2⟩
abbrev KnH (s:List UInt8) (n f m N k:Nat) (hs:List HitD) (r:List UInt8):Prop:=
 Kn s λx l t=>x.id.toNat=n/\x.code.toNat=0/\(if x.a.found then 1 else 0)=f/\x.a.num.toNat=m/\l.length=N/\l.take k=hs/\r=hitsB (l.drop k)++t
theorem kn6{r r':List UInt8}{f:Nat}(h:Kn s λx l t=>x.id.toNat=n/\x.code.toNat=0/\(if x.a.found then 1 else 0)=f/\x.a.num.toNat=m/\r=numB l.length++(hitsB l++t))(e:r=numB N++r'):KnH s n f m N 0 [] r':=by
 intro x l t hok he
 have q_:=h x l t hok he
 obtain⟨h1,h2,h3,h4,h5⟩:=q_
 rw [e] at h5
 exact⟨h1,h2,h3,h4,(zAc h5).1.symm,rfl,(zAc h5).2⟩
theorem kn7{r:List UInt8}{f:Nat}{hs:List HitD}(h:KnH s n f m N k hs r)(hk:k<N):
  Kn s λx l t=>x.id.toNat=n/\x.code.toNat=0/\(if x.a.found then 1 else 0)=f/\x.a.num.toNat=m/\l.length=N/\l.take k=hs/\∃y,l[k]? = some y/\HitOk y/\r=numB y.v.toNat++(numB y.d.toNat++(hitsB (l.drop (k+1))++t)):=by
 intro x l t hok he
 have q_:=h x l t hok he
 obtain⟨h1,h2,h3,h4,h5,h6,h7⟩:=q_
 have hkl:k<l.length:=by omega
 refine⟨h1,h2,h3,h4,h5,h6,l[k],List.getElem?_eq_getElem hkl,hok.2.2.2.2.2.2.2 _ (List.getElem_mem hkl),?_⟩
 rw [h7,List.drop_eq_getElem_cons hkl,zBK (hok.2.2.2.2.2.2.2 _ (List.getElem_mem hkl))]
 simp
theorem kn8{r r1 r2:List UInt8}{f v d:Nat}{hs:List HitD}(h:KnH s n f m N k hs r)(hk:k<N)(e1:r=numB v++r1)(e2:r1=numB d++r2):KnH s n f m N (k+1) (hs++[⟨v,d⟩]) r2:=by
 intro x l t hok he
 have q_:=kn7 h hk x l t hok he
 obtain⟨h1,h2,h3,h4,h5,h6,y,hy,ho,h7⟩:=q_
 rw [e1] at h7
 have q_:=zAc h7
 obtain⟨e3,e4⟩:=q_
 rw [e2] at e4
 have q_:=zAc e4
 obtain⟨e5,e6⟩:=q_
 refine⟨h1,h2,h3,h4,h5,?_,e6⟩
 have hkl:k<l.length:=by omega
 rw [zAa hkl,h6]
 have:l[k]=y:=by rw [List.getElem?_eq_getElem hkl] at hy;exact Option.some.inj hy
 rw [this]
 congr 1
 obtain⟨g1,_,g2,_⟩:=ho
 congr 1
 cases y
 congr 1 <;> simp only at g1 g2 e3 e5 ⊢ <;> omega
theorem zOc(a b:Int)(c:Bool)(d:Int)(e:Option Addr)(n m:Nat):∀u∈[Value.int .i64 a,.int .i64 b,.bool c,.int .i64 d,.slice e n m],u.oneCell'=true:=by
 intro u hu;simp at hu;rcases hu with rfl|rfl|rfl|rfl|rfl <;> rfl
theorem sl1(e:Option Addr)(n m:Nat):∀u∈[Value.slice e n m],u.oneCell'=true:=by intro u hu;simp at hu;subst hu;rfl
abbrev PartOk (s:List UInt8) (b B:Nat) (w:World) (v:Value) (w':World):Prop:=
 ∃x l t,RepOk x l/\s=encR x l++t/\v=agg x/\RdrB w' b (encR x l) t/\Own B E.qe w' (.slice x.a.s.a x.a.s.n x.a.s.c) l/\Fr (λi=>i=b) w w'
abbrev PartNo (s:List UInt8) (b:Nat) (w:World) (c:List PanicEntry) (w':World):Prop:=c=PanF/\(∀x l t,RepOk x l->s≠encR x l++t)/\Fr (λi=>i=b) w w'
theorem zEC{b:Nat}(B:RdrB w b [] s)(hs:s.length<=1000000):
  SpP PP F.ya #[.pointer (some ⟨b,0,none⟩)] w (PartOk s b w.heap.size w) (PartNo s b w):=by
 have hb:b<w.heap.size:=Bk.lt B
 refine enP TBok rfl ?_
 refine ral λb2 w1 n1 z1=>?_
 have hb2:=n1.b;have hs2:=n1.s
 have B1:RdrB w1 b [] s:=B.mv
 refine rcallP (zBj B1 (by simp;omega)) ?_ ?_
 case' refine_2 =>
  rintro _ u ⟨rfl,hno,f⟩
  refine⟨rfl,λx l t hok he=>?_,(Fr.fr (Le.e (a:=w) (b:=w1))).trans f⟩
  rw [zBC hok,List.append_assoc] at he
  exact hno _ _ (by have:=hok.1;omega) he
 rintro _ w2 ⟨n0,r1,hn0,e0,rfl,B2,f2⟩
 have K1:=kn1 e0
 have F2:Fr (λi=>i=b) w w2:=(Fr.fr (Le.e (a:=w) (b:=w1))).trans f2
 have Z2:=z1.fr f2 (by omega)
 refine rbuild (cs:=[.int .i64 (n0:Int),.int .i64 0,.bool false,.int .i64 0,.slice none 0 0]) rfl (ral λb3 w3 n3 z3=>?_)
 have hb3:=n3.b;have hs3:=n3.s
 refine rsto (B:=z3) (vs:=[.int .i64 (n0:Int),.int .i64 0,.bool false,.int .i64 0,.slice none 0 0]) rfl rfl rfl (zOc _ _ _ _ _ _ _) λw4 B4 f4 _=>?_
 have s4:Stp w2 w4:=⟨Fr.st Le.e f4 λi hi=>by subst hi;exact n3.lo⟩
 have z24:=Le.size (a:=w2) (b:=w4)
 have z02:=F2.size
 have nb3:∀i,i=b3->w.heap.size<=i:=by omega
 have nb2:∀i,i=b2->w.heap.size<=i:=by omega
 have nbb3:¬b=b3:=by omega
 have nbb3':¬b3=b:=by omega
 have nb23:¬b2=b3:=by have:=f2.size;omega
 have R4:RdrB w4 b ([]++numB n0) r1:=B2.mv
 have Z4:=Z2.mv (w:=w4)
 have hl1:(([]:List UInt8)++numB n0).length+r1.length=s.length:=by rw [e0];simp
 refine rcallP (zEb (m:=1000) R4 (by omega) (by decide)) ?_ ?_
 case' refine_2 =>
  rintro _ u ⟨rfl,hno,f⟩
  refine⟨rfl,λx l t hok he=>?_,(F2.trans (Fr.fr (Le.e (a:=w2) (b:=w4)))).trans f⟩
  have:=hok.2.1
  exact hno _ _ (by omega) (K1 x l t hok he).2
 rintro _ w5 ⟨n1',r2,hn1,e1,rfl,B5,f5⟩
 have K2:=kn2 K1 e1
 have C5:=B4.fr f5 (by omega)
 have F5:=(F2.trans (Fr.fr (Le.e (a:=w2) (b:=w4)))).trans f5
 refine rsto (B:=C5) (vs:=[.int .i64 (n1':Int)]) rfl rfl rfl (zAf _) λw6 C6 f6 _=>?_
 have F6:Fr (λi=>i=b) w w6:=Fr.new F5 f6 nb3
 have B6:=Bk.fr B5 f6 nbb3
 have Z6:=(Z4.fr f5 (by omega)).fr f6 (by omega)
 refine rld (B:=C6) rfl (ite (λ(hc:(n1':Int)=0)=>?_) (λ(hc:¬(n1':Int)=0)=>?_))
 case' refine_2 =>
  refine rldG (ds:=enc (⟨n0,n1',false,0,none,0,0⟩:RepD)) (B:=C6) rfl rfl (rcall (zBT (x:=⟨n0,n1',false,0,none,0,0⟩) (l:=[]) (SlF.nil _) (by simp)) ?_)
  rintro v w7 ⟨⟨rfl,hok⟩|⟨rfl,hok⟩,e7⟩
  ·refine rcallP zAb ?_ ?_
   case' refine_2 =>
    rintro _ u ⟨h,_⟩;cases h
   rintro _ w8 ⟨_,rfl,rfl⟩
   have C8:=C6.mv (w:=w8);have Z8:=Z6.mv (w:=w8)
   refine rldG (ds:=enc (⟨n0,n1',false,0,none,0,0⟩:RepD)) (B:=C8) rfl rfl (rsto (B:=Z8) (vs:=enc (⟨n0,n1',false,0,none,0,0⟩:RepD)) rfl rfl rfl (Enc.one _) λw9 Z9 f9 _=>rresG rfl ?_)
   have he:encR ⟨n0,n1',false,0,none,0,0⟩ []=[]++numB n0++numB n1':=by
    rw [zBC hok]
    unfold rest2
    rw [if_pos hc]
    simp
   refine⟨⟨n0,n1',false,0,none,0,0⟩,[],r2,hok,by rw [he,e0,e1];simp,rfl,?_,Own.nil _ _ _,Fr.new (F6.trans (Fr.fr (Le.e (a:=w6) (b:=w8)))) f9 nb2⟩
   rw [he]
   exact(Bk.mv B6 (w:=w8)).fr f9 (by omega)
  ·refine rcallP zAb ?_ ?_
   ·rintro _ u ⟨h,_⟩;cases h
   rintro _ u ⟨_,rfl,rfl⟩
   refine⟨rfl,λx l t hx he=>hok ?_,F6.trans (Fr.fr (Le.e (a:=w6) (b:=u)))⟩
   have q_:=K2 x l t hx he
   obtain⟨g1,g2,_⟩:=q_
   have q1:=hx.1;have q2:=hx.2.1
   have q3:=hx.2.2.2.2.1 (by omega)
   rw [q3.2.2] at hx
   exact hx.congr (by show x.id=(n0:Int);omega) (by show x.code=(n1':Int);omega) q3.1 q3.2.1
 have hn1z:n1'=0:=by omega
 subst hn1z
 have K3:=kn3 K2
 have hl2:([]++numB n0++numB 0).length+r2.length=s.length:=by rw [e0,e1];simp;omega
 refine rcallP (zEb (m:=1) B6 (by omega) (by decide)) ?_ ?_
 case' refine_2 =>
  rintro _ u ⟨rfl,hno,f⟩
  refine⟨rfl,λx l t hok he=>?_,F6.trans f⟩
  exact hno _ _ (by split <;> omega) (K3 x l t hok he).2.2
 rintro _ w7 ⟨n2,r3,hn2,e2,rfl,B7,f7⟩
 have K4:=kn4 K3 e2
 have C7:=C6.fr f7 (by omega);have Z7:=Z6.fr f7 (by omega)
 have F7:=F6.trans f7
 refine ite (λ(hf:(n2:Int)=1)=>?pp) (λ(hf:¬(n2:Int)=1)=>?qq)
 case' pp =>
  obtain⟨fd,hfd,hfd2⟩:∃fd:Bool,fd=true/\((if fd then 1 else 0)=n2):=⟨true,rfl,by simp;omega⟩
  refine rsto (B:=C7) (vs:=[.bool true]) rfl rfl rfl (zAo _) λw8 C8 f8 _=>?_
  rw [<-hfd] at C8
  have C8:Bk w8 b3 [.int .i64 (n0:Int),.int .i64 0,.bool fd,.int .i64 0,.slice none 0 0] E.qc:=C8
 case' qq =>
  obtain⟨fd,hfd,hfd2⟩:∃fd:Bool,fd=false/\((if fd then 1 else 0)=n2):=⟨false,rfl,by simp;omega⟩
  refine rsto (B:=C7) (vs:=[.bool false]) rfl rfl rfl (zAo _) λw8 C8 f8 _=>?_
  rw [<-hfd] at C8
  have C8:Bk w8 b3 [.int .i64 (n0:Int),.int .i64 0,.bool fd,.int .i64 0,.slice none 0 0] E.qc:=C8
 all_goals
  have F8:Fr (λi=>i=b) w w8:=Fr.new F7 f8 nb3
  have B8:=Bk.fr B7 f8 nbb3
  have Z8:=Z7.fr f8 (by omega)
  have hl3:([]++numB n0++numB 0++numB n2).length+r3.length=s.length:=by rw [e0,e1,e2];simp;omega
  refine rcallP (zBj B8 (by omega)) ?_ ?_
  case' refine_2 =>
   rintro _ u ⟨rfl,hno,f⟩
   refine⟨rfl,λx l t hok he=>?_,F8.trans f⟩
   exact hno _ _ (by have:=hok.2.2.1;omega) (K4 x l t hok he).2.2.2
  rintro _ w9 ⟨n3',r4,hn3,e3,rfl,B9,f9⟩
  have K5:=kn5 K4 e3
  have C9:=C8.fr f9 (by omega);have Z9:=Z8.fr f9 (by omega)
  refine rsto (B:=C9) (vs:=[.int .i64 (n3':Int)]) rfl rfl rfl (zAf _) λw10 C10 f10 _=>?_
  have C10:Bk w10 b3 [.int .i64 (n0:Int),.int .i64 0,.bool fd,.int .i64 (n3':Int),.slice none 0 0] E.qc:=C10
  have F10:Fr (λi=>i=b) w w10:=Fr.new (F8.trans f9) f10 nb3
  have B10:=Bk.fr B9 f10 nbb3
  have Z10:=Z9.fr f10 (by omega)
  have hl4:([]++numB n0++numB 0++numB n2++numB n3').length+r4.length=s.length:=by rw [e0,e1,e2,e3];simp;omega
  refine rcallP (zEb (m:=100) B10 (by omega) (by decide)) ?_ ?_
  case' refine_2 =>
   rintro _ u ⟨rfl,hno,f⟩
   refine⟨rfl,λx l t hok he=>?_,F10.trans f⟩
   exact hno _ _ (by have:=hok.2.2.2.1;omega) (K5 x l t hok he).2.2.2.2
  rintro _ w11 ⟨N,r5,hN,e4,rfl,B11,f11⟩
  have K6:=kn6 K5 e4
  have C11:=C10.fr f11 (by omega);have Z11:=Z10.fr f11 (by omega)
  have F11:=F10.trans f11
  have q_:∃pre,pre=[]++numB n0++numB 0++numB n2++numB n3'++numB N:=⟨_,rfl⟩
  obtain⟨pre,hpre⟩:=q_
  have hs5:s=pre++r5:=by rw [hpre,e0,e1,e2,e3,e4];simp
  rw [<-hpre] at B11
  clear K1 K2 K3 K4 K5 e0 e1 e2 e3 e4 hl1 hl2 hl3 hl4
  refine cnt TBok 26 [4] 25 N (λk u=>∃(hs:List HitD) (r:List UInt8) (oa:Option Addr) (oc:Nat),hs.length=k/\RdrB u b (pre++hitsB hs) r/\Bk u b3 [.int .i64 (n0:Int),.int .i64 0,.bool fd,.int .i64 (n3':Int),.slice oa hs.length oc] E.qc /\
    Bk u b2 [.int .i64 0,.int .i64 0,.bool false,.int .i64 0,.slice none 0 0] E.qc/\Own w.heap.size E.qe u (.slice oa hs.length oc) hs/\Fr (λi=>i=b) w u/\s=(pre++hitsB hs)++r/\KnH s n0 n2 n3' N k hs r) rfl rfl
   ⟨[],r5,none,0,rfl,by simpa [hitsB] using B11,C11,Z11,Own.nil _ _ _,F11,by simpa [hitsB] using hs5,K6⟩ ?_
  rintro k g u hk ⟨hs',r,oa,oc,hlk,Bu,Cu,Zu,Ou,Fu,hsu,Ku⟩
  have zu:=Fu.size
  refine ite (λhlt=>?_) (λhge=>?_)
  ·have hkN:k<N:=by omega
   have hll:(pre++hitsB hs').length+r.length=s.length:=by rw [hsu];simp;omega
   refine rcallP (zBj Bu (by omega)) ?_ ?_
   case' refine_2 =>
    rintro _ u' ⟨rfl,hno,f⟩
    refine⟨rfl,λx l t hok he=>?_,Fu.trans f⟩
    have q_:=kn7 Ku hkN x l t hok he
    obtain⟨_,_,_,_,_,_,y,_,hy,hr⟩:=q_
    exact hno _ _ (by have:=hy.2.1;have:=hy.1;omega) hr
   rintro _ u1 ⟨nv,rv,hnv,ev1,rfl,Bu1,fu1⟩
   have Cu1:=Cu.fr fu1 (by omega);have Zu1:=Zu.fr fu1 (by omega)
   have ob:∀g:Nat,w.heap.size<=g->Value.blk (.slice oa hs'.length oc)=some g->¬g=b:=λg hg _=>by omega
   have Ou1:=Ou.fr fu1 ob
   have Fu1:=Fu.trans fu1
   have hll1:(pre++hitsB hs'++numB nv).length+rv.length=s.length:=by rw [hsu,ev1];simp;omega
   have nod:∀(w':World),(∀(n:Nat) (t:List UInt8),n<=2147483647->rv≠numB n++t)->Fr (λi=>i=b) w w'->PartNo s b w PanF w':=λw' hno f=>by
    refine⟨rfl,λx l t hok he=>?_,f⟩
    have q_:=kn7 Ku hkN x l t hok he
    obtain⟨_,_,_,_,_,_,y,_,hy,hr⟩:=q_
    rw [ev1] at hr
    exact hno _ _ (by have:=hy.2.2.2;have:=hy.2.2.1;omega) (zAc hr).2
   refine drawRT TBok mixed (λi=>i=b\/i=b3\/ownD w.heap.size (.slice oa hs'.length oc) i) (.one 0 (.one 1 (.one 3 (.one 4 (.duo 2 (.one 5 (.one 6 (.one 7 (.one 8 (.one 9 (.one 10 (.one 11 .nil))))))) 5 (.one 6 (.duo 2 (.one 7 (.one 8 (.one 9 (.one 10 (.one 11 .nil))))) 7 (.lone 2 (.one 8 (.one 9 (.one 10 (.one 11 .nil)))))))))))) (by kernel_rfl) λu2 es _=>?_
   have Bu2:=Bk.mv Bu1 (w:=u2);have Cu2:=Cu1.mv (w:=u2);have Zu2:=Zu1.mv (w:=u2)
   have Ou2:=Ou1.up (w':=u2)
   have Fu2:=Fu1.trans (Fr.fr (Le.e (a:=u1) (b:=u2)))
   refine⟨?_,?_⟩
   ·refine rld (B:=Cu2) rfl ⟨Fr.refl _ _,?_⟩
    refine rcallP (zBj Bu2 (by omega)) ?_ λ_ u' ⟨hc,hno,f⟩=>by subst hc;exact panR rfl rfl (nod u' hno (Fu2.trans f))
    rintro _ u3 ⟨nd,rd,hnd,ed,rfl,Bu3,fu3⟩
    refine⟨fu3.mono λi _ hi=>.inl hi,?_⟩
    refine tbuild (cs:=[.int .i64 (nv:Int),.int .i64 (nd:Int)]) rfl (rbs1 (α:=HitD) ⟨nv,nd⟩ rfl rfl (by decide) λb6 u4 e6 _ S6=>⟨e6.e.fr,?_⟩)
    have Cu3:=Cu2.fr fu3 (by omega)
    have Ou3:=Ou2.fr fu3 ob
    have Zu3:=Zu2.fr fu3 (by omega)
    have Cu4:=Cu3.mv (w:=u4)
    have Ou4:=Ou3.up (w':=u4)
    refine rappB (B:=w.heap.size) ⟨rfl,rfl⟩ Ou4 S6 (by have:=Fu2.size;have:=fu3.size;have:=e6.e.size;omega) (by simp;omega) λv7 u5 O7 f7=>⟨f7.mono λi _ hi=>.inr (.inr hi),?_⟩
    have Cu5:=Cu4.fro Ou4 f7 (by decide)
    have Zu5:=(Zu3.mv (w:=u4)).fro Ou4 f7 (by decide)
    have Bu5:=(Bk.mv Bu3 (w:=u4)).fro Ou4 f7 (by decide)
    have q7:=O7.shape
    obtain⟨a7,c7,rfl⟩:=q7
    refine rsto (B:=Cu5) (vs:=[.slice a7 _ c7]) rfl rfl rfl (sl1 _ _ _) λu6 Cu6 f8 _=>⟨f8.mono λi _ hi=>.inr (.inl hi),?_⟩
    have Fu5:Fr (λi=>i=b) w u5:=Fr.new ((Fu2.trans fu3).trans (Fr.fr e6.e)) f7 λi hi=>hi.1
    refine rA ⟨rfl,hkN,hs'++[(⟨(nv:Int),(nd:Int)⟩:HitD)],rd,a7,c7,by simp [hlk],?_,Cu6,Zu5.fr f8 nb23,O7.frc f8 Cu5 (by decide),Fr.new Fu5 f8 nb3,?_,kn8 Ku hkN ev1 ed⟩
    ·have hb6:=Bu5.fr f8 nbb3
     have:pre++hitsB (hs'++[(⟨(nv:Int),(nd:Int)⟩:HitD)])=pre++hitsB hs'++numB nv++numB nd:=by
      have g1:(nv:Int)<=2147483647:=by omega
      have g2:(nd:Int)<=2147483647:=by omega
      simp [hitsB,numsB,g1,g2]
     unfold RdrB;rw [this];exact hb6
    ·have g1:(nv:Int)<=2147483647:=by omega
     have g2:(nd:Int)<=2147483647:=by omega
     rw [hsu,ev1,ed]
     simp [hitsB,numsB,g1,g2]
   ·skip
    refine rcallP (zBj Bu2 (by omega)) ?_ λ_ u' ⟨hc,hno,f⟩=>by subst hc;exact panR rfl rfl (nod u' hno (Fu2.trans f))
    rintro _ u3 ⟨nd,rd,hnd,ed,rfl,Bu3,fu3⟩
    refine⟨fu3.mono λi _ hi=>.inl hi,?_⟩
    refine tbuild (cs:=[.int .i64 (nv:Int),.int .i64 (nd:Int)]) rfl ?_
    have Cu3:=Cu2.fr fu3 nbb3'
    refine⟨?_,?_⟩
    ·refine rld (B:=Cu3) rfl ⟨Fr.refl _ _,?_⟩
     refine rbs1 (α:=HitD) ⟨nv,nd⟩ rfl rfl (by decide) λb6 u4 e6 _ S6=>⟨e6.e.fr,?_⟩
     have Cu3:=Cu2.fr fu3 (by omega)
     have Ou3:=Ou2.fr fu3 ob
     have Zu3:=Zu2.fr fu3 (by omega)
     have Cu4:=Cu3.mv (w:=u4)
     have Ou4:=Ou3.up (w':=u4)
     refine rappB (B:=w.heap.size) ⟨rfl,rfl⟩ Ou4 S6 (by have:=Fu2.size;have:=fu3.size;have:=e6.e.size;omega) (by simp;omega) λv7 u5 O7 f7=>⟨f7.mono λi _ hi=>.inr (.inr hi),?_⟩
     have Cu5:=Cu4.fro Ou4 f7 (by decide)
     have Zu5:=(Zu3.mv (w:=u4)).fro Ou4 f7 (by decide)
     have Bu5:=(Bk.mv Bu3 (w:=u4)).fro Ou4 f7 (by decide)
     have q7:=O7.shape
     obtain⟨a7,c7,rfl⟩:=q7
     refine rsto (B:=Cu5) (vs:=[.slice a7 _ c7]) rfl rfl rfl (sl1 _ _ _) λu6 Cu6 f8 _=>⟨f8.mono λi _ hi=>.inr (.inl hi),?_⟩
     have Fu5:Fr (λi=>i=b) w u5:=Fr.new ((Fu2.trans fu3).trans (Fr.fr e6.e)) f7 λi hi=>hi.1
     refine rA ⟨rfl,hkN,hs'++[(⟨(nv:Int),(nd:Int)⟩:HitD)],rd,a7,c7,by simp [hlk],?_,Cu6,Zu5.fr f8 nb23,O7.frc f8 Cu5 (by decide),Fr.new Fu5 f8 nb3,?_,kn8 Ku hkN ev1 ed⟩
     ·have hb6:=Bu5.fr f8 nbb3
      have:pre++hitsB (hs'++[(⟨(nv:Int),(nd:Int)⟩:HitD)])=pre++hitsB hs'++numB nv++numB nd:=by
       have g1:(nv:Int)<=2147483647:=by omega
       have g2:(nd:Int)<=2147483647:=by omega
       simp [hitsB,numsB,g1,g2]
      unfold RdrB;rw [this];exact hb6
     ·have g1:(nv:Int)<=2147483647:=by omega
      have g2:(nd:Int)<=2147483647:=by omega
      rw [hsu,ev1,ed]
      simp [hitsB,numsB,g1,g2]
    ·skip
     refine rbs1 (α:=HitD) ⟨nv,nd⟩ rfl rfl (by decide) λb6 u4 e6 _ S6=>⟨e6.e.fr,?_⟩
     refine rld (B:=Cu3) rfl ⟨Fr.refl _ _,?_⟩
     have Cu3:=Cu2.fr fu3 (by omega)
     have Ou3:=Ou2.fr fu3 ob
     have Zu3:=Zu2.fr fu3 (by omega)
     have Cu4:=Cu3.mv (w:=u4)
     have Ou4:=Ou3.up (w':=u4)
     refine rappB (B:=w.heap.size) ⟨rfl,rfl⟩ Ou4 S6 (by have:=Fu2.size;have:=fu3.size;have:=e6.e.size;omega) (by simp;omega) λv7 u5 O7 f7=>⟨f7.mono λi _ hi=>.inr (.inr hi),?_⟩
     have Cu5:=Cu4.fro Ou4 f7 (by decide)
     have Zu5:=(Zu3.mv (w:=u4)).fro Ou4 f7 (by decide)
     have Bu5:=(Bk.mv Bu3 (w:=u4)).fro Ou4 f7 (by decide)
     have q7:=O7.shape
     obtain⟨a7,c7,rfl⟩:=q7
     refine rsto (B:=Cu5) (vs:=[.slice a7 _ c7]) rfl rfl rfl (sl1 _ _ _) λu6 Cu6 f8 _=>⟨f8.mono λi _ hi=>.inr (.inl hi),?_⟩
     have Fu5:Fr (λi=>i=b) w u5:=Fr.new ((Fu2.trans fu3).trans (Fr.fr e6.e)) f7 λi hi=>hi.1
     refine rA ⟨rfl,hkN,hs'++[(⟨(nv:Int),(nd:Int)⟩:HitD)],rd,a7,c7,by simp [hlk],?_,Cu6,Zu5.fr f8 nb23,O7.frc f8 Cu5 (by decide),Fr.new Fu5 f8 nb3,?_,kn8 Ku hkN ev1 ed⟩
     ·have hb6:=Bu5.fr f8 nbb3
      have:pre++hitsB (hs'++[(⟨(nv:Int),(nd:Int)⟩:HitD)])=pre++hitsB hs'++numB nv++numB nd:=by
       have g1:(nv:Int)<=2147483647:=by omega
       have g2:(nd:Int)<=2147483647:=by omega
       simp [hitsB,numsB,g1,g2]
      unfold RdrB;rw [this];exact hb6
     ·have g1:(nv:Int)<=2147483647:=by omega
      have g2:(nd:Int)<=2147483647:=by omega
      rw [hsu,ev1,ed]
      simp [hitsB,numsB,g1,g2]
  ·have q_:k=N:=by omega
   obtain rfl:=q_
   refine rldG (ds:=enc (⟨n0,0,fd,n3',oa,hs'.length,oc⟩:RepD)) (B:=Cu) rfl rfl (rcall (zBT (x:=⟨n0,0,fd,n3',oa,hs'.length,oc⟩) (l:=hs') Ou.sl (by omega)) ?_)
   rintro v u1 ⟨⟨rfl,hok⟩|⟨rfl,hok⟩,eu1⟩
   ·refine rcallP zAb ?_ ?_
    case' refine_2 =>
     rintro _ u ⟨h,_⟩;cases h
    rintro _ u2 ⟨_,rfl,rfl⟩
    have C8:=Cu.mv (w:=u2);have Z8:=Zu.mv (w:=u2)
    refine rldG (ds:=enc (⟨n0,0,fd,n3',oa,hs'.length,oc⟩:RepD)) (B:=C8) rfl rfl (rsto (B:=Z8) (vs:=enc (⟨n0,0,fd,n3',oa,hs'.length,oc⟩:RepD)) rfl rfl rfl (Enc.one _) λu3 Z9 f9 _=>rresG rfl ?_)
    have he:encR ⟨n0,0,fd,n3',oa,hs'.length,oc⟩ hs'=pre++hitsB hs':=by
     rw [zBC hok]
     unfold rest2
     rw [if_neg (by simp),hpre,hlk]
     dsimp only
     rw [hfd2]
     simp
    refine⟨⟨n0,0,fd,n3',oa,hs'.length,oc⟩,hs',r,hok,by rw [he];exact hsu,rfl,?_,(Ou.up (w':=u2)).frc f9 Z8 (by decide),Fr.new (Fu.trans (Fr.fr (Le.e (a:=u) (b:=u2)))) f9 nb2⟩
    rw [he]
    exact(Bk.mv Bu (w:=u2)).fr f9 (by omega)
   ·refine rcallP zAb ?_ ?_
    ·rintro _ u ⟨h,_⟩;cases h
    rintro _ u2 ⟨_,rfl,rfl⟩
    refine⟨rfl,λx l t hx he=>hok ?_,Fu.trans (Fr.fr (Le.e (a:=u) (b:=u2)))⟩
    have q_:=Ku x l t hx he
    obtain⟨g1,g2,g3,g4,g5,g6,_⟩:=q_
    have q1:=hx.1;have q2:=hx.2.1;have q3:=hx.2.2.1
    rw [List.take_of_length_le (by omega)] at g6
    rw [g6] at hx
    refine hx.congr (by show x.id=(n0:Int);omega) (by show x.code=0;omega) ?_ (by show x.a.num=(n3':Int);omega)
    show x.a.found=fd
    rw [<-hfd2] at g3
    generalize x.a.found=q at g3 ⊢
    cases q <;> cases fd <;> simp at g3 ⊢
abbrev zRep:RepD:=⟨0,0,false,0,none,0,0⟩
theorem zBs{bx be:Nat}:SpD PP F.qt #[.pointer (some ⟨bx,0,none⟩),.pointer (some ⟨be,0,none⟩)] .returning w λu' w'=>u'=.returning/\w'=w:=by
 refine SpD.enter TBok rfl rfl rfl rfl rfl rfl rfl (λ_ _=>rfl) rfl rfl ?_
 refine rtaN ?_
 exact⟨rfl,rfl,rfl⟩
theorem zBr{bx be:Nat}{x:RepD}{e:Int}(Bx:Bk w bx (enc x) E.qc)(Be:Bk w be [.int .i64 e] E.qk)(hne:¬be=bx):
  SpD PP F.qt #[.pointer (some ⟨bx,0,none⟩),.pointer (some ⟨be,0,none⟩)] (.panicking PanF) w λu' w'=>settle u'=.returning/\Bk w' bx (enc zRep) E.qc/\Bk w' be [.int .i64 220] E.qk/\Fr (λi=>i=bx\/i=be) w w':=by
 refine SpD.enter TBok rfl rfl rfl rfl rfl rfl rfl (λ_ _=>rfl) rfl rfl ?_
 refine rta (ral λb4 w1 n1 z1=>rldG (ds:=enc zRep) (B:=z1) rfl rfl (rsto (B:=Bx.mv (w:=w1)) (vs:=enc zRep) rfl rfl rfl (Enc.one _) λw2 B2 f2 _=>rsto (B:=(Be.mv (w:=w1)).fr f2 hne) (vs:=[.int .i64 220]) rfl rfl rfl (zAf _) λw3 B3 f3 _=>?_))
 exact⟨rfl,rfl,B2.fr f3 (λh=>hne h.symm),B3,((Fr.fr (Le.e (a:=w) (b:=w1))).trans (f2.mono λi _ hi=>.inl hi)).trans (f3.mono λi _ hi=>.inr hi)⟩
theorem zMT{x y:RepD}{l m:List HitD}{t:List UInt8}(hx:RepOk x l)(hy:RepOk y m)(e:encR x l++s=encR y m++t):encR x l=encR y m/\s=t:=by
 have len:∀{a b:List UInt8} {s t:List UInt8},a++s=b++t->s=t->a=b:=λh h'=>by subst h';exact List.append_cancel_right h
 suffices s=t from ⟨len e this,this⟩
 rw [zBC hx,zBC hy] at e
 simp only [List.append_assoc] at e
 have q_:=zAc e
 obtain⟨_,e⟩:=q_
 have q_:=zAc e
 obtain⟨h1,e⟩:=q_
 unfold rest2 at e
 have qx:=hx.2.1;have qy:=hy.2.1
 by_cases hc:x.code=0
 ·have hc':y.code=0:=by omega
  simp only [hc,hc',ne_eq,not_true_eq_false,if_false,List.append_assoc] at e
  have q_:=zAc e
  obtain⟨_,e⟩:=q_
  have q_:=zAc e
  obtain⟨_,e⟩:=q_
  have q_:=zAc e
  obtain⟨h2,e⟩:=q_
  have hh:∀(l m:List HitD),(∀h∈l,HitOk h)->(∀h∈m,HitOk h)->l.length=m.length->hitsB l++s=hitsB m++t->s=t:=by
   intro l
   induction l with
   |nil =>
    intro m _ _ h e
    cases m with
    |nil=>simpa [hitsB] using e
    |cons y r=>simp at h
   |cons a r ih =>
    intro m h1 h2 h e
    cases m with
    |nil=>simp at h
    |cons b q =>
     rw [zBK (h1 a List.mem_cons_self),zBK (h2 b List.mem_cons_self)] at e
     simp only [List.append_assoc] at e
     exact ih q (λh hh=>h1 h (List.mem_cons_of_mem _ hh)) (λh hh=>h2 h (List.mem_cons_of_mem _ hh)) (by simpa using h) (zAc (zAc e).2).2
  exact hh l m hx.2.2.2.2.2.2.2 hy.2.2.2.2.2.2.2 h2 e
 ·have hc':¬y.code=0:=by omega
  rw [if_pos hc,if_pos hc'] at e
  simpa using e
abbrev GetRep (s:List UInt8) (B:Nat) (v:Value) (w':World):Prop:=
 (∃x l,RepOk x l/\encR x l=s/\v=.tuple #[agg x,.int .i64 0]/\Own B E.qe w' (.slice x.a.s.a x.a.s.n x.a.s.c) l)\/((∀x l,RepOk x l->encR x l≠s)/\v=.tuple #[agg zRep,.int .i64 220])
theorem zED(hs:s.length<=1000000):Sp PP F.pv #[txt s,.func (.func F.ya) #[] #[]] w λv w'=>GetRep s w.heap.size v w'/\Stp w w':=by
 refine en TBok rfl ?_
 refine ral λbx w1 n1 z1=>ral λbe w2 n2 z2=>?_
 have hbx:=n1.b;have hsx:=n1.s;have hbe:=n2.b;have hse:=n2.s
 refine rbuild (cs:=[txt s,.int .i64 0]) rfl (rbx λbr w3 n3 B3=>?_)
 have hbr:=n3.b
 have R3:RdrB w3 br [] s:=B3
 clear B3
 have X3:Bk w3 bx (enc zRep) E.qc:=z1.mv
 have E3:Bk w3 be [.int .i64 0] E.qk:=z2.mv
 have z03:=Le.size (a:=w) (b:=w3)
 have hne:¬be=bx:=by omega
 have pan:∀{G:Nat->Value} {u:World} {x:RepD},Bk u bx (enc x) E.qc->Bk u be [.int .i64 0] E.qk->Stp w u->(∀x l,RepOk x l->encR x l≠s)->ev G (.tmp 4)=.pointer (some ⟨bx,0,none⟩)->ev G (.tmp 5)=.pointer (some ⟨be,0,none⟩) ->
   LeaveS PP Tryz.f76.results.toList G [{ target:=.fn (.func F.qt) #[.pointer (some ⟨bx,0,none⟩),.pointer (some ⟨be,0,none⟩)],args:=#[] }] (.panicking PanF) (λv w'=>GetRep s w.heap.size v w'/\Stp w w') (λ_ _=>False) u:=by
  intro G u x X E' e hno g4 g5
  refine zBm (by simp) ⟨(zBr X E' hne).can,zAK (zBr X E' hne).calls ?_⟩
  intro en u' w' he
  cases en with
  |returned v =>
   obtain⟨h1,X',E',f'⟩:=he
   show LeaveS PP _ _ [] (settle u') _ _ w'
   rw [h1]
   refine leave_ret ?_
   show resS PP [.cell 4 _,.cell 5 _] [] G _ w'
   simp only [resS,g4,g5]
   refine rresG (B:=X') rfl ?_
   refine rres (B:=E') rfl ?_
   exact⟨.inr ⟨hno,rfl⟩,⟨Fr.st e.e f' λi hi=>by omega⟩⟩
  |panicked c=>exact he
  |outgrown=>exact he
 have nbr:∀i,i=br->w.heap.size<=i:=by omega
 have nbx:∀i,i=bx->w.heap.size<=i:=by omega
 have nxr:¬bx=br:=by omega
 have ner:¬be=br:=by omega
 refine rcallP (zEC (b:=br) R3 hs) ?_ ?_
 ·rintro _ w4 ⟨x,l,t,hok,he,rfl,R4,O4,f4⟩
  have s4:Stp w w4:=⟨Fr.st Le.e f4 nbr⟩
  have X4:=X3.fr f4 nxr
  have E4:=E3.fr f4 ner
  refine rsto (B:=X4) (vs:=enc x) rfl rfl rfl (Enc.one _) λw5 X5 f5 _=>?_
  have X5:Bk w5 bx (enc x) E.qc:=X5
  have s5:Stp w w5:=⟨Fr.st s4.e f5 nbx⟩
  have E5:=E4.fr f5 hne
  have R5:=(Bk.fr R4 f5 (λh=>nxr h.symm))
  have O5:=O4.frc f5 X4 (by decide)
  refine rcallP (zBQ R5) ?_ ?_
  ·rintro _ w6 ⟨rfl,hA,e6⟩
   have ht:t=[]:=by
    rw [List.length_append] at hA
    exact List.eq_nil_of_length_eq_zero (by omega)
   subst ht
   rw [List.append_nil] at he
   have X6:=X5.mv (w:=w6)
   refine rldG (ds:=enc x) (B:=X6) rfl (Enc.len x) (rsto (B:=X6) (vs:=enc x) rfl rfl rfl (Enc.one _) λw7 X7 f7 _=>?_)
   have X7:Bk w7 bx (enc x) E.qc:=X7
   have s7:Stp w w7:=⟨Fr.st Le.e f7 nbx⟩
   have E7:=(E5.mv (w:=w6)).fr f7 hne
   have O7:=(O5.up (w':=w6)).frc f7 X6 (by decide)
   refine rsto (B:=E7) (vs:=[.int .i64 0]) rfl rfl rfl (zAf _) λw8 E8 f8 _=>?_
   have X8:=X7.fr f8 (λh=>hne h.symm)
   have s8:Stp w w8:=⟨Fr.st s7.e f8 λi hi=>by omega⟩
   have O8:=O7.frc f8 E7 (by decide)
   refine zBm (by simp) ⟨(zBs (bx:=bx) (be:=be) (w:=w8)).can,zAK (zBs (bx:=bx) (be:=be) (w:=w8)).calls ?_⟩
   intro en u' w' hh
   cases en with
   |returned v =>
    obtain⟨rfl,rfl⟩:=hh
    refine leave_ret ?_
    refine rresG (B:=X8) rfl ?_
    refine rres (B:=E8) rfl ?_
    exact⟨.inl ⟨x,l,hok,he.symm,rfl,O8.older⟩,s8⟩
   |panicked c=>exact hh
   |outgrown=>exact hh
  ·rintro _ w6 ⟨rfl,hA,e6⟩
   exact pan (X5.mv (w:=w6)) (E5.mv (w:=w6)) stp (λy m hy hm=>hA (by
    rw [he] at hm
    rw [(zMT hok hy (by rw [hm,List.append_nil]:encR x l++t=encR y m++[])).2]
    simp)) rfl rfl
 ·rintro _ w4 ⟨rfl,hno,f4⟩
  have s4:Stp w w4:=⟨Fr.st Le.e f4 nbr⟩
  exact pan (X3.fr f4 nxr) (E3.fr f4 ner) s4 (λy m hy hm=>hno y m [] hy (by rw [hm,List.append_nil])) rfl rfl
theorem zFx(hs:s.length<=1000000):Sp PP F.yn #[txt s] w λv w'=>GetRep s w.heap.size v w'/\Stp w w':=by
 refine en TBok rfl ?_
 refine ral λbx w1 n1 z1=>?_
 have nbx:=n1.b
 refine rcall (zED hs) ?_
 rintro v w2 ⟨⟨x,l,hok,he,rfl,O⟩|⟨hno,rfl⟩,e2⟩
 ·refine rsto (B:=z1.mv (w:=w2)) (vs:=enc x) rfl rfl rfl (Enc.one _) λw3 X3 f3 _=>?_
  have X3:Bk w3 bx (enc x) E.qc:=X3
  refine rresG (B:=X3) rfl ?_
  exact⟨.inl ⟨x,l,hok,he,rfl,(O.frc f3 (z1.mv (w:=w2)) (by decide)).older⟩,⟨Fr.st Le.e f3 λi hi=>by omega⟩⟩
 ·refine rsto (B:=z1.mv (w:=w2)) (vs:=enc zRep) rfl rfl rfl (Enc.one _) λw3 X3 f3 _=>?_
  have X3:Bk w3 bx (enc zRep) E.qc:=X3
  refine rresG (B:=X3) rfl ?_
  exact⟨.inr ⟨hno,rfl⟩,⟨Fr.st Le.e f3 λi hi=>by omega⟩⟩
theorem zBf{bx be:Nat}:SpD PP F.qp #[.pointer (some ⟨bx,0,none⟩),.pointer (some ⟨be,0,none⟩)] .returning w λu' w'=>u'=.returning/\w'=w:=by
 refine SpD.enter TBok rfl rfl rfl rfl rfl rfl rfl (λ_ _=>rfl) rfl rfl ?_
 refine rtaN ?_
 exact⟨rfl,rfl,rfl⟩
theorem zBe{bx be:Nat}{x:RReq}{e:Int}(Bx:Bk w bx (enc x) E.qd)(Be:Bk w be [.int .i64 e] E.qk)(hne:¬be=bx):
  SpD PP F.qp #[.pointer (some ⟨bx,0,none⟩),.pointer (some ⟨be,0,none⟩)] (.panicking PanF) w λu' w'=>settle u'=.returning/\Bk w' bx (enc zRq) E.qd/\Bk w' be [.int .i64 220] E.qk/\Fr (λi=>i=bx\/i=be) w w':=by
 refine SpD.enter TBok rfl rfl rfl rfl rfl rfl rfl (λ_ _=>rfl) rfl rfl ?_
 refine rta (ral λb4 w1 n1 z1=>rldG (ds:=enc zRq) (B:=z1) rfl rfl (rsto (B:=Bx.mv (w:=w1)) (vs:=enc zRq) rfl rfl rfl (Enc.one _) λw2 B2 f2 _=>rsto (B:=(Be.mv (w:=w1)).fr f2 hne) (vs:=[.int .i64 220]) rfl rfl rfl (zAf _) λw3 B3 f3 _=>?_))
 exact⟨rfl,rfl,B2.fr f3 (λh=>hne h.symm),B3,((Fr.fr (Le.e (a:=w) (b:=w1))).trans (f2.mono λi _ hi=>.inl hi)).trans (f3.mono λi _ hi=>.inr hi)⟩
theorem zNe{d:RqD}(h:rdR s=some (d,[]))(hd:RqIs d):reqOf s=some d:=by
 unfold reqOf;rw [h];simp only;rw [if_pos hd]
theorem zOd(h:∀d t,rdR s=some (d,t)->¬RqIs d):reqOf s=none:=by
 unfold reqOf
 split
 ·rename_i x hx;rw [if_neg (h _ _ hx)]
 ·rfl
theorem zOe{t:List UInt8}{d:RqD}(h:rdR s=some (d,t))(ht:t≠[]):reqOf s=none:=by
 unfold reqOf
 split
 ·rename_i x hx;rw [h] at hx;cases hx;exact absurd rfl ht
 ·rfl
abbrev GetReq (s:List UInt8) (B:Nat) (v:Value) (w':World):Prop:=
 (∃d x,reqOf s=some d/\v=.tuple #[agg x,.int .i64 0]/\RqO B w' x d)\/(reqOf s=none/\v=.tuple #[agg zRq,.int .i64 220])
theorem zDo(hs:s.length<=4611686018427387904):Sp PP F.z4 #[txt s,.func (.func F.q4) #[] #[]] w λv w'=>GetReq s w.heap.size v w'/\Stp w w':=by
 refine en TBok rfl ?_
 refine ral λbx w1 n1 z1=>ral λbe w2 n2 z2=>?_
 have hbx:=n1.b;have hsx:=n1.s;have hbe:=n2.b;have hse:=n2.s
 refine rbuild (cs:=[txt s,.int .i64 0]) rfl (rbx λbr w3 n3 B3=>?_)
 have hbr:=n3.b
 have R3:FrB w3 br s 0:=B3
 clear B3
 have X3:Bk w3 bx (enc zRq) E.qd:=z1.mv
 have E3:Bk w3 be [.int .i64 0] E.qk:=z2.mv
 have z03:=Le.size (a:=w) (b:=w3)
 have hne:¬be=bx:=by omega
 have pan:∀{G:Nat->Value} {u:World} {x:RReq},Bk u bx (enc x) E.qd->Bk u be [.int .i64 0] E.qk->Stp w u->reqOf s=none->ev G (.tmp 4)=.pointer (some ⟨bx,0,none⟩)->ev G (.tmp 5)=.pointer (some ⟨be,0,none⟩) ->
   LeaveS PP [.cell 4 E.qd,.cell 5 E.qk] G [{ target:=.fn (.func F.qp) #[.pointer (some ⟨bx,0,none⟩),.pointer (some ⟨be,0,none⟩)],args:=#[] }] (.panicking PanF) (λv w'=>GetReq s w.heap.size v w'/\Stp w w') (λ_ _=>False) u:=by
  intro G u x X E' e hno g4 g5
  refine zBm (by simp) ⟨(zBe X E' hne).can,zAK (zBe X E' hne).calls ?_⟩
  intro en u' w' he
  cases en with
  |returned v =>
   obtain⟨h1,X',E',f'⟩:=he
   show LeaveS PP _ _ [] (settle u') _ _ w'
   rw [h1]
   refine leave_ret ?_
   show resS PP [.cell 4 _,.cell 5 _] [] G _ w'
   simp only [resS,g4,g5]
   refine rresG (B:=X') rfl ?_
   refine rres (B:=E') rfl ?_
   exact⟨.inr ⟨hno,rfl⟩,⟨Fr.st e.e f' λi hi=>by omega⟩⟩
  |panicked c=>exact he
  |outgrown=>exact he
 have nbr:∀i,i=br->w.heap.size<=i:=by omega
 have nbx:∀i,i=bx->w.heap.size<=i:=by omega
 have nxr:¬bx=br:=by omega
 have ner:¬be=br:=by omega
 refine rcallP (zDn (b:=br) R3 hs) ?_ ?_
 ·rintro _ w4 ⟨d,A4,x,hrd,hok,rfl,O4,R4,f4⟩
  have s4:Stp w w4:=⟨Fr.st Le.e f4 nbr⟩
  have X4:=X3.fr f4 nxr
  have E4:=E3.fr f4 ner
  refine rsto (B:=X4) (vs:=enc x) rfl rfl rfl (Enc.one _) λw5 X5 f5 _=>?_
  have X5:Bk w5 bx (enc x) E.qd:=X5
  have s5:Stp w w5:=⟨Fr.st s4.e f5 nbx⟩
  have E5:=E4.fr f5 hne
  have R5:=(Bk.fr R4 f5 (λh=>nxr h.symm))
  have O5:=O4.2.2.2.2.2.1.frc f5 X4 (by decide)
  refine rcallP (zBQ R5) ?_ ?_
  ·rintro _ w6 ⟨rfl,hA,e6⟩
   have ht:rdR s=some (d,[]):=by
    have h1:=hrd.2
    rw [List.drop_zero,hA,List.drop_length] at h1
    exact h1
   have X6:=X5.mv (w:=w6)
   refine rldG (ds:=enc x) (B:=X6) rfl (Enc.len x) (rsto (B:=X6) (vs:=enc x) rfl rfl rfl (Enc.one _) λw7 X7 f7 _=>?_)
   have X7:Bk w7 bx (enc x) E.qd:=X7
   have s7:Stp w w7:=⟨Fr.st Le.e f7 nbx⟩
   have E7:=(E5.mv (w:=w6)).fr f7 hne
   have O7:=(O5.up (w':=w6)).frc f7 X6 (by decide)
   refine rsto (B:=E7) (vs:=[.int .i64 0]) rfl rfl rfl (zAf _) λw8 E8 f8 _=>?_
   have X8:=X7.fr f8 (λh=>hne h.symm)
   have s8:Stp w w8:=⟨Fr.st s7.e f8 λi hi=>by omega⟩
   have O8:=O7.frc f8 E7 (by decide)
   refine zBm (by simp) ⟨(zBf (bx:=bx) (be:=be) (w:=w8)).can,zAK (zBf (bx:=bx) (be:=be) (w:=w8)).calls ?_⟩
   intro en u' w' hh
   cases en with
   |returned v =>
    obtain⟨rfl,rfl⟩:=hh
    refine leave_ret ?_
    refine rresG (B:=X8) rfl ?_
    refine rres (B:=E8) rfl ?_
    exact⟨.inl ⟨d,x,zNe ht hok,rfl,O4.1,O4.2.1,O4.2.2.1,O4.2.2.2.1,O4.2.2.2.2.1,O8.mono (by omega),O4.2.2.2.2.2.2⟩,s8⟩
   |panicked c=>exact hh
   |outgrown=>exact hh
  ·rintro _ w6 ⟨rfl,hA,e6⟩
   have hne0:s.drop A4≠[]:=λh=>by
    have h1:=congrArg List.length h
    rw [List.length_drop,List.length_nil] at h1
    have:=hrd.1
    omega
   exact pan (X5.mv (w:=w6)) (E5.mv (w:=w6)) stp (zOe (by have h1:=hrd.2;rw [List.drop_zero] at h1;exact h1) hne0) rfl rfl
 ·rintro _ w4 ⟨rfl,hno,f4⟩
  have s4:Stp w w4:=⟨Fr.st Le.e f4 nbr⟩
  exact pan (X3.fr f4 nxr) (E3.fr f4 ner) s4 (zOd hno) rfl rfl
theorem zBP(hs:s.length<=4611686018427387904):Sp PP F.pt #[txt s] w λv w'=>GetReq s w.heap.size v w'/\Stp w w':=by
 refine en TBok rfl ?_
 refine ral λbx w1 n1 z1=>?_
 have nbx:=n1.b
 refine rcall (zDo hs) ?_
 rintro v w2 ⟨⟨d,x,hr,rfl,O⟩|⟨hno,rfl⟩,e2⟩
 ·refine rsto (B:=z1.mv (w:=w2)) (vs:=enc x) rfl rfl rfl (Enc.one _) λw3 X3 f3 _=>?_
  have X3:Bk w3 bx (enc x) E.qd:=X3
  refine rresG (B:=X3) rfl ?_
  exact⟨.inl ⟨d,x,hr,rfl,O.1,O.2.1,O.2.2.1,O.2.2.2.1,O.2.2.2.2.1,(O.2.2.2.2.2.1.frc f3 (z1.mv (w:=w2)) (by decide)).older,O.2.2.2.2.2.2⟩,⟨Fr.st Le.e f3 λi hi=>by omega⟩⟩
 ·refine rsto (B:=z1.mv (w:=w2)) (vs:=enc zRq) rfl rfl rfl (Enc.one _) λw3 X3 f3 _=>?_
  have X3:Bk w3 bx (enc zRq) E.qd:=X3
  refine rresG (B:=X3) rfl ?_
  exact⟨.inr ⟨hno,rfl⟩,⟨Fr.st Le.e f3 λi hi=>by omega⟩⟩
theorem zKa(hs:s.length<=4611686018427387904):Sp PP F.qa3 #[txt s] w λv w'=>((∃n:Nat,idOf s=some n/\v=.tuple #[.int .i64 (n:Int),.bool true])\/(idOf s=none/\v=.tuple #[.int .i64 0,.bool false]))/\Stp w w':=by
 refine en TBok rfl ?_
 refine rcall (zCq (A:=0) hs) ?_
 rintro _ w1 ⟨⟨n,A',hr,rfl⟩|⟨hno,rfl⟩,e1⟩
 ·have h1:idOf s=some n:=by have:=hr.2;rw [List.drop_zero] at this;unfold idOf;rw [this];rfl
  exact⟨.inl ⟨n,h1,rfl⟩,stp⟩
 ·have h1:idOf s=none:=by rw [List.drop_zero] at hno;unfold idOf;rw [hno];rfl
  exact⟨.inr ⟨h1,rfl⟩,stp⟩
end Go.W
namespace Go.Proofs
open Go.Shelf
def Tryz.sortI_ren:Go.Shelf.Ren:=⟨fun|53=>316|64=>121|63=>342|78=>188|79=>189|70=>367|71=>368|72=>369|73=>370|74=>371|75=>372|59=>172|76=>373|77=>374|88=>383|89=>242|90=>243|91=>384|92=>385|68=>233|96=>388|n=>n,fun|22=>37|23=>3|3=>3|51=>231|0=>0|67=>309|69=>311|4=>4|61=>303|60=>302|44=>129|5=>5|9=>9|75=>383|79=>387|83=>435|84=>436|n=>n,fun|n=>n⟩
theorem Tryz.sortI:Go.Proofs.SlLaysN.n53 Tryz.prog Tryz.sortI_ren:={
 mixed:=by kernel_rfl
 f53:=⟨Tryz.f316.name,by decide,W.ff Tryz.func316⟩
 f59:=⟨Tryz.f172.name,by decide,W.ff Tryz.func172⟩
 f63:=⟨Tryz.f342.name,by decide,W.ff Tryz.func342⟩
 f64:=W.ff Tryz.func121
 f68:=⟨Tryz.f233.name,by decide,W.ff Tryz.func233⟩
 f70:=⟨Tryz.f367.name,by decide,W.ff Tryz.func367⟩
 f71:=⟨Tryz.f368.name,by decide,W.ff Tryz.func368⟩
 f72:=⟨Tryz.f369.name,by decide,W.ff Tryz.func369⟩
 f73:=⟨Tryz.f370.name,by decide,W.ff Tryz.func370⟩
 f74:=⟨Tryz.f371.name,by decide,W.ff Tryz.func371⟩
 f75:=⟨Tryz.f372.name,by decide,W.ff Tryz.func372⟩
 f76:=⟨Tryz.f373.name,by decide,W.ff Tryz.func373⟩
 f77:=⟨Tryz.f374.name,by decide,W.ff Tryz.func374⟩
 f78:=W.ff Tryz.func188
 f79:=W.ff Tryz.func189
 f88:=⟨Tryz.f383.name,by decide,W.ff Tryz.func383⟩
 f89:=W.ff Tryz.func242
 f90:=W.ff Tryz.func243
 f91:=⟨Tryz.f384.name,by decide,W.ff Tryz.func384⟩
 f92:=⟨Tryz.f385.name,by decide,W.ff Tryz.func385⟩
 f96:=⟨Tryz.f388.name,by decide,W.ff Tryz.func388⟩
 t0:=Tryz.underlying0
 a0:=Tryz.isAgg0
 z0:=Tryz.sizeOf0
 v0:=Tryz.zeroValue0
 t3:=Tryz.underlying3
 a3:=Tryz.isAgg3
 z3:=Tryz.sizeOf3
 v3:=Tryz.zeroValue3
 t4:=Tryz.underlying4
 a4:=Tryz.isAgg4
 z4:=Tryz.sizeOf4
 v4:=Tryz.zeroValue4
 t5:=Tryz.underlying5
 a5:=Tryz.isAgg5
 z5:=Tryz.sizeOf5
 v5:=Tryz.zeroValue5
 t9:=Tryz.underlying9
 a9:=Tryz.isAgg9
 z9:=Tryz.sizeOf9
 v9:=Tryz.zeroValue9
 t22:=Tryz.underlying37
 a22:=Tryz.isAgg37
 z22:=Tryz.sizeOf37
 v22:=Tryz.zeroValue37
 t23:=Tryz.underlying3
 a23:=Tryz.isAgg3
 z23:=Tryz.sizeOf3
 v23:=Tryz.zeroValue3
 t44:=Tryz.underlying129
 a44:=Tryz.isAgg129
 z44:=Tryz.sizeOf129
 v44:=Tryz.zeroValue129
 t51:=Tryz.underlying231
 a51:=Tryz.isAgg231
 z51:=Tryz.sizeOf231
 v51:=Tryz.zeroValue231
 t60:=Tryz.underlying302
 a60:=Tryz.isAgg302
 z60:=Tryz.sizeOf302
 v60:=Tryz.zeroValue302
 t61:=Tryz.underlying303
 a61:=Tryz.isAgg303
 z61:=Tryz.sizeOf303
 v61:=Tryz.zeroValue303
 t67:=Tryz.underlying309
 a67:=Tryz.isAgg309
 z67:=Tryz.sizeOf309
 v67:=Tryz.zeroValue309
 t69:=Tryz.underlying311
 a69:=Tryz.isAgg311
 z69:=Tryz.sizeOf311
 v69:=Tryz.zeroValue311
 t75:=Tryz.underlying383
 a75:=Tryz.isAgg383
 z75:=Tryz.sizeOf383
 v75:=Tryz.zeroValue383
 t79:=Tryz.underlying387
 a79:=Tryz.isAgg387
 z79:=Tryz.sizeOf387
 v79:=Tryz.zeroValue387
 t83:=Tryz.underlying435
 a83:=Tryz.isAgg435
 z83:=Tryz.sizeOf435
 v83:=Tryz.zeroValue435
 t84:=Tryz.underlying436
 a84:=Tryz.isAgg436
 z84:=Tryz.sizeOf436
 v84:=Tryz.zeroValue436 }
end Go.Proofs
namespace Go.W
open Go Go.Proofs
open Enc (enc)
set_option maxRecDepth 10000
variable {B N i j k m n n2 n3:Nat} {P:Program} {a a2 a3:Option Addr} {g:GrD} {ps:List Int} {q:QyD} {s:List UInt8} {u u' w w':World}
structure RPo where
 word:ByteArray
 pl:SV
instance:Enc RPo:=⟨2,λx=>[.string x.word,.slice x.pl.a x.pl.n x.pl.c],λ_=>rfl,by intro x u hu;simp at hu;rcases hu with rfl|rfl <;> rfl,by decide⟩
instance:LawfulBEq ByteArray where
 eq_of_beq h:=(zB7 _ _).1 h
 rfl:=(zB7 _ _).2 rfl
def plOf (g:GrD) (s:ByteArray):List Int:=((List.range g.n).filter λv=>(g.ws.getD v []).contains s).map λv:Nat=>(v:Int)
theorem zBY{s:ByteArray}{x:Int}:x∈plOf g s↔∃v:Nat,x=v/\v<g.n/\s∈g.ws.getD v []:=by
 unfold plOf
 simp only [List.mem_map,List.mem_filter,List.mem_range,List.contains_iff_mem]
 constructor
 ·rintro⟨v,⟨h1,h2⟩,rfl⟩;exact⟨v,rfl,h1,h2⟩
 ·rintro⟨v,rfl,h1,h2⟩;exact⟨v,⟨h1,h2⟩,rfl⟩
theorem zGf(g:GrD)(s:ByteArray):(plOf g s).length<=g.n:=by
 unfold plOf
 rw [List.length_map]
 exact Nat.le_trans (List.length_filter_le _ _) (by simp)
structure PosM (w:World) (g:GrD) (ws:List ByteArray) (ps:List RPo):Prop where
 ris:ws.Pairwise ltW
 all:∀s,s∈ws↔∃l∈g.ws,s∈l
 len:ps.length=ws.length
 at':∀i (h:i<ps.length) (h':i<ws.length),ps[i].word=ws[i]/\SlF w ps[i].pl.v (plOf g ws[i])
theorem PosM.up[Le w w']{ws:List ByteArray}{ps:List RPo}(h:PosM w g ws ps):PosM w' g ws ps:=⟨h.ris,h.all,h.len,λi h1 h2=>⟨(h.at' i h1 h2).1,(h.at' i h1 h2).2.up⟩⟩
theorem zHw{κ:Type}[DecidableEq κ](k:κ)(v:Value):∀m:List (κ×Value),(setM k v m).length<=m.length+1
 |[]=>by simp [setM]
 |(k',v')::r=>by
  unfold setM
  split
  ·simp
  ·have:=zHw k v r;simp only [List.length_cons];omega
structure SetB (w:World) (b:Nat) (m:List (Int×Value)) (f:Int->Prop):Prop where
 mp:MapB PP E.qa w b m
 bool:∀p∈m,∃x:Bool,p.2=.bool x
 has:∀n,f n↔(n,Value.bool true)∈m
 len:m.length<=1000
theorem SetB.up[Le w w']{b:Nat}{m:List (Int×Value)}{f:Int->Prop}(h:SetB w b m f):SetB w' b m f:=⟨h.mp.up,h.bool,h.has,h.len⟩
theorem SetB.look{b:Nat}{m:List (Int×Value)}{f:Int->Prop}(h:SetB w b m f)(n:Int):(f n/\(getM m n).getD (.bool false)=.bool true)\/(¬f n/\(getM m n).getD (.bool false)=.bool false):=by
 have hn:=h.mp.2
 cases hg:getM m n with
 |none =>
  refine .inr ⟨λhf=>?_,rfl⟩
  have:=zAA hn ((h.has n).1 hf)
  rw [hg] at this;cases this
 |some v =>
  have hm:=zAU hg
  have q_:=h.bool _ hm
  obtain⟨x,hx⟩:=q_
  simp only at hx;subst hx
  cases x with
  |true=>exact .inl ⟨(h.has n).2 hm,rfl⟩
  |false =>
   refine .inr ⟨λhf=>?_,rfl⟩
   have:=zAA hn ((h.has n).1 hf)
   rw [hg] at this;cases this
theorem zEs{c:Nat}{l:List Int}(h:SlF w (.slice a n c) l)(hn:l.length<=1000):
  Sp PP F.qae #[.slice a n c] w λv w'=>(∃b m,v=.map (some b)/\SetB w' b m (·∈l)/\w.heap.size<=b)/\Stp w w':=by
 have q_:=h.len
 obtain rfl:=q_
 refine en TBok rfl ?_
 refine rmkNB (kt:=E.qa) (κ:=Int) rfl λb w1 n1 M1=>?_
 have hb:=n1.lo (u:=w)
 refine cnt TBok 9 [5] 9 l.length (λk u=>∃m,SetB u b m (·∈l.take k)/\m.length<=k/\Stp w u) rfl rfl ⟨[],⟨M1,by simp,by simp,by simp⟩,by simp,stp⟩ ?_
 rintro k g u hk ⟨m,S,hm,su⟩
 refine ite (λhlt=>?_) (λhge=>?_)
 ·have hka:k<l.length:=by omega
  refine rix (h.up (w':=u)) (x:=l[k]) (by simp) λb1 o1 A1=>rload1 (A1.cell0 rfl) (rupdB S.mp l[k] rfl λu2 M2 f2 _=>?_)
  have hl2:=zHw l[k] (.bool true) m
  have S2:SetB u2 b (setM l[k] (.bool true) m) (·∈l.take (k+1)):=by
   refine⟨M2,λp hp=>?_,λx=>?_,by omega⟩
   ·obtain⟨p1,p2⟩:=p
    have q_:=(zAi S.mp.2).1 hp
    rcases q_ with ⟨_,h2⟩|⟨_,h2⟩
    ·exact⟨true,h2⟩
    ·exact S.bool _ h2
   ·rw [zAi S.mp.2,zAa hka,List.mem_append,List.mem_singleton,S.has]
    constructor
    ·rintro(h1|h1)
     ·by_cases e:x=l[k]
      ·exact .inl ⟨e,rfl⟩
      ·exact .inr ⟨e,h1⟩
     ·exact .inl ⟨h1,rfl⟩
    ·rintro(⟨h1,_⟩|⟨_,h1⟩)
     ·exact .inr h1
     ·exact .inl h1
  exact rA ⟨rfl,hka,_,S2,by omega,⟨Fr.st su.e f2 λi hi=>by omega⟩⟩
 ·have q_:k=l.length:=by omega
  obtain rfl:=q_
  rw [List.take_length] at S
  exact⟨⟨b,m,rfl,S,hb⟩,su⟩
theorem zGU{bs bo:Nat}{ms mo:List (Int×Value)}{f g:Int->Prop}(S:SetB w bs ms f)(O:SetB w bo mo g):
  Sp PP F.yd #[.map (some bs),.map (some bo)] w λv w'=>(∃b m,v=.map (some b)/\SetB w' b m (λn=>f n/\g n)/\w.heap.size<=b)/\Stp w w':=by
 refine en TBok rfl ?_
 refine rmkNB (kt:=E.qa) (κ:=Int) rfl λb w1 n1 M1=>?_
 have hb:=n1.lo (u:=w)
 have hnd:=S.mp.2
 have hlen:=S.len
 refine rnx rfl (rrangeM (S.mp.up (w':=w1)) λr w2 nr It0 _=>?_)
 have hr:=nr.b;have hb1:=n1.b;have hs1:=n1.s
 have hrb:¬b=r:=by omega
 refine loop0G TBok 11 [6,7] (λi u=>∃(done rest:List (Int×Value)) (m:List (Int×Value)),rest.length=i/\(done++rest).Perm ms/\SetB u b m (λn=>(n,Value.bool true)∈done/\g n)/\m.length<=done.length/\(∀p∈m,∃v,(p.1,v)∈done)/\ItB PP E.qa u r bs rest/\Stp w u) rfl
  ⟨_,[],ms,[],rfl,.refl _,⟨M1.up,by simp,by simp,by simp⟩,by simp,by simp,It0,stp⟩ ?_
 rintro i G u ⟨done,rest,m,hi,hp,Su,hml,hmk,It,su⟩
 refine rnx rfl (rnextM It (λhrest=>?_) λx v rest' u2 hp2 hC f2 hsz=>?_)
 ·subst hrest
  rw [List.append_nil] at hp
  refine⟨⟨b,m,rfl,⟨Su.mp,Su.bool,λn=>?_,Su.len⟩,hb⟩,su⟩
  rw [<-Su.has,S.has,hp.mem_iff]
 ·have hxs:(x,v)∈ms:=hp.mem_iff.1 (List.mem_append_right _ (hp2.mem_iff.1 List.mem_cons_self))
  have q_:=S.bool _ hxs
  obtain⟨xb,hxb⟩:=q_
  simp only at hxb;subst hxb
  have s2:Stp w u2:=⟨Fr.st su.e f2 λi hi=>by omega⟩
  have Su2:MapB PP E.qa u2 b m:=Su.mp.fr f2 hrb
  have hp3:(done++[(x,Value.bool xb)]++rest').Perm ms:=by
   rw [List.append_assoc];exact(List.Perm.append_left done hp2).trans hp
  have hxd:∀v,(x,v)∉done:=λv hv=>by
   have hn2:=(hp3.map (·.1)).nodup_iff.2 hnd
   rw [List.map_append,List.map_append] at hn2
   have:=(List.nodup_append.1 (List.nodup_append.1 hn2).1).2.2 x (List.mem_map.2 ⟨_,hv,rfl⟩) x (by simp)
   exact this rfl
  have hdl:=hp3.length_eq
  simp only [List.length_append,List.length_cons,List.length_nil] at hdl
  refine rnx rfl (rentryM hC ?_)
  have fin:∀(y:Bool) (u3:World),(y=true↔xb=true/\g x)->MapB PP E.qa u3 b (setM x (.bool y) m)->Fr (λi=>i=b) u2 u3->∃i',i'<i/\∃(done rest:List (Int×Value)) (m:List (Int×Value)),rest.length=i'/\(done++rest).Perm ms/\SetB u3 b m (λn=>(n,Value.bool true)∈done/\g n)/\m.length<=done.length/\(∀p∈m,∃v,(p.1,v)∈done)/\ItB PP E.qa u3 r bs rest/\Stp w u3:=by
   intro y u3 hy M3 f3
   have hl3:=zHw x (.bool y) m
   have hi2:=hp2.length_eq
   rw [List.length_cons] at hi2
   refine⟨rest'.length,by omega,done++[(x,.bool xb)],rest',setM x (.bool y) m,rfl,hp3,⟨M3,λp hp=>?_,λn=>?_,by omega⟩,by simp;omega,λp hp=>?_,hC.b.fr f3 (λe=>hrb e.symm) (λe=>by have:=S.mp.lt;omega),⟨Fr.st s2.e f3 λi hi=>by omega⟩⟩
   ·obtain⟨p1,p2⟩:=p
    have q_:=(zAi Su.mp.2).1 hp
    rcases q_ with ⟨_,h2⟩|⟨_,h2⟩
    ·exact⟨y,h2⟩
    ·exact Su.bool _ h2
   ·rw [zAi Su.mp.2,List.mem_append,List.mem_singleton]
    constructor
    ·rintro⟨h1|h1,h2⟩
     ·refine .inr ⟨λe=>?_,(Su.has n).1 ⟨h1,h2⟩⟩
      subst e;exact hxd _ h1
     ·injection h1 with h3 h4
      injection h4 with h4
      subst h3
      exact .inl ⟨rfl,by rw [hy.2 ⟨h4.symm,h2⟩]⟩
    ·rintro(⟨h1,h2⟩|⟨h1,h2⟩)
     ·injection h2 with h2
      subst h1
      have q_:=hy.1 h2.symm
      obtain⟨h3,h4⟩:=q_
      exact⟨.inr (by rw [h3]),h4⟩
     ·have q_:=(Su.has n).2 h2
      obtain⟨h3,h4⟩:=q_
      exact⟨.inl h3,h4⟩
   ·obtain⟨p1,p2⟩:=p
    have q_:=(zAi Su.mp.2).1 hp
    rcases q_ with ⟨h1,_⟩|⟨_,h2⟩
    ·exact⟨.bool xb,by rw [h1];simp⟩
    ·obtain⟨v,hv⟩:=hmk _ h2;exact⟨v,List.mem_append_left _ hv⟩
  cases xb with
  |true =>
   have OO:=O.up (w':=u2)
   refine rlook OO.mp.l x rfl ?_
   have q_:=OO.look x
   rcases q_ with ⟨hg,e⟩|⟨hg,e⟩
   ·rw [e]
    exact rupdB Su2 x rfl λu3 M3 f3 _=>fin true u3 (by simp [hg]) M3 f3
   ·rw [e]
    exact rupdB Su2 x rfl λu3 M3 f3 _=>fin false u3 (by simp [hg]) M3 f3
  |false =>
   exact rupdB Su2 x rfl λu3 M3 f3 _=>fin false u3 (by simp) M3 f3
end Go.W
namespace Go.Proofs
open Go.Shelf
def Tryz.sortT_ren:Go.Shelf.Ren:=⟨fun|54=>59|64=>121|65=>120|78=>188|79=>189|80=>179|81=>180|82=>181|83=>182|84=>183|85=>184|61=>185|86=>186|87=>187|93=>241|89=>242|90=>243|94=>244|95=>245|69=>246|97=>292|n=>n,fun|25=>45|26=>9|3=>3|51=>231|0=>0|67=>309|69=>311|4=>4|61=>303|60=>302|44=>129|5=>5|9=>9|75=>383|79=>387|83=>435|84=>436|n=>n,fun|n=>n⟩
theorem Tryz.sortT:Go.Proofs.SlLaysN.n54 Tryz.prog Tryz.sortT_ren:={
 mixed:=by kernel_rfl
 f54:=⟨Tryz.f59.name,by decide,W.ff Tryz.func59⟩
 f61:=⟨Tryz.f185.name,by decide,W.ff Tryz.func185⟩
 f64:=W.ff Tryz.func121
 f65:=⟨Tryz.f120.name,by decide,W.ff Tryz.func120⟩
 f69:=⟨Tryz.f246.name,by decide,W.ff Tryz.func246⟩
 f78:=W.ff Tryz.func188
 f79:=W.ff Tryz.func189
 f80:=⟨Tryz.f179.name,by decide,W.ff Tryz.func179⟩
 f81:=⟨Tryz.f180.name,by decide,W.ff Tryz.func180⟩
 f82:=⟨Tryz.f181.name,by decide,W.ff Tryz.func181⟩
 f83:=⟨Tryz.f182.name,by decide,W.ff Tryz.func182⟩
 f84:=⟨Tryz.f183.name,by decide,W.ff Tryz.func183⟩
 f85:=⟨Tryz.f184.name,by decide,W.ff Tryz.func184⟩
 f86:=⟨Tryz.f186.name,by decide,W.ff Tryz.func186⟩
 f87:=⟨Tryz.f187.name,by decide,W.ff Tryz.func187⟩
 f89:=W.ff Tryz.func242
 f90:=W.ff Tryz.func243
 f93:=⟨Tryz.f241.name,by decide,W.ff Tryz.func241⟩
 f94:=⟨Tryz.f244.name,by decide,W.ff Tryz.func244⟩
 f95:=⟨Tryz.f245.name,by decide,W.ff Tryz.func245⟩
 f97:=⟨Tryz.f292.name,by decide,W.ff Tryz.func292⟩
 t0:=Tryz.underlying0
 a0:=Tryz.isAgg0
 z0:=Tryz.sizeOf0
 v0:=Tryz.zeroValue0
 t3:=Tryz.underlying3
 a3:=Tryz.isAgg3
 z3:=Tryz.sizeOf3
 v3:=Tryz.zeroValue3
 t4:=Tryz.underlying4
 a4:=Tryz.isAgg4
 z4:=Tryz.sizeOf4
 v4:=Tryz.zeroValue4
 t5:=Tryz.underlying5
 a5:=Tryz.isAgg5
 z5:=Tryz.sizeOf5
 v5:=Tryz.zeroValue5
 t9:=Tryz.underlying9
 a9:=Tryz.isAgg9
 z9:=Tryz.sizeOf9
 v9:=Tryz.zeroValue9
 t25:=Tryz.underlying45
 a25:=Tryz.isAgg45
 z25:=Tryz.sizeOf45
 v25:=Tryz.zeroValue45
 t26:=Tryz.underlying9
 a26:=Tryz.isAgg9
 z26:=Tryz.sizeOf9
 v26:=Tryz.zeroValue9
 t44:=Tryz.underlying129
 a44:=Tryz.isAgg129
 z44:=Tryz.sizeOf129
 v44:=Tryz.zeroValue129
 t51:=Tryz.underlying231
 a51:=Tryz.isAgg231
 z51:=Tryz.sizeOf231
 v51:=Tryz.zeroValue231
 t60:=Tryz.underlying302
 a60:=Tryz.isAgg302
 z60:=Tryz.sizeOf302
 v60:=Tryz.zeroValue302
 t61:=Tryz.underlying303
 a61:=Tryz.isAgg303
 z61:=Tryz.sizeOf303
 v61:=Tryz.zeroValue303
 t67:=Tryz.underlying309
 a67:=Tryz.isAgg309
 z67:=Tryz.sizeOf309
 v67:=Tryz.zeroValue309
 t69:=Tryz.underlying311
 a69:=Tryz.isAgg311
 z69:=Tryz.sizeOf311
 v69:=Tryz.zeroValue311
 t75:=Tryz.underlying383
 a75:=Tryz.isAgg383
 z75:=Tryz.sizeOf383
 v75:=Tryz.zeroValue383
 t79:=Tryz.underlying387
 a79:=Tryz.isAgg387
 z79:=Tryz.sizeOf387
 v79:=Tryz.zeroValue387
 t83:=Tryz.underlying435
 a83:=Tryz.isAgg435
 z83:=Tryz.sizeOf435
 v83:=Tryz.zeroValue435
 t84:=Tryz.underlying436
 a84:=Tryz.isAgg436
 z84:=Tryz.sizeOf436
 v84:=Tryz.zeroValue436 }
end Go.Proofs
namespace Go.W
open Go Go.Proofs
open Enc (enc)
set_option maxRecDepth 10000
variable {B N i j k m n n2 n3:Nat} {P:Program} {a a2 a3:Option Addr} {g:GrD} {ps:List Int} {q:QyD} {s:List UInt8} {u u' w w':World}
structure RowM (B:Nat) (w:World) (bm:Nat) (m:List (ByteArray×Value)) (f:ByteArray->List Int):Prop where
 lo:B<=bm
 map:MapL PP E.qg w bm m
 rows:∀s v,(s,v)∈m->Own B E.qa w v (f s)/\f s≠[]
 empt:∀s,s∉m.map (·.1)->f s=[]
 apart:∀s v s' v',(s,v)∈m->(s',v')∈m->s≠s'->∀g,Value.blk v=some g->Value.blk v'≠some g
theorem RowM.up[Le w w']{bm:Nat}{m:List (ByteArray×Value)}{f:ByteArray->List Int}(h:RowM B w bm m f):RowM B w' bm m f:=
 ⟨h.lo,h.map.up,λs v hv=>⟨(h.rows s v hv).1.up,(h.rows s v hv).2⟩,h.empt,h.apart⟩
theorem RowM.kept{es:List TypeId}{bm:Nat}{m:List (ByteArray×Value)}{f:ByteArray->List Int}(h:RowM B w bm m f)(F:FrT B es w w')(h1:E.qa∉es)(h2:mapK∉es):RowM B w' bm m f:=
 ⟨h.lo,h.map.kept F h2,λs v hv=>⟨(h.rows s v hv).1.kept F h1,(h.rows s v hv).2⟩,h.empt,h.apart⟩
theorem RowM.look{bm:Nat}{m:List (ByteArray×Value)}{f:ByteArray->List Int}(h:RowM B w bm m f)(s:ByteArray):
  Own B E.qa w ((getM m s).getD (.slice none 0 0)) (f s)/\∀g,Value.blk ((getM m s).getD (.slice none 0 0))=some g->∃v0,(s,v0)∈m/\Value.blk v0=some g:=by
 cases hg:getM m s with
 |none =>
  rw [h.empt s (zC0.1 hg)]
  exact⟨Own.nil _ _ _,λg hb=>nomatch hb⟩
 |some v =>
  have hm:=zAU hg
  exact⟨(h.rows s v hm).1,λg hb=>⟨v,hm,hb⟩⟩
theorem RowM.push{u1:World}{bm:Nat}{m:List (ByteArray×Value)}{f:ByteArray->List Int}{s:ByteArray}{n:Int}{v':Value}(h:RowM B w bm m f)
  (O:Own B E.qa u1 v' (f s++[n]))(f1:Fr (ownD B ((getM m s).getD (.slice none 0 0))) w u1)
  (hv:Value.blk v'=Value.blk ((getM m s).getD (.slice none 0 0))\/Value.blk v'=some w.heap.size)(M:MapL PP E.qg u bm (setM s v' m))(f2:Fr (λi=>i=bm) u1 u):
  RowM B u bm (setM s v' m) (λs'=>if s'=s then f s'++[n] else f s')/\FrT B [E.qa,mapK] w u:=by
 have q_:=h.look s
 obtain⟨hOo,hin⟩:=q_
 have hnd:=h.map.2
 have F1:FrT B [E.qa,mapK] w u1:=hOo.wrote f1 (Nat.le_refl _) (by decide)
 have M1:MapL PP E.qg u1 bm m:=h.map.frO hOo f1
 have F2:FrT B [E.qa,mapK] u1 u:=M1.wrote f2 h.lo (by decide)
 have F2':FrT B [mapK] u1 u:=M1.wrote f2 h.lo (by decide)
 have lt:∀s2 v2,(s2,v2)∈m->∃g,Value.blk v2=some g/\g<w.heap.size:=λs2 v2 hv2=>by
  have q_:=h.rows s2 v2 hv2
  obtain⟨hO2,hne⟩:=q_
  have q_:=hO2.lt hne
  obtain⟨g,h1,_,h2⟩:=q_
  exact⟨g,h1,h2⟩
 have nd:∀s2 v2,(s2,v2)∈m->s2≠s->∀g,Value.blk v2=some g->¬ownD B ((getM m s).getD (.slice none 0 0)) g:=λs2 v2 hv2 hne g hg hd=>by
  have q_:=hin g hd.2.1
  obtain⟨v0,hm0,hb0⟩:=q_
  exact h.apart s2 v2 s v0 hv2 hm0 hne g hg hb0
 refine⟨⟨h.lo,M,λs2 v2 hv2=>?_,λs2 hs2=>?_,λs2 v2 s3 v3 h2 h3 hne g hg hg3=>?_⟩,F1.trans F2⟩
 ·have q_:=(zAi hnd).1 hv2
  rcases q_ with ⟨rfl,rfl⟩|⟨hne,hm2⟩
  ·rw [if_pos rfl]
   exact⟨O.kept F2' (by decide),by simp⟩
  ·rw [if_neg hne]
   have q_:=h.rows s2 v2 hm2
   obtain⟨hO2,hne2⟩:=q_
   exact⟨(hO2.fr f1 λg _ hg=>nd s2 v2 hm2 hne g hg).kept F2' (by decide),hne2⟩
 ·have hns:s2≠s:=by rintro rfl;exact hs2 ((setM_keys s2 v' m s2).2 (.inl rfl))
  rw [if_neg hns]
  exact h.empt s2 λhm=>hs2 ((setM_keys s v' m s2).2 (.inr hm))
 ·have q_:=(zAi hnd).1 h2
  rcases q_ with ⟨rfl,rfl⟩|⟨hne2,hm2⟩
  ·have q_:=(zAi hnd).1 h3
   rcases q_ with ⟨e,_⟩|⟨hne3,hm3⟩
   ·exact hne e.symm
   ·rcases hv with hv|hv
    ·rw [hv] at hg
     have q_:=hin g hg
     obtain⟨v0,hm0,hb0⟩:=q_
     exact h.apart _ v0 s3 v3 hm0 hm3 hne g hb0 hg3
    ·rw [hv] at hg;cases hg
     have q_:=lt s3 v3 hm3
     obtain⟨g',h1,h4⟩:=q_
     rw [h1] at hg3;cases hg3;omega
  ·have q_:=(zAi hnd).1 h3
   rcases q_ with ⟨rfl,rfl⟩|⟨hne3,hm3⟩
   ·rcases hv with hv|hv
    ·rw [hv] at hg3
     have q_:=hin g hg3
     obtain⟨v0,hm0,hb0⟩:=q_
     exact h.apart s2 v2 _ v0 hm2 hm0 hne g hg hb0
    ·rw [hv] at hg3;cases hg3
     have q_:=lt s2 v2 hm2
     obtain⟨g',h1,h4⟩:=q_
     rw [h1] at hg;cases hg;omega
   ·exact h.apart s2 v2 s3 v3 hm2 hm3 hne g hg hg3
def fK (g:GrD) (k:Nat) (s:ByteArray):List Int:=((List.range k).filter λv=>(g.ws.getD v []).contains s).map λv:Nat=>(v:Int)
def fJ (g:GrD) (k j:Nat) (s:ByteArray):List Int:=fK g k s++if s∈(g.ws.getD k []).take j then [(k:Int)] else []
theorem fK_len(g:GrD)(k:Nat)(s:ByteArray):(fK g k s).length<=k:=by
 unfold fK
 rw [List.length_map]
 exact Nat.le_trans (List.length_filter_le _ _) (by simp)
theorem zDm(g:GrD)(k:Nat):fJ g k 0=fK g k:=by
 funext s;simp [fJ]
theorem fJ_end(h:j=(g.ws.getD k []).length):fJ g k j=fK g (k+1):=by
 funext s
 subst h
 unfold fJ fK
 rw [List.take_length,List.range_succ,List.filter_append,List.map_append]
 congr 1
 simp only [List.filter_cons,List.filter_nil,List.contains_iff_mem]
 split <;> simp
theorem zNW{l:List ByteArray}(hl:g.ws.getD k []=l)(hj:j<l.length)(hn:l.Nodup):fJ g k (j+1)=λs=>if s=l[j] then fJ g k j s++[(k:Int)] else fJ g k j s:=by
 funext s
 unfold fJ
 rw [hl,zAa hj]
 simp only [List.mem_append,List.mem_singleton]
 by_cases e:s=l[j]
 ·rw [if_pos e,if_pos (.inr e)]
  have:s∉l.take j:=by
   rw [e,List.mem_take_iff_getElem]
   rintro⟨i,hi,he⟩
   have:=(List.getElem_inj hn).1 he
   omega
  rw [if_neg this,List.append_nil]
 ·rw [if_neg e]
  simp [e]
theorem ltW_nd{l:List ByteArray}(h:l.Pairwise ltW):l.Nodup:=by
 rw [List.nodup_iff_pairwise_ne]
 exact h.imp λ{a b} hab e=>by subst e;exact List.lt_irrefl _ hab
theorem zN7(hw:g.ws.length=g.n){s:ByteArray}:plOf g s≠[]↔∃l∈g.ws,s∈l:=by
 constructor
 ·intro h
  have q_:=List.exists_cons_of_ne_nil h
  obtain⟨x,r,e⟩:=q_
  have hx:x∈plOf g s:=by rw [e];exact List.mem_cons_self
  have q_:=zBY.1 hx
  obtain⟨v,_,hv,hs⟩:=q_
  have hv2:v<g.ws.length:=by omega
  rw [List.getD_eq_getElem?_getD,List.getElem?_eq_getElem hv2,Option.getD_some] at hs
  exact⟨_,List.getElem_mem hv2,hs⟩
 ·rintro⟨l,hl,hs⟩ h
  have q_:=List.mem_iff_getElem.1 hl
  obtain⟨v,hv,rfl⟩:=q_
  have:(v:Int)∈plOf g s:=zBY.2 ⟨v,rfl,by omega,by rw [List.getD_eq_getElem?_getD,List.getElem?_eq_getElem hv,Option.getD_some];exact hs⟩
  rw [h] at this;cases this
def MakI (g:GrD) (B bm:Nat) (k j:Nat) (v:Value) (u:World):Prop:=
 ∃m Wd,Own B E.qg u v Wd/\RowM B u bm m (fJ g k j)/\Wd.Nodup/\(∀s,s∈Wd↔fJ g k j s≠[])/\Wd.length<=8*k+j
theorem zGT{x:RGr}{vs:List SV}(V:GrV w x g vs)(hg:GrIs g):
  Sp PP F.d3 #[agg x] w λv w'=>(∃a c ps ws,v=.tuple #[.slice a ps.length c,.int .i64 0]/\PosM w' g ws ps/\SlF w' (.slice a ps.length c) ps/\ps.length<=2000/\Own w.heap.size E.q8 w' (.slice a ps.length c) ps/\∀i (h:i<ps.length) (h':i<ws.length),Own w.heap.size E.qa w' ps[i].pl.v (plOf g ws[i]))/\Stp w w':=by
 have hn2:=hg.ok.n2
 have hnw:=hg.nw
 have hvs:vs.length=g.ws.length:=V.rows.1
 obtain⟨xn,xe,⟨wa,wn,wc⟩⟩:=x
 have q_:vs.length=wn:=V.ws.len.symm
 obtain rfl:=q_
 have hVs:SlF w (.slice wa vs.length wc) vs:=V.ws
 have hagg:agg (⟨xn,xe,⟨wa,vs.length,wc⟩⟩:RGr)=.agg #[.int .i64 xn,.slice xe.a xe.n xe.c,.slice wa vs.length wc]:=rfl
 rw [hagg]
 refine en TBok rfl ?_
 refine rbx λb w1 n1 B1=>rldG (ds:=[.int .i64 xn,.slice xe.a xe.n xe.c,.slice wa vs.length wc]) (B:=B1) rfl rfl (rcall (zDh (V.up (w':=w1))) ?_)
 rintro _ w2 ⟨⟨rfl,_⟩|⟨rfl,h2⟩,e2⟩
 case' inr=>exact absurd hg h2
 refine rmkN (kt:=E.qg) (κ:=ByteArray) rfl λbm w3 n3 M3=>?_
 have hbm:=n3.lo (u:=w)
 refine rld (B:=B1) rfl ?_
 have R0:RowM w.heap.size w3 bm [] (fK g 0):=⟨hbm,M3,by simp,λs _=>rfl,by simp⟩
 have I0:MakI g w.heap.size bm 0 0 (.slice none 0 0) w3:=⟨[],[],Own.nil _ _ _,by rw [zDm];exact R0,.nil,λs=>by rw [zDm];simp [fK],by simp⟩
 refine cnt1 TBok 20 [6,7,9] 5 20 vs.length (λk v u=>MakI g w.heap.size bm k 0 v u/\Stp w u) rfl rfl ⟨I0,stp⟩ ?_
 rintro k v G u hk ⟨I,su⟩
 refine ite (λhlt=>?_) (λhge=>?_)
 ·have hka:k<vs.length:=by omega
  have hkw:k<g.ws.length:=by omega
  refine rix (hVs.up (w':=u)) (x:=vs[k]) (by simp) λb1 o1 A1=>rload1 (A1.cell0 rfl) ?_
  have hR:SlF w vs[k].v g.ws[k]:=V.rows.2 k hka hkw
  have hlk:g.ws.getD k []=g.ws[k]:=by rw [List.getD_eq_getElem?_getD,List.getElem?_eq_getElem hkw,Option.getD_some]
  have hln:=hR.len
  have hl8:=(hg.word _ (List.getElem_mem hkw)).1
  have hnd:=ltW_nd (hg.wr _ (List.getElem_mem hkw))
  generalize hlv:g.ws[k]=l at *
  generalize hsv:vs[k]=sv at *
  obtain⟨sa,sn,sc⟩:=sv
  simp only at hln;subst hln
  refine cnt1 TBok 27 [9] 5 27 l.length (λj v u=>MakI g w.heap.size bm k j v u/\Stp w u) rfl rfl ⟨I,su⟩ ?_
  rintro j v G2 u2 hj ⟨⟨m,Wd,OW,RM,hWn,hWm,hWl⟩,s2⟩
  refine ite (λhlt2=>?_) (λhge2=>?_)
  ·dsimp only at hlt2
   have hja:j<l.length:=by omega
   refine rix (hR.up (w':=u2)) (x:=l[j]) (by simp) λb3 o3 A3=>rload1 (A3.cell0 rfl) ?_
   have hlook:=RM.look l[j]
   obtain⟨O,hin⟩:=hlook
   have O':=O
   have hsh:=O.shape
   obtain⟨oa,oc,hov⟩:=hsh
   rw [hov] at O'
   refine rlookE RM.map l[j] rfl (by exact hov) ?_
   have hfl:(fJ g k j l[j]).length<=201:=by
    unfold fJ
    rw [List.length_append]
    have:=fK_len g k l[j]
    split <;> simp <;> omega
   have hstep:=zNW hlk hja hnd
   have hw2:w.heap.size<=u2.heap.size:=Le.size (a:=w) (b:=u2)
   have fin:∀(u0 u1 u3:World) (v2 v':Value) (Wd2:List ByteArray),Own w.heap.size E.qg u0 v2 Wd2->RowM w.heap.size u0 bm m (fJ g k j)->Wd2.Nodup->(∀s,s∈Wd2↔s=l[j]\/fJ g k j s≠[])->Wd2.length<=8*k+(j+1)->Stp w u0 ->
     Own w.heap.size E.qa u1 v' (fJ g k j l[j]++[(k:Int)])->Fr (ownD w.heap.size ((getM m l[j]).getD (.slice none 0 0))) u0 u1->(Value.blk v'=Value.blk ((getM m l[j]).getD (.slice none 0 0))\/Value.blk v'=some u0.heap.size) ->
     MapL PP E.qg u3 bm (setM l[j] v' m)->Fr (λi=>i=bm) u1 u3->MakI g w.heap.size bm k (j+1) v2 u3/\Stp w u3:=λu0 u1 u3 v2 v' Wd2 O2 R2 h1 h2 h3 s0 O1 f1 hv M3 f3=>by
    have hc:=R2.push O1 f1 hv M3 f3
    rw [<-hstep] at hc
    refine⟨⟨_,Wd2,O2.kept hc.2 (by decide),hc.1,h1,λs=>?_,h3⟩,⟨FrT.st s0.e hc.2 (Nat.le_refl _)⟩⟩
    rw [h2,hstep]
    by_cases e:s=l[j]
    ·simp [e]
    ·simp [e]
   refine ite (λhz=>?_) (λhnz=>?_)
   ·have hz0:fJ g k j l[j]=[]:=List.eq_nil_of_length_eq_zero (by omega)
    have hnw2:l[j]∉Wd:=λhm=>(hWm _).1 hm hz0
    refine rbs1 l[j] rfl rfl (by decide) λb3 w3 n3 _ S3=>rapp1 (u:=w) ⟨rfl,rfl⟩ (OW.up (w':=w3)) S3 (by omega) λv3 u3 OW3 f3 s3=>?_
    have RM3:RowM w.heap.size u3 bm m (fJ g k j):=(RM.up (w':=w3)).kept ((OW.up (w':=w3)).wrote f3 (Nat.le_refl _) (show E.qg∈[E.qg] by decide)) (by decide) (by decide)
    have O3:=(RM3.look l[j]).1
    have q_:∃x,x=Wd++[l[j]]:=⟨_,rfl⟩
    obtain⟨Wd3,hWd3⟩:=q_
    rw [<-hWd3] at OW3
    have hN3:Wd3.Nodup:=by
     rw [hWd3,List.nodup_append]
     exact⟨hWn,by simp,λa ha b hb e=>hnw2 (by rw [List.mem_singleton.1 hb] at e;exact e ▸ ha)⟩
    have hM3:∀s,s∈Wd3↔s=l[j]\/fJ g k j s≠[]:=λs=>by
     rw [hWd3,List.mem_append,List.mem_singleton,hWm];exact Or.comm
    have hL3:Wd3.length<=8*k+(j+1):=by rw [hWd3];simp;omega
    refine rlook RM3.map l[j] rfl (rbs1 (k:Int) rfl rfl (by decide) λb5 w5 n5 _ S5=>?_)
    have h5:w.heap.size<=w5.heap.size:=Le.size (a:=w) (b:=w5)
    refine rappD ⟨rfl,rfl⟩ (O3.up (w':=w5)) S5 (by simp) h5 (by simp;omega) λv6 w6 O6 f6 hv=>?_
    have M6:MapL PP E.qg w6 bm m:=(RM3.map.up (w':=w5)).frO (O3.up (w':=w5)) f6
    refine rupd M6 l[j] rfl λw7 M7 f7 _=>?_
    have q7:=fin w5 w6 w7 v3 v6 Wd3 (OW3.up (w':=w5)) (RM3.up (w':=w5)) hN3 hM3 hL3 stp O6 f6 hv M7 f7
    exact rA ⟨rfl,hja,q7.1,q7.2⟩
   ·have hne0:fJ g k j l[j]≠[]:=λe=>hnz (by rw [e];rfl)
    have q_:∃x,x=v:=⟨_,rfl⟩
    obtain⟨v3,rfl⟩:=q_
    have q_:∃x,x=Wd:=⟨_,rfl⟩
    obtain⟨Wd3,hWd3⟩:=q_
    have OW3:=OW
    have RM3:=RM
    have O3:=O
    have hN3:=hWn
    rw [<-hWd3] at OW3
    rw [<-hWd3] at hN3
    have hM3:∀s,s∈Wd3↔s=l[j]\/fJ g k j s≠[]:=λs=>by
     rw [hWd3,hWm]
     constructor
     ·exact .inr
     ·rintro(rfl|h)
      ·exact hne0
      ·exact h
    have hL3:Wd3.length<=8*k+(j+1):=by rw [hWd3];omega
    refine rlook RM3.map l[j] rfl (rbs1 (k:Int) rfl rfl (by decide) λb5 w5 n5 _ S5=>?_)
    have h5:w.heap.size<=w5.heap.size:=Le.size (a:=w) (b:=w5)
    refine rappD ⟨rfl,rfl⟩ (O3.up (w':=w5)) S5 (by simp) h5 (by simp;omega) λv6 w6 O6 f6 hv=>?_
    have M6:MapL PP E.qg w6 bm m:=(RM3.map.up (w':=w5)).frO (O3.up (w':=w5)) f6
    refine rupd M6 l[j] rfl λw7 M7 f7 _=>?_
    have q7:=fin w5 w6 w7 v3 v6 Wd3 (OW3.up (w':=w5)) (RM3.up (w':=w5)) hN3 hM3 hL3 stp O6 f6 hv M7 f7
    exact rA ⟨rfl,hja,q7.1,q7.2⟩
  ·dsimp only at hge2
   have q_:j=l.length:=by omega
   obtain rfl:=q_
   rw [fJ_end (by rw [hlk])] at RM hWm
   exact rA ⟨rfl,hka,⟨m,Wd,OW,by rw [zDm];exact RM,hWn,λs=>by rw [zDm];exact hWm s,by omega⟩,s2⟩
 ·have q_:k=vs.length:=by omega
  obtain rfl:=q_
  obtain⟨m,Wd,OW,RM,hWn,hWm,hWl⟩:=I
  rw [zDm] at RM hWm
  rw [show vs.length=g.n by omega] at RM hWm
  refine rcall (zNs Tryz.sortT (f:=F.z3) rfl OW (by omega)) ?_
  rintro _ u2 ⟨rfl,Ws,hp,hs,OS,f2⟩
  have RM2:RowM w.heap.size u2 bm m (fK g g.n):=RM.kept (OW.wrote f2 (Nat.le_refl _) (show E.qg∈[E.qg] by decide)) (by decide) (by decide)
  have s2:Stw w u u2:=zAz f2
  have hWs:Ws.Nodup:=hp.nodup_iff.2 hWn
  have hl2:=hp.length_eq
  have P0:(∀s,s∈Ws↔∃l∈g.ws,s∈l):=λs=>by rw [hp.mem_iff,hWm,<-zN7 hg.nw];rfl
  have hrs:Ws.Pairwise ltW:=by
   rw [List.nodup_iff_pairwise_ne] at hWs
   exact(hs.and hWs).imp λ{a b} ⟨h1,h2⟩=>by
    have q_:=zHY a b
    rcases q_ with h|h|h
    ·exact h
    ·exact absurd h h2
    ·exact absurd h1 (List.not_le.2 h)
  have q_:=OS.shape
  obtain⟨wsa,wsc,rfl⟩:=q_
  refine cnt1 TBok 54 [12] 10 54 Ws.length (λk v u=>∃ps:List RPo,Own w.heap.size E.q8 u v ps/\ps.length=k/\(∀i (h:i<ps.length) (h':i<Ws.length),ps[i].word=Ws[i]/\ps[i].pl.v=(getM m Ws[i]).getD (.slice none 0 0))/\RowM w.heap.size u bm m (fK g g.n)/\Own w.heap.size E.qg u (.slice wsa Ws.length wsc) Ws/\Stp w u) rfl rfl
   ⟨[],Own.nil _ _ _,rfl,by simp,RM2,OS,stp⟩ ?_
  rintro k v G3 u3 hk3 ⟨ps,OP,hpl,hps,RM3,OS3,s3⟩
  refine ite (λhlt3=>?_) (λhge3=>?_)
  ·have hka:k<Ws.length:=by omega
   refine rix OS3.sl (x:=Ws[k]) (by simp) λb3 o3 A3=>rload1 (A3.cell0 rfl) ?_
   have hlook:=RM3.look Ws[k]
   obtain⟨O,hin⟩:=hlook
   have hsh:=O.shape
   obtain⟨oa,oc,hov⟩:=hsh
   refine rlookE RM3.map Ws[k] rfl (by exact hov) ?_
   refine rbuild (cs:=enc (⟨Ws[k],⟨oa,(fK g g.n Ws[k]).length,oc⟩⟩:RPo)) rfl (rbs1 (⟨Ws[k],⟨oa,(fK g g.n Ws[k]).length,oc⟩⟩:RPo) rfl rfl (by decide) λb5 w5 n5 _ S5=>rapp1 (u:=w) ⟨rfl,rfl⟩ (OP.up (w':=w5)) S5 (by omega) λv6 w6 O6 f6 s6=>?_)
   have F6:FrT w.heap.size [E.q8] w5 w6:=(OP.up (w':=w5)).wrote f6 (Nat.le_refl _) (by decide)
   have hps6:∀i (h:i<(ps++[(⟨Ws[k],⟨oa,(fK g g.n Ws[k]).length,oc⟩⟩:RPo)]).length) (h':i<Ws.length),(ps++[(⟨Ws[k],⟨oa,(fK g g.n Ws[k]).length,oc⟩⟩:RPo)])[i].word=Ws[i]/\(ps++[(⟨Ws[k],⟨oa,(fK g g.n Ws[k]).length,oc⟩⟩:RPo)])[i].pl.v=(getM m Ws[i]).getD (.slice none 0 0):=λi h h'=>by
    by_cases hi:i<ps.length
    ·rw [List.getElem_append_left hi];exact hps i hi h'
    ·have h3:i=k:=by simp at h;omega
     subst h3
     rw [List.getElem_append_right (by omega)]
     simp only [hpl,Nat.sub_self,List.getElem_cons_zero]
     exact⟨trivial,hov.symm⟩
   exact rA ⟨rfl,hka,_,O6,by simp [hpl],hps6,(RM3.up (w':=w5)).kept F6 (by decide) (by decide),(OS3.up (w':=w5)).kept F6 (by decide),stp⟩
  ·have q_:k=Ws.length:=by omega
   obtain rfl:=q_
   have q_:=OP.shape
   obtain⟨pa,pc,rfl⟩:=q_
   have hO:∀i (h:i<ps.length) (h':i<Ws.length),Own w.heap.size E.qa u3 ps[i].pl.v (plOf g Ws[i]):=λi h h'=>by
    rw [(hps i h h').2];exact(RM3.look Ws[i]).1
   exact⟨⟨pa,pc,ps,Ws,rfl,⟨hrs,P0,hpl,λi h h'=>⟨(hps i h h').1,(hO i h h').sl⟩⟩,OP.sl,by omega,OP,hO⟩,s3⟩
theorem zLH:∀{a b:List Int},a.Pairwise (· < ·)->b.Pairwise (· < ·)->(∀x,x∈a↔x∈b)->a=b:=by
 intro a b ha hb h
 have hna:a.Nodup:=by rw [List.nodup_iff_pairwise_ne];exact ha.imp λh=>by omega
 have hnb:b.Nodup:=by rw [List.nodup_iff_pairwise_ne];exact hb.imp λh=>by omega
 have hp:=(List.perm_ext_iff_of_nodup hna hnb).2 h
 exact hp.eq_of_pairwise (λx y _ _ h1 h2=>by omega) (ha.imp λh=>Int.le_of_lt h) (hb.imp λh=>Int.le_of_lt h)
def isT:Value->Bool
 |.bool true=>true
 |_=>false
theorem zN1{v:Value}:isT v=true↔v=.bool true:=by
 unfold isT;split <;> simp_all
theorem zFB{bs:Nat}{ms:List (Int×Value)}{f:Int->Prop}(S:SetB w bs ms f):
  Sp PP F.pc #[.map (some bs)] w λv w'=>(∃L:List Int,L.Pairwise (· < ·)/\(∀n,n∈L↔f n)/\Own w.heap.size E.qa w' v L)/\Stp w w':=by
 have hnd:=S.mp.2
 have hlen:=S.len
 refine en TBok rfl ?_
 refine rnx rfl (rrangeM S.mp λr w2 nr It0 _=>?_)
 have hr:=nr.b
 refine loop1G TBok 8 [4,5] 3 (λi v u=>∃(done rest:List (Int×Value)) (L:List Int),rest.length=i/\(done++rest).Perm ms/\L=(done.filter λp=>isT p.2).map (·.1)/\Own w.heap.size E.qa u v L/\ItB PP E.qa u r bs rest/\Stp w u) rfl
  ⟨_,[],ms,[],rfl,.refl _,rfl,Own.nil _ _ _,It0,stp⟩ ?_
 rintro i vl G u ⟨done,rest,L,hi,hp,rfl,O,It,su⟩
 have hdl:=hp.length_eq
 rw [List.length_append] at hdl
 have hLl:((done.filter λp=>isT p.2).map (·.1)).length<=done.length:=by rw [List.length_map];exact List.length_filter_le _ _
 refine rnx rfl (rnextM It (λhrest=>?_) λx v rest' u2 hp2 hC f2 hsz=>?_)
 ·subst hrest
  rw [List.append_nil] at hp
  refine rcall (zNr Tryz.sortI (f:=F.df) rfl O (by omega)) ?_
  rintro _ u2 ⟨rfl,O2,f2⟩
  have s2:Stw w u u2:=zAz f2
  refine⟨⟨_,?_,λn=>?_,O2⟩,stp⟩
  ·have hr1:=zMr ((done.filter λp=>isT p.2).map (·.1))
   have hp1:=zIc ((done.filter λp=>isT p.2).map (·.1))
   have hn1:((done.filter λp=>isT p.2).map (·.1)).Nodup:=by
    have h1:(done.map (·.1)).Nodup:=(hp.map _).nodup_iff.2 hnd
    exact h1.sublist ((List.filter_sublist ..).map _)
   have hn2:=hp1.nodup_iff.2 hn1
   rw [List.nodup_iff_pairwise_ne] at hn2
   exact(hr1.and hn2).imp λ{a b} ⟨g1,g2⟩=>by omega
  ·rw [(zIc _).mem_iff,S.has,<-hp.mem_iff,List.mem_map]
   constructor
   ·rintro⟨⟨p1,p2⟩,hp1,rfl⟩
    have q_:=List.mem_filter.1 hp1
    obtain⟨h1,h2⟩:=q_
    rw [<-zN1.1 h2];exact h1
   ·intro h
    exact⟨_,List.mem_filter.2 ⟨h,rfl⟩,rfl⟩
 ·have hxs:(x,v)∈ms:=hp.mem_iff.1 (List.mem_append_right _ (hp2.mem_iff.1 List.mem_cons_self))
  have q_:=S.bool _ hxs
  obtain⟨xb,hxb⟩:=q_
  simp only at hxb;subst hxb
  have s2:Stp w u2:=⟨Fr.st su.e f2 λi hi=>by omega⟩
  have hp3:(done++[(x,Value.bool xb)]++rest').Perm ms:=by
   rw [List.append_assoc];exact(List.Perm.append_left done hp2).trans hp
  have hi2:=hp2.length_eq
  rw [List.length_cons] at hi2
  have O2:Own w.heap.size E.qa u2 vl ((done.filter λp=>isT p.2).map (·.1)):=O.itq (It.itq f2 (Nat.le_refl r))
  refine rnx rfl (rentryM hC ?_)
  cases xb with
  |true =>
   refine rbs1 x rfl rfl (by decide) λb6 u6 e6 _ S6=>rapp1 (u:=w) ⟨rfl,rfl⟩ (O2.up (w':=u6)) S6 (by omega) λv7 u7 O7 f7 s7=>?_
   have e7:((done++[(x,Value.bool true)]).filter λp=>isT p.2).map (·.1)=(done.filter λp=>isT p.2).map (·.1)++[x]:=by
    rw [List.filter_append,List.map_append];simp [isT]
   rw [<-e7] at O7
   have It7:=hC.b.up (w':=u6)
   have It8:=It7.fro (O2.up (w':=u6)) f7
   have fin:∃(done rest0:List (Int×Value)) (L:List Int),rest0.length=rest'.length/\(done++rest0).Perm ms/\L=(done.filter λp=>isT p.2).map (·.1)/\Own w.heap.size E.qa u7 v7 L/\ItB PP E.qa u7 r bs rest0/\Stp w u7:=⟨done++[(x,Value.bool true)],rest',_,rfl,hp3,rfl,O7,It8,stp⟩
   exact⟨rest'.length,by omega,fin⟩
  |false =>
   have e7:((done++[(x,Value.bool false)]).filter λp=>isT p.2).map (·.1)=(done.filter λp=>isT p.2).map (·.1):=by
    rw [List.filter_append,List.map_append];simp [isT]
   rw [<-e7] at O2
   have fin:∃(done rest0:List (Int×Value)) (L:List Int),rest0.length=rest'.length/\(done++rest0).Perm ms/\L=(done.filter λp=>isT p.2).map (·.1)/\Own w.heap.size E.qa u2 vl L/\ItB PP E.qa u2 r bs rest0/\Stp w u2:=⟨done++[(x,Value.bool false)],rest',_,rfl,hp3,rfl,O2,hC.b,s2⟩
   exact⟨rest'.length,by omega,fin⟩
theorem zMe(hw:g.ws.length=g.n){s:ByteArray}(h:¬∃l∈g.ws,s∈l):plOf g s=[]:=by
 cases hp:plOf g s with
 |nil=>rfl
 |cons x r =>
  have:x∈plOf g s:=by rw [hp];exact List.mem_cons_self
  have q_:=zBY.1 this
  obtain⟨v,_,hv,hs⟩:=q_
  exfalso
  have hvl:v<g.ws.length:=by omega
  rw [List.getD_eq_getElem?_getD,List.getElem?_eq_getElem hvl] at hs
  exact h ⟨_,List.getElem_mem hvl,hs⟩
theorem zDa{c:Nat}{ws:List ByteArray}{ps:List RPo}{s:ByteArray}(h:SlF w (.slice a n c) ps)(M:PosM w g ws ps)(hg:GrIs g)(hn:ps.length<=100000):
  Sp PP F.cc #[.slice a n c,.string s] w λv w'=>Own w.heap.size E.qa w' v (plOf g s)/\Stp w w':=by
 have hn2:=hg.ok.n2
 have q_:=h.len
 obtain rfl:=q_
 have hpl:=zGf g s
 refine en TBok rfl ?_
 refine cnt TBok 9 [4,6] 9 ps.length (λk u=>(∀x∈ws.take k,x≠s)/\Stp w u) rfl rfl ⟨by simp,stp⟩ ?_
 rintro k G u hk ⟨hall,e⟩
 refine ite (λhlt=>?_) (λhge=>?_)
 ·have hka:k<ps.length:=by omega
  have hkw:k<ws.length:=by have:=M.len;omega
  have q_:=M.at' k hka hkw
  obtain⟨hw1,hs1⟩:=q_
  refine rix (h.up (w':=u)) (x:=ps[k]) (by simp) λb1 o1 A1=>rloadA A1 rfl (ral λb2 u2 n2 z2=>rsto (B:=z2) (vs:=enc ps[k]) rfl rfl rfl (Enc.one _) λu3 X3 f3 _=>?_)
  have X3:Bk u3 b2 (enc ps[k]) E.q8:=X3
  have s3:Stp u u3:=⟨Fr.st Le.e f3 λi hi=>by subst hi;exact n2.lo⟩
  refine rld (B:=X3) rfl (rseq (λh1=>?_) (λh1=>?_))
  ·rw [hw1] at h1
   rw [h1] at hs1
   refine rld (B:=X3) rfl (rcall (zA9 (hs1.up (w':=u3)) (by omega)) ?_)
   rintro v u4 ⟨O4,e4⟩
   exact⟨O4.mono (Le.size (a:=w) (b:=u3)),stp⟩
  ·refine rA ⟨rfl,hka,λt ht=>?_,stp⟩
   rw [zAa hkw] at ht
   have q_:=List.mem_append.1 ht
   rcases q_ with ht|ht
   ·exact hall t ht
   ·rw [List.mem_singleton.1 ht,<-hw1];exact h1
 ·have q_:k=ps.length:=by omega
  obtain rfl:=q_
  rw [M.len,List.take_length] at hall
  rw [zMe hg.nw λhex=>hall s ((M.all s).2 hex) rfl]
  exact⟨Own.nil _ _ _,e⟩
theorem zGg{v:Value}:Sp PP F.qv #[v] w λr w'=>r=.func (.func F.yd) #[v] #[]/\w'=w:=by
 refine en TBok rfl ?_
 exact⟨rfl,rfl⟩
theorem zE2{tw:TypeId}{c bw bl:Nat}{ws:List ByteArray}{ps:List RPo}{s:ByteArray}{bs:Nat}{ms:List (Int×Value)}{f:Int->Prop}(h:SlF w (.slice a ps.length c) ps)(M:PosM w g ws ps)(hg:GrIs g)(hn:ps.length<=100000)
  (W:Bk w bw [.func (.func F.qv) #[] #[]] tw)(L:Bk w bl [.slice a ps.length c] E.ya)(S:SetB w bs ms f):
  Sp PP F.ym #[.map (some bs),.string s,.pointer (some ⟨bw,0,none⟩),.pointer (some ⟨bl,0,none⟩)] w λv w'=>(∃b m,v=.map (some b)/\SetB w' b m (λn=>f n/\n∈plOf g s))/\Stp w w':=by
 have hpl:=zGf g s
 have hn2:=hg.ok.n2
 refine en TBok rfl ?_
 refine drawR TBok mixed (λ_=>False) [0,1,3,4,2,5,6,7,8] (by kernel_rfl) λw1 e1 _=>tld (B:=W) rfl nf (tld (B:=L) rfl nf ?_)
 refine rcall zGg ?_
 rintro _ w1' ⟨rfl,rfl⟩
 refine⟨Fr.refl _ _,?_⟩
 refine rcall (zDa (s:=s) (h.up (w':=w1')) (M.up (w':=w1')) hg hn) ?_
 rintro v w2 ⟨O2,e2⟩
 refine⟨e2.e,?_⟩
 have q_:=O2.shape
 obtain⟨oa,oc,rfl⟩:=q_
 refine rcall (zEs O2.sl (by omega)) ?_
 rintro _ w3 ⟨⟨b3,m3,rfl,S3,hb3⟩,e3⟩
 refine⟨e3.e,?_⟩
 refine rcall (zGU (S.up (w':=w3)) S3) ?_
 rintro _ w4 ⟨⟨b4,m4,rfl,S4,hb4⟩,e4⟩
 refine⟨e4.e,?_⟩
 exact⟨⟨b4,m4,rfl,S4⟩,stp⟩
theorem zFA{tw:TypeId}{c c2 bw bl:Nat}{ws:List ByteArray}{ps:List RPo}{l:List ByteArray}{bs:Nat}{ms:List (Int×Value)}{f:Int->Prop}(h:SlF w (.slice a ps.length c) ps)(M:PosM w g ws ps)(hg:GrIs g)(hn:ps.length<=100000)
  (W:Bk w bw [.func (.func F.qv) #[] #[]] tw)(L:Bk w bl [.slice a ps.length c] E.ya)(S:SetB w bs ms f)(hl:SlF w (.slice a2 n2 c2) l)(hln:l.length<=1000000):
  Sp PP F.zd #[.map (some bs),.slice a2 n2 c2,.func (.func F.ym) #[] #[.pointer (some ⟨bw,0,none⟩),.pointer (some ⟨bl,0,none⟩)]] w λv w'=>(∃b m,v=.map (some b)/\SetB w' b m (λn=>f n/\∀s∈l,n∈plOf g s))/\Stp w w':=by
 have q_:=hl.len
 obtain rfl:=q_
 refine en TBok rfl ?_
 refine cnt1 TBok 11 [8] 0 11 l.length (λk v u=>(∃b m,v=.map (some b)/\SetB u b m (λn=>f n/\∀s∈l.take k,n∈plOf g s))/\Stp w u) rfl rfl ⟨⟨bs,ms,rfl,by simpa using S⟩,stp⟩ ?_
 rintro k v G u hk ⟨⟨b,m,rfl,Su⟩,su⟩
 refine ite (λhlt=>?_) (λhge=>?_)
 ·have hka:k<l.length:=by omega
  refine rix (hl.up (w':=u)) (x:=l[k]) (by simp) λb1 o1 A1=>rload1 (A1.cell0 rfl) (rcall (zE2 (s:=l[k]) (h.up (w':=u)) (M.up (w':=u)) hg hn (W.mv (w:=u)) (L.mv (w:=u)) Su) ?_)
  rintro _ u2 ⟨⟨b2,m2,rfl,S2⟩,e2⟩
  have S3:SetB u2 b2 m2 (λn=>f n/\∀s∈l.take (k+1),n∈plOf g s):=⟨S2.mp,S2.bool,λn=>by
   rw [<-S2.has,zAa hka]
   simp only [List.mem_append,List.mem_singleton]
   constructor
   ·rintro⟨h1,h2⟩
    exact⟨⟨h1,λs hs=>h2 s (.inl hs)⟩,h2 _ (.inr rfl)⟩
   ·rintro⟨⟨h1,h2⟩,h3⟩
    refine⟨h1,λs hs=>?_⟩
    rcases hs with hs|rfl
    ·exact h2 s hs
    ·exact h3,S2.len⟩
  exact rA ⟨rfl,hka,⟨b2,m2,rfl,S3⟩,stp⟩
 ·have q_:k=l.length:=by omega
  obtain rfl:=q_
  rw [List.take_length] at Su
  exact⟨⟨b,m,rfl,Su⟩,su⟩
theorem zLE{q:List ByteArray}{L:List Int}(hL:L.Pairwise (· < ·))(hq:q≠[])(hm:∀n,n∈L↔∀s∈q,n∈plOf g s):L=placesL g q:=by
 refine zLH hL ?_ λn=>?_
 ·unfold placesL
  rw [List.pairwise_map]
  exact(List.pairwise_lt_range.filter _).imp λh=>by omega
 ·rw [hm]
  unfold placesL
  simp only [List.mem_map,List.mem_filter,List.mem_range,List.all_eq_true,List.contains_iff_mem]
  constructor
  ·intro h
   have q_:=List.exists_cons_of_ne_nil hq
   obtain⟨s0,r,rfl⟩:=q_
   have q_:=zBY.1 (h s0 List.mem_cons_self)
   obtain⟨v,rfl,hv,_⟩:=q_
   refine⟨v,⟨hv,λs hs=>?_⟩,rfl⟩
   have q_:=zBY.1 (h s hs)
   obtain⟨v',e,_,h2⟩:=q_
   have q_:v=v':=by omega
   obtain rfl:=q_
   exact h2
  ·rintro⟨v,⟨hv,h2⟩,rfl⟩ s hs
   exact zBY.2 ⟨v,rfl,hv,h2 s hs⟩
theorem zHp{c c2:Nat}{ws:List ByteArray}{ps:List RPo}{q:List ByteArray}(h:SlF w (.slice a n c) ps)(M:PosM w g ws ps)(hg:GrIs g)(hn:ps.length<=100000)(hq:SlF w (.slice a2 n2 c2) q)(hq1:q≠[])(hqn:q.length<=1000000):
  Sp PP F.cn #[.slice a n c,.slice a2 n2 c2] w λv w'=>(∃v',v=.tuple #[v',.int .i64 0]/\Own w.heap.size E.qa w' v' (placesL g q))/\Stp w w':=by
 have q_:=h.len
 obtain rfl:=q_
 have q_:=hq.len
 obtain rfl:=q_
 have hn2:=hg.ok.n2
 have hq0:0<q.length:=List.length_pos_iff.2 hq1
 have hF:Sp PP F.dz #[.slice a ps.length c,.slice a2 q.length c2,.func (.func F.qv) #[] #[]] w λv w'=>(∃v',v=.tuple #[v',.int .i64 0]/\Own w.heap.size E.qa w' v' (placesL g q))/\Stp w w':=by
  refine en TBok rfl ?_
  refine rbx λbl w1 n1 B1=>rbx λbw w2 n2 B2=>iF (by first|omega|decide|(dsimp only <;> omega)) ?_
  have B1:Bk w1 bl [.slice a ps.length c] E.ya:=B1
  have hpl:=zGf g q[0]
  refine drawR TBok mixed (λ_=>False) [0,1,2,3,6,7,8,4,5,9,10] (by kernel_rfl) λw3 e3 _=>tld (B:=B1) rfl nf (tix (i:=0) (hq.up (w':=w3)) (x:=q[0]) (by simp [hq0]) λb4 o4 A4 _=>tload1 (A4.cell0 rfl) nf (tsl (some 1) none (hq.up (w':=w3)) (by simp;omega) (by simp) λa5 c5 S5=>?_))
  refine rcall (zDa (s:=q[0]) (h.up (w':=w3)) (M.up (w':=w3)) hg hn) ?_
  rintro v w4 ⟨O4,e4⟩
  refine⟨e4.e,?_⟩
  have q_:=O4.shape
  obtain⟨oa,oc,rfl⟩:=q_
  refine rcall (zEs O4.sl (by omega)) ?_
  rintro _ w5 ⟨⟨b5,m5,rfl,S6,hb5⟩,e5⟩
  refine⟨e5.e,?_⟩
  refine rcall (zFA (h.up (w':=w5)) (M.up (w':=w5)) hg hn (B2.mv (w:=w5)) (B1.mv (w:=w5)) S6 (S5.up (w':=w5)) (by simp;omega)) ?_
  rintro _ w6 ⟨⟨b6,m6,rfl,S7⟩,e6⟩
  refine⟨e6.e,?_⟩
  refine rcall (zFB S7) ?_
  rintro v w7 ⟨⟨L,hL,hm,O7⟩,e7⟩
  have e8:L=placesL g q:=zLE hL hq1 λn=>by
   rw [hm,zK8]
   have e9:q=q[0]::q.drop 1:=by
    cases q with
    |nil=>simp at hq0
    |cons x r=>rfl
   constructor
   ·rintro⟨h1,h2⟩ s hs
    rw [e9] at hs
    have q_:=List.mem_cons.1 hs
    rcases q_ with rfl|hs
    ·exact h1
    ·exact h2 s hs
   ·intro h
    exact⟨h _ (List.getElem_mem hq0),λs hs=>h s (List.mem_of_mem_drop hs)⟩
  rw [e8] at O7
  exact⟨⟨v,rfl,O7.mono (Le.size (a:=w) (b:=w6))⟩,stp⟩
 refine en TBok rfl ?_
 refine rcall hF ?_
 rintro _ w2 ⟨⟨v',rfl,O2⟩,e2⟩
 exact⟨⟨v',rfl,O2⟩,stp⟩
structure LeaM (S:List StD) (dir:Int) (m:List (Int×Value)):Prop where
 val:∀p∈m,∃x∈S,x.key.dir=dir/\p.1=x.key.v/\p.2=.int .i64 x.d/\∀y∈S,y.key.dir=dir->y.key.v=x.key.v->x.d<=y.d
 all:∀x∈S,x.key.dir=dir->∃v,(x.key.v,v)∈m
theorem LeaM.skip{S:List StD}{dir:Int}{m:List (Int×Value)}{x:StD}(h:LeaM S dir m)(hx:x.key.dir≠dir):LeaM (S++[x]) dir m:=by
 refine⟨λp hp=>?_,λy hy hd=>?_⟩
 ·have q_:=h.val p hp
  obtain⟨z,h1,h2,h3,h4,h5⟩:=q_
  refine⟨z,List.mem_append_left _ h1,h2,h3,h4,λy hy hd hv=>?_⟩
  have q_:=List.mem_append.1 hy
  rcases q_ with hy|hy
  ·exact h5 y hy hd hv
  ·rw [List.mem_singleton.1 hy] at hd;exact absurd hd hx
 ·have q_:=List.mem_append.1 hy
  rcases q_ with hy|hy
  ·exact h.all y hy hd
  ·rw [List.mem_singleton.1 hy] at hd;exact absurd hd hx
theorem LeaM.set{S:List StD}{dir:Int}{m:List (Int×Value)}{x:StD}(h:LeaM S dir m)(hn:(m.map (·.1)).Nodup)(hx:x.key.dir=dir)(hle:∀y∈S,y.key.dir=dir->y.key.v=x.key.v->x.d<=y.d):LeaM (S++[x]) dir (setM x.key.v (.int .i64 x.d) m):=by
 refine⟨λp hp=>?_,λy hy hd=>?_⟩
 ·obtain⟨p1,p2⟩:=p
  have q_:=(zAi hn).1 hp
  rcases q_ with ⟨h1,h2⟩|⟨h1,h2⟩
  ·subst h1;subst h2
   refine⟨x,by simp,hx,rfl,rfl,λy hy hd hv=>?_⟩
   have q_:=List.mem_append.1 hy
   rcases q_ with hy|hy
   ·exact hle y hy hd hv
   ·rw [List.mem_singleton.1 hy];exact Int.le_refl _
  ·have q_:=h.val _ h2
   obtain⟨z,h3,h4,h5,h6,h7⟩:=q_
   refine⟨z,List.mem_append_left _ h3,h4,h5,h6,λy hy hd hv=>?_⟩
   have q_:=List.mem_append.1 hy
   rcases q_ with hy|hy
   ·exact h7 y hy hd hv
   ·rw [List.mem_singleton.1 hy] at hv
    exact absurd (h5.trans hv.symm) h1
 ·have q_:=List.mem_append.1 hy
  rcases q_ with hy|hy
  ·have q_:=h.all y hy hd
   obtain⟨v,hv⟩:=q_
   by_cases e:y.key.v=x.key.v
   ·exact⟨_,(zAi hn).2 (.inl ⟨e,rfl⟩)⟩
   ·exact⟨v,(zAi hn).2 (.inr ⟨e,hv⟩)⟩
  ·rw [List.mem_singleton.1 hy]
   exact⟨_,(zAi hn).2 (.inl ⟨rfl,rfl⟩)⟩
theorem LeaM.keep{S:List StD}{dir:Int}{m:List (Int×Value)}{x z:StD}(h:LeaM S dir m)(hz:z∈S)(hzd:z.key.dir=dir)(hzv:z.key.v=x.key.v)(hle:¬x.d<z.d):LeaM (S++[x]) dir m:=by
 refine⟨λp hp=>?_,λy hy hd=>?_⟩
 ·have q_:=h.val p hp
  obtain⟨u,h1,h2,h3,h4,h5⟩:=q_
  refine⟨u,List.mem_append_left _ h1,h2,h3,h4,λy hy hd hv=>?_⟩
  have q_:=List.mem_append.1 hy
  rcases q_ with hy|hy
  ·exact h5 y hy hd hv
  ·rw [List.mem_singleton.1 hy] at hv ⊢
   have:=h5 z hz hzd (hzv.trans hv)
   omega
 ·have q_:=List.mem_append.1 hy
  rcases q_ with hy|hy
  ·exact h.all y hy hd
  ·rw [List.mem_singleton.1 hy,<-hzv];exact h.all z hz hzd
theorem zCj{c:Nat}{S:List StD}{dir:Int}(h:SlF w (.slice a n c) S)(hn:S.length<=100000):
  Sp PP F.qac #[.slice a n c,.int .i64 dir] w λv w'=>(∃b m,v=.map (some b)/\MapB PP E.qa w' b m/\LeaM S dir m/\m.length<=S.length/\w.heap.size<=b)/\Stp w w':=by
 have q_:=h.len
 obtain rfl:=q_
 refine en TBok rfl ?_
 refine rmkNB (kt:=E.qa) (κ:=Int) rfl λbm w1 n1 M1=>?_
 have hb:=n1.lo (u:=w)
 refine cnt TBok 13 [7,8,9] 13 S.length (λk u=>∃m,MapB PP E.qa u bm m/\LeaM (S.take k) dir m/\m.length<=k/\Stp w u) rfl rfl ⟨[],M1,⟨by simp,by simp⟩,by simp,stp⟩ ?_
 rintro k g u hk ⟨m,M,C,hm,su⟩
 have hnd:=M.2
 refine ite (λhlt=>?_) (λhge=>?_)
 ·have hka:k<S.length:=by omega
  have hlk:S.take (k+1)=S.take k++[S[k]]:=zAa hka
  refine rix (h.up (w':=u)) (x:=S[k]) (by simp) λb1 o1 A1=>rloadA A1 rfl (ral λb2 u2 n2 z2=>?_)
  have hz2:=n2.b;have hs2:=n2.s
  refine rsto (B:=z2) (vs:=enc S[k]) rfl rfl rfl (Enc.one _) λu3 X3 f3 _=>?_
  have X3:Bk u3 b2 (enc S[k]) E.qh:=X3
  have hmu:=M.lt
  have s3:Stp u u3:=⟨Fr.st (Le.e (a:=u) (b:=u2)) f3 λi hi=>by omega⟩
  have M3:MapB PP E.qa u3 bm m:=M.up
  refine rld (B:=X3) rfl ?_
  cases hg:getM m S[k].key.v with
  |none =>
   have hle:∀y∈S.take k,y.key.dir=dir->y.key.v=S[k].key.v->S[k].d<=y.d:=λy hy hd e=>by
    have q_:=C.all y hy hd
    obtain⟨v,hv⟩:=q_
    have:=zAA hnd hv
    rw [e,hg] at this;cases this
   refine rlookN M3.l S[k].key.v rfl hg ?_
   refine rld (B:=X3) rfl (ite (λhd=>?_) (λhd=>?_))
   ·refine rld (B:=X3) rfl (rld (B:=X3) rfl ?_)
    refine rupdB M3 S[k].key.v rfl λu6 M6 f6 _=>?_
    exact rA ⟨rfl,hka,_,M6,by rw [hlk];exact C.set hnd hd hle,Nat.le_trans (zCQ _ _ _) (by omega),⟨Fr.st (Le.e (a:=w)) f6 λi hi=>by omega⟩⟩
   ·exact rA ⟨rfl,hka,m,M3,by rw [hlk];exact C.skip hd,by omega,stp⟩
  |some v =>
   have hmv:=zAU hg
   have q_:=C.val _ hmv
   obtain⟨z,h1,h2,h3,h4,h5⟩:=q_
   simp only at h3 h4
   subst h4
   refine rlookS M3.l S[k].key.v rfl hg ?_
   refine rld (B:=X3) rfl (ite (λhd=>?_) (λhd=>?_))
   ·refine rld (B:=X3) rfl (ite (λhl=>?_) (λhl=>?_))
    ·have hle:∀y∈S.take k,y.key.dir=dir->y.key.v=S[k].key.v->S[k].d<=y.d:=λy hy hd2 e=>by
      have:=h5 y hy hd2 (e.trans h3)
      omega
     refine rld (B:=X3) rfl (rld (B:=X3) rfl ?_)
     refine rupdB M3 S[k].key.v rfl λu6 M6 f6 _=>?_
     exact rA ⟨rfl,hka,_,M6,by rw [hlk];exact C.set hnd hd hle,Nat.le_trans (zCQ _ _ _) (by omega),⟨Fr.st (Le.e (a:=w)) f6 λi hi=>by omega⟩⟩
    ·exact rA ⟨rfl,hka,m,M3,by rw [hlk];exact C.keep h1 h2 h3.symm hl,by omega,stp⟩
   ·exact rA ⟨rfl,hka,m,M3,by rw [hlk];exact C.skip hd,by omega,stp⟩
 ·have q_:k=S.length:=by omega
  obtain rfl:=q_
  rw [List.take_length] at C
  exact⟨⟨bm,m,rfl,M,C,hm,hb⟩,su⟩
theorem zAG(f:Bool)(n:Int)(a:Option Addr)(m c:Nat):∀u∈[Value.bool f,.int .i64 n,.slice a m c],u.oneCell'=true:=by
 intro u hu;simp at hu;rcases hu with rfl|rfl|rfl <;> rfl
def MeetI (mb done:List (Int×Value)) (f:Bool) (n:Int):Prop:=
 (f=false/\n=0/\∀p∈done,getM mb p.1=none) \/
 (f=true/\(∃p∈done,∃b d:Int,getM mb p.1=some (.int .i64 b)/\p.2=.int .i64 d/\n=d+b)/\∀p∈done,∀b d:Int,getM mb p.1=some (.int .i64 b)->p.2=.int .i64 d->n<=d+b)
theorem LeaM.get{S:List StD}{dir:Int}{m:List (Int×Value)}(h:LeaM S dir m){k:Int}{v:Value}(hg:getM m k=some v):∃z∈S,z.key.dir=dir/\z.key.v=k/\v=.int .i64 z.d/\∀y∈S,y.key.dir=dir->y.key.v=k->z.d<=y.d:=by
 have q_:=h.val _ (zAU hg)
 obtain⟨z,h1,h2,h3,h4,h5⟩:=q_
 simp only at h3 h4
 exact⟨z,h1,h2,h3.symm,h4,λy hy hd hv=>h5 y hy hd (hv.trans h3)⟩
def meetP (S:List StD):AnP:=match minL (sums S) with
 |some m=>⟨true,m,[]⟩
 |none=>zAn
theorem zMZ{S:List StD}{ma mb:List (Int×Value)}{f:Bool}{n:Int}(A:LeaM S 0 ma)(B:LeaM S 1 mb)(hnb:(mb.map (·.1)).Nodup)(h:MeetI mb ma f n):(meetP S)=⟨f,n,[]⟩:=by
 rcases h with ⟨rfl,rfl,h1⟩|⟨rfl,⟨p,hp,b,d,hb,hd,rfl⟩,h2⟩
 ·have:sums S=[]:=by
   cases hs:sums S with
   |nil=>rfl
   |cons y r =>
    have hy:y∈sums S:=by rw [hs];exact List.mem_cons_self
    have q_:=zCK.1 hy
    obtain⟨x,hx,z,hz,hx0,hz1,hzv,_⟩:=q_
    have q_:=A.all x hx hx0
    obtain⟨v,hv⟩:=q_
    have hn:=h1 _ hv
    have q_:=B.all z hz hz1
    obtain⟨v',hv'⟩:=q_
    have:=zAA hnb hv'
    rw [hzv] at this
    simp only at hn
    rw [hn] at this;cases this
  unfold meetP;rw [this];rfl
 ·have hm:minL (sums S)=some (d+b):=by
   have q_:=A.val p hp
   obtain⟨x,hx,hx0,hx1,hx2,hx3⟩:=q_
   have q_:=B.get hb
   obtain⟨z,hz,hz0,hz1,hz2,hz3⟩:=q_
   rw [hd] at hx2;cases hx2
   cases hz2
   refine zEY.2 ⟨zCK.2 ⟨x,hx,z,hz,hx0,hz0,hz1.trans hx1,rfl⟩,λy hy=>?_⟩
   have q_:=zCK.1 hy
   obtain⟨x',hx',z',hz',h0,h1',hv,rfl⟩:=q_
   have q_:=A.all x' hx' h0
   obtain⟨v,hvm⟩:=q_
   have q_:=A.val _ hvm
   obtain⟨u,hu,hu0,hu1,hu2,hu3⟩:=q_
   have q_:=B.all z' hz' h1'
   obtain⟨v',hvm'⟩:=q_
   have hg':=zAA hnb hvm'
   have q_:=B.get hg'
   obtain⟨t,ht,ht0,ht1,ht2,ht3⟩:=q_
   simp only at hu1 hu2
   subst ht2
   have:=h2 _ hvm t.d u.d (by simp only;rw [<-hv];exact hg') hu2
   have:=hu3 x' hx' h0 hu1
   have:=ht3 z' hz' h1' rfl
   omega
  unfold meetP;rw [hm]
theorem MeetI.mem{mb a b:List (Int×Value)}{f:Bool}{n:Int}(h:MeetI mb a f n)(hm:∀p,p∈b↔p∈a):MeetI mb b f n:=by
 rcases h with ⟨h1,h2,h3⟩|⟨h1,⟨p,h2,h3⟩,h4⟩
 ·exact .inl ⟨h1,h2,λp hp=>h3 p ((hm p).1 hp)⟩
 ·exact .inr ⟨h1,⟨p,(hm p).2 h2,h3⟩,λp hp=>h4 p ((hm p).1 hp)⟩
theorem MeetI.skip{mb done:List (Int×Value)}{f:Bool}{n x:Int}{v:Value}(h:MeetI mb done f n)(hg:getM mb x=none):MeetI mb (done++[(x,v)]) f n:=by
 rcases h with ⟨h1,h2,h3⟩|⟨h1,⟨p,h2,h3⟩,h4⟩
 ·refine .inl ⟨h1,h2,λp hp=>?_⟩
  have q_:=List.mem_append.1 hp
  rcases q_ with hp|hp
  ·exact h3 p hp
  ·rw [List.mem_singleton.1 hp];exact hg
 ·refine .inr ⟨h1,⟨p,List.mem_append_left _ h2,h3⟩,λp hp b d hb hd=>?_⟩
  have q_:=List.mem_append.1 hp
  rcases q_ with hp|hp
  ·exact h4 p hp b d hb hd
  ·rw [List.mem_singleton.1 hp] at hb;simp only at hb;rw [hg] at hb;cases hb
theorem MeetI.more{mb done:List (Int×Value)}{n x d b:Int}(h:MeetI mb done true n)(hg:getM mb x=some (.int .i64 b))(hle:n<=d+b):MeetI mb (done++[(x,.int .i64 d)]) true n:=by
 rcases h with ⟨h1,_⟩|⟨h1,⟨p,h2,h3⟩,h4⟩
 ·cases h1
 ·refine .inr ⟨rfl,⟨p,List.mem_append_left _ h2,h3⟩,λp hp b' d' hb hd=>?_⟩
  have q_:=List.mem_append.1 hp
  rcases q_ with hp|hp
  ·exact h4 p hp b' d' hb hd
  ·rw [List.mem_singleton.1 hp] at hb hd
   simp only at hb hd
   rw [hg] at hb;cases hb;cases hd;exact hle
theorem MeetI.best{mb done:List (Int×Value)}{f:Bool}{n x d b:Int}(h:MeetI mb done f n)(hg:getM mb x=some (.int .i64 b))(hle:f=true->d+b<n):MeetI mb (done++[(x,.int .i64 d)]) true (d+b):=by
 refine .inr ⟨rfl,⟨_,List.mem_append_right _ (List.mem_singleton.2 rfl),b,d,hg,rfl,rfl⟩,λp hp b' d' hb hd=>?_⟩
 have q_:=List.mem_append.1 hp
 rcases q_ with hp|hp
 ·rcases h with ⟨h1,h2,h3⟩|⟨h1,_,h4⟩
  ·rw [h3 p hp] at hb;cases hb
  ·have:=h4 p hp b' d' hb hd
   have:=hle h1
   omega
 ·rw [List.mem_singleton.1 hp] at hb hd
  simp only at hb hd
  rw [hg] at hb;cases hb;cases hd;exact Int.le_refl _
theorem zJz{c:Nat}{S:List StD}(h:SlF w (.slice a n c) S)(hn:S.length<=100000)(hd:∀x∈S,0<=x.d/\x.d<=1000):
  Sp PP F.pb #[.slice a n c] w λv w'=>v=agg (⟨(meetP S).found,(meetP S).num,⟨none,0,0⟩⟩:AnsD)/\Stp w w':=by
 refine en TBok rfl ?_
 refine ral λbr w1 n1 R1=>ral λba w2 n2 A2=>?_
 have hb1:=n1.b;have hs1:=n1.s;have hb2:=n2.b;have hs2:=n2.s
 have R1:Bk w1 br [.bool false,.int .i64 0,.slice none 0 0] E.qi:=R1
 have A2:Bk w2 ba [.bool false,.int .i64 0,.slice none 0 0] E.qi:=A2
 refine rcall (zCj (dir:=1) (h.up (w':=w2)) hn) ?_
 rintro _ w3 ⟨⟨bb,mb,rfl,MB,LB,hmb,hbb⟩,e3⟩
 refine rcall (zCj (dir:=0) (h.up (w':=w3)) hn) ?_
 rintro _ w4 ⟨⟨b0,ma,rfl,MA,LA,hma,hb0⟩,e4⟩
 have z3:=e3.e.size
 have z4:=e4.e.size
 have hnb:=MB.2
 refine rnx rfl (rrangeM MA λr w5 nr It0 _=>?_)
 have hr:=nr.b
 have hrs:=nr.s
 refine loop0G TBok 14 [5,6,7,8] (λi u=>∃(done rest:List (Int×Value)) (f:Bool) (nn:Int),rest.length=i/\(done++rest).Perm ma/\MeetI mb done f nn/\Bk u ba [.bool f,.int .i64 nn,.slice none 0 0] E.qi/\Bk u br [.bool false,.int .i64 0,.slice none 0 0] E.qi/\MapB PP E.qa u bb mb/\ItB PP E.qa u r b0 rest/\Stp w u) rfl
  ⟨_,[],ma,false,0,rfl,.refl _,.inl ⟨rfl,rfl,by simp⟩,A2.mv,R1.mv,MB.up,It0,stp⟩ ?_
 rintro i G u ⟨done,rest,f,nn,hi,hp,hM,KA,KR,Mb,It,su⟩
 refine rnx rfl (rnextM It (λhrest=>?_) λx v rest' u5 hp2 hC f5 hsz=>?_)
 ·subst hrest
  rw [List.append_nil] at hp
  have e:=zMZ LA LB hnb (hM.mem λp=>hp.mem_iff.symm)
  have e2:Value.agg [Value.bool f,.int .i64 nn,.slice none 0 0].toArray=agg (⟨(meetP S).found,(meetP S).num,⟨none,0,0⟩⟩:AnsD):=by rw [e];rfl
  refine rldG (ds:=[.bool f,.int .i64 nn,.slice none 0 0]) (B:=KA) rfl rfl (rsto (B:=KR) (vs:=[.bool f,.int .i64 nn,.slice none 0 0]) rfl rfl rfl (zAG _ _ _ _ _) λu6 R6 f6 _=>?_)
  have R6:Bk u6 br [.bool f,.int .i64 nn,.slice none 0 0] E.qi:=R6
  have s6:Stp w u6:=⟨Fr.st su.e f6 λi hi=>by omega⟩
  exact rresG (B:=R6) rfl ⟨e2,s6⟩
 ·have hxs:(x,v)∈ma:=hp.mem_iff.1 (List.mem_append_right _ (hp2.mem_iff.1 List.mem_cons_self))
  have q_:=LA.val _ hxs
  obtain⟨z,hz1,hz2,hz3,hz4,hz5⟩:=q_
  simp only at hz3 hz4
  subst hz4
  have hzd:=hd z hz1
  have la:=A2.lt;have lr:=R1.lt
  have z24:=Le.size (a:=w2) (b:=w4)
  have KA5:=KA.fr f5 (by omega)
  have KR5:=KR.fr f5 (by omega)
  have hbl:=MB.lt
  have Mb5:MapB PP E.qa u5 bb mb:=Mb.fr f5 (by omega)
  have s5:Stp w u5:=⟨Fr.st su.e f5 λi hi=>by omega⟩
  have hp3:(done++[(x,Value.int .i64 z.d)]++rest').Perm ma:=by
   rw [List.append_assoc];exact(List.Perm.append_left done hp2).trans hp
  have hi2:=hp2.length_eq
  rw [List.length_cons] at hi2
  refine rnx rfl (rentryM hC ?_)
  cases hg:getM mb x with
  |none =>
   refine rlookN Mb5.l x rfl hg ?_
   exact⟨rest'.length,by omega,_,rest',f,nn,rfl,hp3,hM.skip hg,KA5,KR5,Mb5,hC.b,s5⟩
  |some bv =>
   have q_:=LB.get hg
   obtain⟨t,ht1,ht2,ht3,rfl,ht5⟩:=q_
   have htd:=hd t ht1
   refine rlookS Mb5.l x rfl hg ?_
   refine rld (B:=KA5) rfl ?_
   have lo5:ba<u5.heap.size:=KA5.lt
   cases f with
   |false =>
    refine rarE (y:=z.d+t.d) rfl (by omega) (rbuild (cs:=[.bool true,.int .i64 (z.d+t.d),.slice none 0 0]) rfl (rsto (B:=KA5) (vs:=[.bool true,.int .i64 (z.d+t.d),.slice none 0 0]) rfl rfl rfl (zAG _ _ _ _ _) λu6 K6 f6 _=>?_))
    have K6:Bk u6 ba [.bool true,.int .i64 (z.d+t.d),.slice none 0 0] E.qi:=K6
    have R6:=KR5.fr f6 (by omega)
    have Mb6:MapB PP E.qa u6 bb mb:=Mb5.fr f6 (by omega)
    have It6:ItB PP E.qa u6 r b0 rest':=hC.b.fr f6 (by omega) (by omega)
    have s6:Stp w u6:=⟨Fr.st s5.e f6 λi hi=>by omega⟩
    exact⟨rest'.length,by omega,_,rest',true,z.d+t.d,rfl,hp3,hM.best hg (λh=>nomatch h),K6,R6,Mb6,It6,s6⟩
   |true =>
    refine rarE (y:=z.d+t.d) rfl (by omega) (rld (B:=KA5) rfl (ite (λhl=>?_) (λhl=>?_)))
    ·refine rarE (y:=z.d+t.d) rfl (by omega) (rbuild (cs:=[.bool true,.int .i64 (z.d+t.d),.slice none 0 0]) rfl (rsto (B:=KA5) (vs:=[.bool true,.int .i64 (z.d+t.d),.slice none 0 0]) rfl rfl rfl (zAG _ _ _ _ _) λu6 K6 f6 _=>?_))
     have K6:Bk u6 ba [.bool true,.int .i64 (z.d+t.d),.slice none 0 0] E.qi:=K6
     have R6:=KR5.fr f6 (by omega)
     have Mb6:MapB PP E.qa u6 bb mb:=Mb5.fr f6 (by omega)
     have It6:ItB PP E.qa u6 r b0 rest':=hC.b.fr f6 (by omega) (by omega)
     have s6:Stp w u6:=⟨Fr.st s5.e f6 λi hi=>by omega⟩
     exact⟨rest'.length,by omega,_,rest',true,z.d+t.d,rfl,hp3,hM.best hg (λ_=>hl),K6,R6,Mb6,It6,s6⟩
    ·exact⟨rest'.length,by omega,_,rest',true,nn,rfl,hp3,hM.more hg (by omega),KA5,KR5,Mb5,hC.b,s5⟩
section
variable {P:Program} {kt:TypeId} {κ:Type} [DecidableEq κ] [M:MKey P kt κ] {D:Nat->Prop} {k:Value->Prop} {w:World}
theorem tlookN{t e:TypeId}{z:Value}{sz by':Nat}[ht:MapT P t kt e][he:Elem P e z sz by']{b:Nat}{m:List (κ×Value)}{xv:Value}(h:MapL P kt w b m)(hd:¬D b)(x:κ)(hx:xv=M.val x)(hv:getM m x=none)(hk:k (.tuple #[z,.bool false])):TakeS P (Instr.lookup t (.map (some b)) xv true) D k w:=
 tlook2 h hd x hx (by rw [hv];exact hk)
theorem tlookS{t e:TypeId}{z:Value}{sz by':Nat}[ht:MapT P t kt e][he:Elem P e z sz by']{b:Nat}{m:List (κ×Value)}{xv:Value}(h:MapL P kt w b m)(hd:¬D b)(x:κ)(hx:xv=M.val x){v:Value}(hv:getM m x=some v)(hk:k (.tuple #[v,.bool true])):TakeS P (Instr.lookup t (.map (some b)) xv true) D k w:=
 tlook2 h hd x hx (by rw [hv];exact hk)
end
def AnsO (B:Nat) (w:World) (v:Value) (p:AnP):Prop:=∃x:AnsD,v=agg x/\x.found=p.found/\x.num=p.num/\Own B E.qe w (.slice x.s.a x.s.n x.s.c) p.hits
theorem zLZ(pl:List Int)(S:List StD)(x:StD):hitsL pl (S++[x])=hitsL pl S++if x.key.dir=0/\x.key.v∈pl then [⟨x.key.v,x.d⟩] else []:=by
 unfold hitsL
 rw [List.filter_append,List.map_append]
 congr 1
 by_cases h:x.key.dir=0/\x.key.v∈pl
 ·simp [h]
 ·rw [if_neg h]
  have h':x.key.dir=0->x.key.v∉pl:=λh1 h2=>h ⟨h1,h2⟩
  simpa using h'
theorem zHT(pl:List Int)(S:List StD):(hitsL pl S).length<=S.length:=by
 unfold hitsL;rw [List.length_map];exact List.length_filter_le _ _
theorem zKj(g:GrD)(ws:List ByteArray):(placesL g ws).length<=g.n:=by
 unfold placesL;rw [List.length_map];exact Nat.le_trans (List.length_filter_le _ _) (by simp)
theorem zJy{xq:RQ}{ws:List ByteArray}{ps:List RPo}{c c2:Nat}{S:List StD}(V:QyV w xq q)(hg:GrIs g)(h:SlF w (.slice a n c) ps)(M:PosM w g ws ps)(hpn:ps.length<=100000)
  (h2:SlF w (.slice a2 n2 c2) S)(hSn:S.length<=1000)(hq1:q.words≠[])(hqn:q.words.length<=1000):
  Sp PP F.qat #[agg xq,.slice a n c,.slice a2 n2 c2] w λv w'=>AnsO w.heap.size w' v ⟨!(firstK q.most (hitsL (placesL g q.words) S)).isEmpty,0,firstK q.most (hitsL (placesL g q.words) S)⟩/\Stp w w':=by
 have q_:=h.len
 obtain rfl:=q_
 have q_:=h2.len
 obtain rfl:=q_
 have hn2:=hg.ok.n2
 have hplen:=zKj g q.words
 obtain⟨k1,k2,k3,kw,k4,k5⟩:=V
 refine en TBok rfl ?_
 refine rbx λbq w1 n1 Bq=>ral λbr w2 n2 R2=>?_
 have R2:Bk w2 br [.bool false,.int .i64 0,.slice none 0 0] E.qi:=R2
 have hb1:=n1.b;have hs1:=n1.s;have hb2:=n2.b;have hs2:=n2.s
 refine rld (B:=Bq) rfl (rcall (zHp (h.up (w':=w2)) (M.up (w':=w2)) hg hpn (kw.up (w':=w2)) hq1 (by omega)) ?_)
 rintro _ w3 ⟨⟨pv,rfl,OP⟩,e3⟩
 refine iF (· rfl) ?_
 have q_:=OP.shape
 obtain⟨pa,pc,rfl⟩:=q_
 refine cnt1 TBok 24 [11] 9 24 S.length (λk v u=>Own w3.heap.size E.qe u v (hitsL (placesL g q.words) (S.take k))/\Stp w3 u) rfl rfl ⟨Own.nil _ _ _,stp⟩ ?_
 rintro k v G u hk ⟨O,su⟩
 refine ite (λhlt=>?_) (λhge=>?_)
 ·have hka:k<S.length:=by omega
  have hadd:=zLZ (placesL g q.words) (S.take k) S[k]
  rw [<-zAa hka] at hadd
  have hhl:=zHT (placesL g q.words) (S.take k)
  rw [List.length_take] at hhl
  refine rix (h2.up (w':=u)) (x:=S[k]) (by simp) λb4 o4 A4=>rloadA A4 rfl (ral λb5 u5 n5 z5=>?_)
  have hb5:=n5.b;have hs5:=n5.s
  refine rsto (B:=z5) (vs:=enc S[k]) rfl rfl rfl (Enc.one _) λu6 X6 f6 _=>?_
  have X6:Bk u6 b5 (enc S[k]) E.qh:=X6
  have s6:Stp u u6:=⟨Fr.st (Le.e (a:=u) (b:=u5)) f6 λi hi=>by omega⟩
  refine rld (B:=X6) rfl (ite (λhd=>?_) (λhd=>?_))
  ·refine rld (B:=X6) rfl (rcall (zCX (x:=S[k].key.v) (OP.sl.up (w':=u6)) (by omega)) ?_)
   rintro _ u7 ⟨⟨rfl,hc⟩|⟨rfl,hc⟩,e7⟩
   ·rw [if_pos ⟨hd,hc⟩] at hadd
    refine rld (B:=X6) rfl (rld (B:=X6) rfl ?_)
    refine rbuild (cs:=enc (⟨S[k].key.v,S[k].d⟩:HitD)) rfl (rbs1 (⟨S[k].key.v,S[k].d⟩:HitD) rfl rfl (by decide) λb8 u8 n8 _ S8=>rapp1 (u:=w3) ⟨rfl,rfl⟩ (O.up (w':=u8)) S8 (by omega) λv9 u9 O9 f9 s9=>?_)
    rw [<-hadd] at O9
    exact rA ⟨rfl,hka,O9,stp⟩
   ·rw [if_neg (λh=>hc h.2),List.append_nil] at hadd
    have O7:=O.up (w':=u7)
    rw [<-hadd] at O7
    exact rA ⟨rfl,hka,O7,stp⟩
  ·rw [if_neg (λh=>hd h.1),List.append_nil] at hadd
   have O7:=O.up (w':=u6)
   rw [<-hadd] at O7
   exact rA ⟨rfl,hka,O7,stp⟩
 ·have q_:k=S.length:=by omega
  obtain rfl:=q_
  rw [List.take_length] at O
  have hhl:=zHT (placesL g q.words) S
  have q_:=O.shape
  obtain⟨ha,hc,rfl⟩:=q_
  refine rld (B:=Bq) rfl (rcall (zIn (k:=xq.most) (O.sl) (by omega)) ?_)
  rintro v u2 ⟨O2,e2⟩
  have hfk:(if xq.most<1 then [] else firstQ xq.most (hitsL (placesL g q.words) S))=firstK q.most (hitsL (placesL g q.words) S):=by rw [k5];rfl
  rw [hfk] at O2
  have R3:=R2.mv (w:=u2)
  have zu:=Le.size (a:=w) (b:=u)
  have q_:=O2.shape
  obtain⟨va,vc,rfl⟩:=q_
  have fin:∀(u3:World) (b:Bool),b = !(firstK q.most (hitsL (placesL g q.words) S)).isEmpty->Fr (λi=>i=br) u2 u3->AnsO w.heap.size u3 (.agg [Value.bool b,.int .i64 0,.slice va (firstK q.most (hitsL (placesL g q.words) S)).length vc].toArray) ⟨!(firstK q.most (hitsL (placesL g q.words) S)).isEmpty,0,firstK q.most (hitsL (placesL g q.words) S)⟩/\Stp w u3:=λu3 b hb f3 =>
   ⟨⟨⟨b,0,⟨va,(firstK q.most (hitsL (placesL g q.words) S)).length,vc⟩⟩,rfl,hb,rfl,(O2.mono zu).frc f3 R3 (by decide)⟩,⟨Fr.st (Le.e (a:=w) (b:=u2)) f3 λi hi=>by omega⟩⟩
  refine ite (λhgt=>?_) (λhgt=>?_)
  ·have hb:true = !(firstK q.most (hitsL (placesL g q.words) S)).isEmpty:=by
    cases hh:firstK q.most (hitsL (placesL g q.words) S) with
    |nil=>rw [hh] at hgt;simp at hgt
    |cons x r=>rfl
   refine rbuild (cs:=[.bool true,.int .i64 0,.slice va (firstK q.most (hitsL (placesL g q.words) S)).length vc]) rfl (rsto (B:=R3) (vs:=[.bool true,.int .i64 0,.slice va (firstK q.most (hitsL (placesL g q.words) S)).length vc]) rfl rfl rfl (zAG _ _ _ _ _) λu3 R4 f3 _=>?_)
   exact rresG (B:=R4) rfl (fin u3 true hb f3)
  ·have hb:false = !(firstK q.most (hitsL (placesL g q.words) S)).isEmpty:=by
    cases hh:firstK q.most (hitsL (placesL g q.words) S) with
    |nil=>rfl
    |cons x r=>rw [hh] at hgt;exact absurd hgt (by simp <;> omega)
   refine rbuild (cs:=[.bool false,.int .i64 0,.slice va (firstK q.most (hitsL (placesL g q.words) S)).length vc]) rfl (rsto (B:=R3) (vs:=[.bool false,.int .i64 0,.slice va (firstK q.most (hitsL (placesL g q.words) S)).length vc]) rfl rfl rfl (zAG _ _ _ _ _) λu3 R4 f3 _=>?_)
   exact rresG (B:=R4) rfl (fin u3 false hb f3)
theorem zGh{x:StD}{b:Nat}{d:Int}(K:Bk w b [.int .i64 d] E.qa):Sp PP F.yu #[agg x,.pointer (some ⟨b,0,none⟩)] w λv w'=>Tells (x.key.dir=d) v/\Stp w w':=by
 refine en TBok rfl ?_
 refine rbx λb1 w1 n1 B1=>rld (B:=B1) rfl (rld (B:=K) rfl ?_)
 exact ite (λh=>⟨.t h,stp⟩) (λh=>⟨.f h,stp⟩)
theorem zDu{M:List StD}{bm:Nat}{d:Int}{c:Nat}(K:Bk w bm [.slice a n c] E.qn)(h:SlF w (.slice a n c) M)(hn:M.length<=1000000):Sp PP F.cs #[.int .i64 d,.pointer (some ⟨bm,0,none⟩)] w λv w'=>v=.bool (hasDir M d)/\Stp w w':=by
 refine en TBok rfl ?_
 refine rbx λb1 w1 n1 B1=>rld (B:=K) rfl (rcall (zBJ (g:=F.yu) (first:=[]) (cap:=[.pointer (some ⟨b1,0,none⟩)]) (p:=λx=>x.key.dir=d) (h.up (w':=w1)) hn λx u hx e=>zGh (B1.fr e nf)) ?_)
 rintro _ w2 ⟨⟨rfl,h2⟩|⟨rfl,h2⟩,e2⟩
 ·have:hasDir M d=true:=by
   obtain⟨y,hy,h3⟩:=h2
   exact List.any_eq_true.2 ⟨y,hy,by simpa using h3⟩
  rw [this];exact⟨rfl,stp⟩
 ·have:hasDir M d=false:=by
   rw [Bool.eq_false_iff]
   intro h3
   have q_:=List.any_eq_true.1 h3
   obtain⟨y,hy,h4⟩:=q_
   exact h2 ⟨y,hy,by simpa using h4⟩
  rw [this];exact⟨rfl,stp⟩
theorem zE3{xq:RQ}{ws:List ByteArray}{ps:List RPo}{c c2 c3:Nat}{S M:List StD}(V:QyV w xq q)(hq:QyOk q g.n)(hg:GrIs g)(h:SlF w (.slice a n c) ps)(Mp:PosM w g ws ps)(hpn:ps.length<=100000)
  (h2:SlF w (.slice a2 n2 c2) S)(hSn:S.length<=1000)(hSd:∀x∈S,0<=x.d/\x.d<=1000)(h3:SlF w (.slice a3 n3 c3) M)(hMn:M.length<=1000):
  Sp PP F.yr #[agg xq,.slice a n c,.slice a2 n2 c2,.slice a3 n3 c3] w λv w'=>(∃v1,v=.tuple #[v1,.bool (doneL g q S M).2]/\AnsO w.heap.size w' v1 (doneL g q S M).1)/\Stp w w':=by
 have q_:=h3.len
 obtain rfl:=q_
 have q_:=h2.len
 obtain rfl:=q_
 have q_:=h.len
 obtain rfl:=q_
 have hkd:=hq.kind
 obtain⟨k1,k2,k3,kw,k4,k5⟩:=V
 refine en TBok rfl ?_
 refine rbx λbq w1 n1 Bq=>rbx λbm w2 n2 Bm=>ral λbr w3 n3 R3=>?_
 have R3:Bk w3 br [.bool false,.int .i64 0,.slice none 0 0] E.qi:=R3
 have hb1:=n1.b;have hs1:=n1.s;have hb2:=n2.b;have hs2:=n2.s;have hb3:=n3.b;have hs3:=n3.s
 refine rld (B:=Bq) rfl (ite (λh1=>?_) (λh1=>?_))
 ·have e1:doneL g q S M=distL S M:=by unfold doneL;rw [if_pos (by omega)]
  have MS:=zJz (h2.up (w':=w3)) (by omega) hSd
  have e2:distL S M=((meetP S),(meetP S).found || (!hasDir M 0 || !hasDir M 1)):=by
   unfold distL meetP
   cases minL (sums S) <;> rfl
  have hhits:(meetP S).hits=[]:=by unfold meetP;cases minL (sums S) <;> rfl
  generalize meetP S=P at MS e2 hhits
  obtain⟨pf,pn,ph⟩:=P
  simp only at hhits
  subst hhits
  have MS:Sp PP F.pb #[.slice a2 S.length c2] w3 λv w'=>v=.agg #[.bool pf,.int .i64 pn,.slice none 0 0]/\Stp w3 w':=MS
  refine rcall MS ?_
  rintro _ w4 ⟨rfl,e4⟩
  refine ral λba w5 n5 Z5=>?_
  have hb5:=n5.b;have hs5:=n5.s
  refine rsto (B:=Z5) (vs:=[.bool pf,.int .i64 pn,.slice none 0 0]) rfl rfl rfl (zAG _ _ _ _ _) λw6 A6 f6 _=>?_
  have A6:Bk w6 ba [.bool pf,.int .i64 pn,.slice none 0 0] E.qi:=A6
  have s6:Stp w4 w6:=⟨Fr.st (Le.e (a:=w4) (b:=w5)) f6 λi hi=>by omega⟩
  clear Z5 f6
  have R6:=R3.mv (w:=w6)
  have lr:=R3.lt
  have z34:=Le.size (a:=w3) (b:=w4)
  have hne:ba≠br:=by omega
  have fin:∀(u u':World) (b:Bool),Stp w6 u->Bk u' br [.bool pf,.int .i64 pn,.slice none 0 0] E.qi->Fr (λi=>i=br) u u'->b=(pf || (!hasDir M 0 || !hasDir M 1))->(∃v1,Value.tuple #[.agg [Value.bool pf,.int .i64 pn,.slice none 0 0].toArray,.bool b]=.tuple #[v1,.bool (doneL g q S M).2]/\AnsO w.heap.size u' v1 (doneL g q S M).1)/\Stp w u':=λu u' b s _ f hb=>by
   rw [e1,e2,hb]
   exact⟨⟨_,rfl,⟨pf,pn,⟨none,0,0⟩⟩,rfl,rfl,rfl,Own.nil _ _ _⟩,⟨Fr.st (Le.e (a:=w) (b:=u)) f λi hi=>by omega⟩⟩
  refine drawR TBok mixed (λi=>i=br) [0,1,2,3,4,5,6,7,8,9,10,11,12,13,14] (by kernel_rfl) λw7 e7 _=>tldG (ds:=[.bool pf,.int .i64 pn,.slice none 0 0]) (B:=A6) rfl rfl hne (tld (B:=A6) rfl hne ?_)
  cases pf with
  |true =>
   refine rsto (B:=R6) (vs:=[.bool _,.int .i64 pn,.slice none 0 0]) rfl rfl rfl (zAG _ _ _ _ _) λu9 R9 f9 _=>⟨f9,?_⟩
   refine rresG (B:=R9) rfl ?_
   exact fin _ _ true stp R9 f9 rfl
  |false =>
   have D0:=zDu (d:=0) (Bm.mv (w:=w7)) (h3.up (w':=w7)) (by omega)
   cases hd0:hasDir M 0 with
   |false =>
    rw [hd0] at D0
    refine rcall D0 ?_
    rintro _ w8 ⟨rfl,e8⟩
    refine⟨Fr.fr e8.e,?_⟩
    refine rsto (B:=R6) (vs:=[.bool _,.int .i64 pn,.slice none 0 0]) rfl rfl rfl (zAG _ _ _ _ _) λu9 R9 f9 _=>⟨f9,?_⟩
    refine rresG (B:=R9) rfl ?_
    exact fin _ _ true stp R9 f9 (by rw [hd0];rfl)
   |true =>
    rw [hd0] at D0
    refine rcall D0 ?_
    rintro _ w8 ⟨rfl,e8⟩
    refine⟨Fr.fr e8.e,?_⟩
    have D1:=zDu (d:=1) (Bm.mv (w:=w8)) (h3.up (w':=w8)) (by omega)
    cases hd1:hasDir M 1 with
    |false =>
     rw [hd1] at D1
     refine rcall D1 ?_
     rintro _ w9 ⟨rfl,e9⟩
     refine⟨Fr.fr e9.e,?_⟩
     refine rsto (B:=R6) (vs:=[.bool _,.int .i64 pn,.slice none 0 0]) rfl rfl rfl (zAG _ _ _ _ _) λu9 R9 f9 _=>⟨f9,?_⟩
     refine rresG (B:=R9) rfl ?_
     exact fin _ _ true stp R9 f9 (by rw [hd0,hd1];rfl)
    |true =>
     rw [hd1] at D1
     refine rcall D1 ?_
     rintro _ w9 ⟨rfl,e9⟩
     refine⟨Fr.fr e9.e,?_⟩
     refine rsto (B:=R6) (vs:=[.bool _,.int .i64 pn,.slice none 0 0]) rfl rfl rfl (zAG _ _ _ _ _) λu9 R9 f9 _=>⟨f9,?_⟩
     refine rresG (B:=R9) rfl ?_
     exact fin _ _ false stp R9 f9 (by rw [hd0,hd1];rfl)
 refine ite (λh1'=>?_) (λh1'=>?_)
 ·have e1:doneL g q S M=reachL q.to S M:=by unfold doneL;rw [if_neg (by omega),if_pos (by omega)]
  refine drawR TBok mixed (λ_=>False) [0,2,3,1,4,5,6,7,8,9] (by kernel_rfl) λw4 e4 _=>tld (B:=Bq) rfl nf (rcall (zCj (dir:=0) (h2.up (w':=w4)) (by omega)) ?_)
  rintro _ w5 ⟨⟨b5,m5,rfl,M5,L5,_,_⟩,e5⟩
  refine⟨e5.e,?_⟩
  have R5:=R3.mv (w:=w5)
  cases hg:getM m5 xq.to with
  |none =>
   have hr:reachL q.to S M=(zAn,M.isEmpty):=by
    unfold reachL
    rw [if_neg]
    intro hany
    have q_:=List.any_eq_true.1 hany
    obtain⟨x,hx,h4⟩:=q_
    simp only [decide_eq_true_eq] at h4
    have q_:=L5.all x hx h4.1
    obtain⟨v,hv⟩:=q_
    have:=zAA M5.2 hv
    rw [h4.2,<-k3,hg] at this;cases this
   refine tlookN M5.l nf xq.to rfl hg ?_
   refine drawR TBok mixed (λi=>i=br) [0,1,2,3,4,5,6,7,8,9] (by kernel_rfl) λw6 e6 _=>tbuild (cs:=[.bool false,.int .i64 0,.slice none 0 0]) rfl ?_
   have R6:=R5.mv (w:=w6)
   have hnm:bm≠br:=by omega
   refine tld (B:=Bm) rfl hnm ?_
   have fin:∀(u:World) (b:Bool),Fr (λi=>i=br) w6 u->b=M.isEmpty->(∃v1,Value.tuple #[.agg [Value.bool false,.int .i64 0,.slice none 0 0].toArray,.bool b]=.tuple #[v1,.bool (doneL g q S M).2]/\AnsO w.heap.size u v1 (doneL g q S M).1)/\Stp w u:=λu b f hb=>by
    rw [e1,hr,hb]
    exact⟨⟨_,rfl,⟨false,0,⟨none,0,0⟩⟩,rfl,rfl,rfl,Own.nil _ _ _⟩,⟨Fr.st (Le.e (a:=w) (b:=w6)) f λi hi=>by omega⟩⟩
   refine ite (λh0=>?_) (λh0=>?_)
   ·have hM:true=M.isEmpty:=by
     cases M with
     |nil=>rfl
     |cons x r=>exact absurd h0 (by simp;omega)
    refine rsto (B:=R6) (vs:=[.bool false,.int .i64 0,.slice none 0 0]) rfl rfl rfl (zAG _ _ _ _ _) λu9 R9 f9 _=>⟨f9,?_⟩
    exact rresG (B:=R9) rfl (fin u9 true f9 hM)
   ·have hM:false=M.isEmpty:=by
     cases M with
     |nil=>exact absurd rfl h0
     |cons x r=>rfl
    refine rsto (B:=R6) (vs:=[.bool false,.int .i64 0,.slice none 0 0]) rfl rfl rfl (zAG _ _ _ _ _) λu9 R9 f9 _=>⟨f9,?_⟩
    exact rresG (B:=R9) rfl (fin u9 false f9 hM)
  |some v =>
   have hr:reachL q.to S M=(⟨true,0,[]⟩,true):=by
    unfold reachL
    rw [if_pos]
    have q_:=L5.get hg
    obtain⟨z,hz,hz0,hz1,_⟩:=q_
    exact List.any_eq_true.2 ⟨z,hz,by simp only [decide_eq_true_eq];exact⟨hz0,by rw [hz1,k3]⟩⟩
   refine tlookS M5.l nf xq.to rfl hg ?_
   refine drawR TBok mixed (λi=>i=br) [0,1,2,3,4,5,6,7,8,9] (by kernel_rfl) λw6 e6 _=>tbuild (cs:=[.bool true,.int .i64 0,.slice none 0 0]) rfl ?_
   have R6:=R5.mv (w:=w6)
   refine rsto (B:=R6) (vs:=[.bool true,.int .i64 0,.slice none 0 0]) rfl rfl rfl (zAG _ _ _ _ _) λu9 R9 f9 _=>⟨f9,?_⟩
   refine rresG (B:=R9) rfl ?_
   have fin:(∃v1,Value.tuple #[.agg [Value.bool true,.int .i64 0,.slice none 0 0].toArray,.bool true]=.tuple #[v1,.bool (doneL g q S M).2]/\AnsO w.heap.size u9 v1 (doneL g q S M).1)/\Stp w u9:=by
    rw [e1,hr]
    exact⟨⟨_,rfl,⟨true,0,⟨none,0,0⟩⟩,rfl,rfl,rfl,Own.nil _ _ _⟩,⟨Fr.st (Le.e (a:=w) (b:=w6)) f9 λi hi=>by omega⟩⟩
   exact fin
 refine ite (λh1''=>?_) (λh1''=>absurd hkd (by omega))
 have e1:doneL g q S M=nearL (placesL g q.words) q.most S M:=by unfold doneL;rw [if_neg (by omega),if_neg (by omega),if_pos (by omega)]
 have hnear:=hq.near (by omega)
 refine rld (B:=Bm) rfl (ite (λh0=>?_) (λh0=>?_))
 ·have hM:M.isEmpty=false:=by
   cases M with
   |nil=>exact absurd h0 (by simp)
   |cons x r=>rfl
  have hr:nearL (placesL g q.words) q.most S M=(zAn,false):=by unfold nearL;rw [hM];rfl
  refine rbuild (cs:=[.bool false,.int .i64 0,.slice none 0 0]) rfl (rsto (B:=R3) (vs:=[.bool false,.int .i64 0,.slice none 0 0]) rfl rfl rfl (zAG _ _ _ _ _) λu9 R9 f9 _=>rresG (B:=R9) rfl ?_)
  have fin:(∃v1,Value.tuple #[.agg [Value.bool false,.int .i64 0,.slice none 0 0].toArray,.bool false]=.tuple #[v1,.bool (doneL g q S M).2]/\AnsO w.heap.size u9 v1 (doneL g q S M).1)/\Stp w u9:=by
   rw [e1,hr]
   exact⟨⟨_,rfl,⟨false,0,⟨none,0,0⟩⟩,rfl,rfl,rfl,Own.nil _ _ _⟩,⟨Fr.st (Le.e (a:=w) (b:=w3)) f9 λi hi=>by omega⟩⟩
  exact fin
 ·have hM:M.isEmpty=true:=by
   cases M with
   |nil=>rfl
   |cons x r=>exact absurd (show (0:Int)<((x::r).length:Int) by simp <;> omega) (by omega)
  have hr:nearL (placesL g q.words) q.most S M=(⟨!(firstK q.most (hitsL (placesL g q.words) S)).isEmpty,0,firstK q.most (hitsL (placesL g q.words) S)⟩,true):=by unfold nearL;rw [hM];rfl
  refine rldG (ds:=enc xq) (B:=Bq) rfl rfl (rcall (zJy (q:=q) ⟨k1,k2,k3,kw.up (w':=w3),k4,k5⟩ hg (h.up (w':=w3)) (Mp.up (w':=w3)) hpn (h2.up (w':=w3)) hSn (by intro h;have:=hnear.1;rw [h] at this;simp at this) (by omega)) ?_)
  rintro v w4 ⟨⟨x,rfl,hx1,hx2,OX⟩,e4⟩
  have R4:=R3.mv (w:=w4)
  refine rsto (B:=R4) (vs:=enc x) rfl rfl rfl (Enc.one _) λu9 R9 f9 _=>?_
  have R9:Bk u9 br (enc x) E.qi:=R9
  refine rresG (B:=R9) rfl ?_
  have fin:(∃v1,Value.tuple #[.agg (enc x).toArray,.bool true]=.tuple #[v1,.bool (doneL g q S M).2]/\AnsO w.heap.size u9 v1 (doneL g q S M).1)/\Stp w u9:=by
   rw [e1,hr]
   exact⟨⟨_,rfl,x,rfl,hx1,hx2,(OX.mono (Le.size (a:=w) (b:=w3))).frc f9 R4 (by decide)⟩,⟨Fr.st (Le.e (a:=w) (b:=w4)) f9 λi hi=>by omega⟩⟩
  exact fin
end Go.W
namespace Go.W
open Go
variable {B N i j k m n n2 n3:Nat} {P:Program} {a a2 a3:Option Addr} {g:GrD} {ps:List Int} {q:QyD} {s:List UInt8} {u u' w w':World}
abbrev Hs:=List (Option (RqD×Nat))
theorem zMs{f f':Nat->Nat}(h:∀j,j≠k->f' j=f j):∀n,k<n->((List.range n).map f').sum+f k=((List.range n).map f).sum+f' k:=by
 intro n
 induction n with
 |zero=>intro hk;omega
 |succ n ih =>
  intro hk
  rw [List.range_succ,List.map_append,List.map_append,List.sum_append,List.sum_append]
  simp only [List.map_cons,List.map_nil,List.sum_cons,List.sum_nil]
  have q_:=Nat.lt_or_ge k n
  rcases q_ with h1|h1
  ·have:=ih h1
   have:=h n (by omega)
   omega
  ·have q_:k=n:=by omega
   obtain rfl:=q_
   have:((List.range k).map f')=((List.range k).map f):=by
    apply List.map_congr_left
    intro j hj
    exact h j (by have:=List.mem_range.1 hj;omega)
   rw [this];omega
def cntW (g:GrD) (W:Nat) (w:Nat) (o:Option (RqD×Nat)) (k:Nat):Nat:=((sts1 g o k).filter λx=>decide (homW W x.key.v=w)).length
theorem zF9(g:GrD)(W:Nat)(h:Hs)(w:Nat):liveW g W h w=((List.range h.length).map λk=>cntW g W w (h.getD k none) k).sum:=by
 unfold liveW allS cntW
 rw [List.filter_flatMap,List.length_flatMap]
theorem zAO{α:Type}{l:List α}{x z:α}(hk:k<l.length):(l.set k x).getD j z=if j=k then x else l.getD j z:=by
 rw [List.getD_eq_getElem?_getD,List.getD_eq_getElem?_getD,List.getElem?_set]
 by_cases e:k=j
 ·subst e;simp [hk]
 ·simp [e,Ne.symm e]
theorem zCJ{W w:Nat}{h:Hs}(hk:k<h.length)(o:Option (RqD×Nat)):liveW g W (h.set k o) w+cntW g W w (h.getD k none) k=liveW g W h w+cntW g W w o k:=by
 rw [zF9,zF9,List.length_set]
 have:=zMs (f:=λk=>cntW g W w (h.getD k none) k) (f':=λj=>cntW g W w ((h.set k o).getD j none) j) (k:=k) (λj hj=>by simp only [zAO hk,if_neg hj]) h.length hk
 have e:(h.set k o).getD k none=o:=by rw [zAO hk,if_pos rfl]
 rw [e] at this
 exact this
theorem zIR(g:GrD)(W w k:Nat):cntW g W w none k=0:=rfl
theorem zIS(g:GrD)(W w k:Nat)(x:RqD):cntW g W w (some (x,0)) k=0:=rfl
theorem zCN{c:CfD}{h:Hs}:overS g c h=true↔∃w,w<c.workers/\c.pool<liveW g c.workers h w:=by
 simp [overS]
theorem zDt{c:CfD}{h h':Hs}(hl:∀w,liveW g c.workers h' w<=liveW g c.workers h w)(ho:overS g c h=false):overS g c h'=false:=by
 rw [<-Bool.not_eq_true,zCN] at ho ⊢
 rintro⟨w,h1,h2⟩
 exact ho ⟨w,h1,by have:=hl w;omega⟩
theorem zC8{W:Nat}{h:Hs}(hk:k<h.length)(w:Nat):liveW g W (h.set k none) w<=liveW g W h w:=by
 have:=zCJ (g:=g) (W:=W) (w:=w) hk none
 rw [zIR] at this;omega
def idsW (l:List RqD):List Int:=l.map (·.id)
def idsH (h:Hs):List Int:=h.filterMap λo=>o.map (·.1.id)
structure RqOk (g:GrD) (x:RqD):Prop where
 q:QyIs x.q g.n
 id:0<=x.id/\x.id<=2147483647
structure SvOk (g:GrD) (c:CfD) (s:SvD):Prop where
 len:s.held.length=c.slots
 wl:s.wait.length<=c.queue
 wait:∀x∈s.wait,RqOk g x
 held:∀x i,some (x,i)∈s.held->RqOk g x/\i<c.budget
 ids:(idsH s.held++idsW s.wait).Nodup
 pool:overS g c s.held=false
structure CfOk (c:CfD):Prop where
 workers:1<=c.workers/\c.workers<=16
 slots:1<=c.slots/\c.slots<=64
 queue:1<=c.queue/\c.queue<=1000
 pool:1<=c.pool/\c.pool<=400
 budget:1<=c.budget/\c.budget<=1000
theorem zM0{h:Hs}{id:Int}:id∈idsH h↔∃x i,some (x,i)∈h/\x.id=id:=by
 unfold idsH
 rw [List.mem_filterMap]
 constructor
 ·rintro⟨o,ho,e⟩
  cases o with
  |none=>cases e
  |some p=>exact⟨p.1,p.2,ho,Option.some.inj e⟩
 ·rintro⟨x,i,h1,rfl⟩;exact⟨_,h1,rfl⟩
theorem zCv{h:Hs}(hk:k<h.length)(o:Option (RqD×Nat)):idsH (h.set k o)=idsH (h.take k)++(o.map (·.1.id)).toList++idsH (h.drop (k+1)):=by
 rw [List.set_eq_take_append_cons_drop,if_pos hk]
 unfold idsH
 rw [List.filterMap_append,List.filterMap_cons,List.append_assoc]
 cases o <;> simp
theorem zF4{h:Hs}(hk:k<h.length):idsH h=idsH (h.take k)++((h.getD k none).map (·.1.id)).toList++idsH (h.drop (k+1)):=by
 have:=zCv hk (h.getD k none)
 have e:h.set k (h.getD k none)=h:=by
  rw [List.getD_eq_getElem?_getD,List.getElem?_eq_getElem hk]
  simp
 rw [e] at this
 exact this
theorem zHV{h:Hs}(hk:k<h.length){x:RqD}(e:h.getD k none=some (x,i)):idsH (h.set k (some (x,j)))=idsH h:=by
 rw [zCv hk,zF4 hk,e];rfl
theorem zC2{h:Hs}(hk:k<h.length){x:RqD}(e:h.getD k none=some (x,i)):(x.id::idsH (h.set k none)).Perm (idsH h):=by
 rw [zCv hk,zF4 hk,e]
 simp only [Option.map_none,Option.toList_none,List.append_nil,Option.map_some,Option.toList_some,List.append_assoc,List.singleton_append]
 exact List.perm_middle.symm
theorem zI8{h:Hs}(hk:k<h.length)(e:h.getD k none=none)(x:RqD)(i:Nat):(x.id::idsH h).Perm (idsH (h.set k (some (x,i)))):=by
 rw [zCv hk,zF4 hk,e]
 simp only [Option.map_none,Option.toList_none,List.append_nil,Option.map_some,Option.toList_some,List.append_assoc,List.singleton_append]
 exact List.perm_middle.symm
theorem zAp{h:Hs}{p:RqD×Nat}(e:h.getD k none=some p):k<h.length/\some p∈h:=by
 have q_:=Nat.lt_or_ge k h.length
 rcases q_ with hk|hk
 ·refine⟨hk,?_⟩
  rw [List.getD_eq_getElem?_getD,List.getElem?_eq_getElem hk] at e
  exact e ▸ List.getElem_mem hk
 ·rw [List.getD_eq_getElem?_getD,List.getElem?_eq_none hk] at e;cases e
theorem zAZ{h:Hs}{o:Option (RqD×Nat)}{x:RqD}(hm:some (x,i)∈h.set k o):some (x,i)∈h\/o=some (x,i):=by
 have q_:=List.mem_or_eq_of_mem_set hm
 rcases q_ with h1|h1
 ·exact .inl h1
 ·exact .inr h1.symm
theorem zET{h:Hs}(e:freeS h=some k):k<h.length/\h.getD k none=none:=by
 unfold freeS at e
 rw [List.findIdx?_eq_some_iff_getElem] at e
 obtain⟨hk,h1,_⟩:=e
 refine⟨hk,?_⟩
 rw [List.getD_eq_getElem?_getD,List.getElem?_eq_getElem hk]
 simpa using h1
theorem zCD{c:CfD}(hc:CfOk c):∀(l:List RqD) (h:Hs),SvOk g c ⟨l,h⟩->SvOk g c ⟨(admitS l h).1,(admitS l h).2⟩/\(idsH (admitS l h).2++idsW (admitS l h).1).Perm (idsH h++idsW l)
 |[],h,s=>⟨s,.refl _⟩
 |x::r,h,s=>by
  unfold admitS
  cases e:freeS h with
  |none=>exact⟨s,.refl _⟩
  |some k =>
   have q_:=zET e
   obtain⟨hk,hn⟩:=q_
   have hp:(idsH (h.set k (some (x,0)))++idsW r).Perm (idsH h++idsW (x::r)):=by
    refine((zI8 hk hn x 0).symm.append_right _).trans ?_
    show (x.id::idsH h++idsW r).Perm (idsH h++(x.id::idsW r))
    exact List.perm_middle.symm
   have s':SvOk g c ⟨r,h.set k (some (x,0))⟩:=by
    refine⟨by simpa using s.len,by have:=s.wl;simp at this ⊢;omega,λy hy=>s.wait y (List.mem_cons_of_mem _ hy),λy i hy=>?_,hp.nodup_iff.2 s.ids,?_⟩
    ·have q_:=zAZ hy
     rcases q_ with h1|h1
     ·exact s.held y i h1
     ·cases h1;exact⟨s.wait x List.mem_cons_self,by have:=hc.budget.1;omega⟩
    ·refine zDt (λw=>?_) s.pool
     have:=zCJ (g:=g) (W:=c.workers) (w:=w) hk (some (x,0))
     rw [zIS] at this;dsimp only;omega
   have:=zCD hc r _ s'
   exact⟨this.1,this.2.trans hp⟩
theorem zB5{c : CfD}{h : Hs} : (h.getD k none = none /\ stepS g c h k = (h, none)) \/ ∃ x i, h.getD k none = some (x, i) /\
    ((overS g c (h.set k (some (x, i + 1))) = true /\ stepS g c h k = (h.set k none, some (repB x.id 250 zAn))) \/
     (overS g c (h.set k (some (x, i + 1))) = false /\ (doneL g x.q (sts g x.q k (i + 1)) (mls g x.q k (i + 1))).2 = true /\ stepS g c h k = (h.set k none, some (repB x.id 0 (doneL g x.q (sts g x.q k (i + 1)) (mls g x.q k (i + 1))).1))) \/
     (overS g c (h.set k (some (x, i + 1))) = false /\ (doneL g x.q (sts g x.q k (i + 1)) (mls g x.q k (i + 1))).2 = false /\ c.budget <= i + 1 /\ stepS g c h k = (h.set k none, some (repB x.id 251 zAn))) \/
     (overS g c (h.set k (some (x, i + 1))) = false /\ (doneL g x.q (sts g x.q k (i + 1)) (mls g x.q k (i + 1))).2 = false /\ i + 1 < c.budget /\ stepS g c h k = (h.set k (some (x, i + 1)), none))) := by
  unfold stepS
  cases e : h.getD k none with
  | none => exact .inl ⟨rfl, rfl⟩
  | some p =>
    obtain ⟨x, i⟩ := p
    refine .inr ⟨x, i, rfl, ?_⟩
    dsimp only
    by_cases h1 : overS g c (h.set k (some (x, i + 1))) = true
    · exact .inl ⟨h1, by rw [if_pos h1]⟩
    · right
      rw [if_neg h1]
      have h1' : overS g c (h.set k (some (x, i + 1))) = false := by simpa using h1
      by_cases h2 : (doneL g x.q (sts g x.q k (i + 1)) (mls g x.q k (i + 1))).2 = true
      · exact .inl ⟨h1', h2, by rw [if_pos h2]⟩
      · right
        rw [if_neg h2]
        have h2' : (doneL g x.q (sts g x.q k (i + 1)) (mls g x.q k (i + 1))).2 = false := by simpa using h2
        by_cases h3 : c.budget <= i + 1
        · exact .inl ⟨h1', h2', h3, by rw [if_pos h3]⟩
        · exact .inr ⟨h1', h2', by omega, by rw [if_neg h3]⟩
noncomputable def repIds (g:GrD) (c:CfD) (h:Hs) (k:Nat):List Int:=match h.getD k none,(stepS g c h k).2 with
 |some (x,_),some _=>[x.id]
 |_,_=>[]
theorem zDD{c:CfD}{h:Hs}{l:List RqD}(k:Nat)(s:SvOk g c ⟨l,h⟩):SvOk g c ⟨l,(stepS g c h k).1⟩/\(repIds g c h k++idsH (stepS g c h k).1).Perm (idsH h):=by
 have q_:=zB5 (g:=g) (c:=c) (h:=h) (k:=k)
 rcases q_ with ⟨e,h1⟩|⟨x,i,e,h1⟩
 ·rw [h1];refine⟨s,?_⟩
  unfold repIds;rw [e];exact .refl _
 ·have q_:=zAp e
  obtain⟨hk,hm⟩:=q_
  have hx:=s.held x i hm
  have drop:∀t,stepS g c h k=(h.set k none,some t)->SvOk g c ⟨l,(stepS g c h k).1⟩/\(repIds g c h k++idsH (stepS g c h k).1).Perm (idsH h):=λt ht=>by
   unfold repIds
   rw [ht,e]
   refine⟨⟨by simpa using s.len,s.wl,s.wait,λy j hy=>?_,?_,zDt (zC8 hk) s.pool⟩,zC2 hk e⟩
   ·have q_:=zAZ hy
    rcases q_ with h2|h2
    ·exact s.held y j h2
    ·cases h2
   ·have:=((zC2 hk e).append_right (idsW l)).nodup_iff.2 s.ids
    rw [List.cons_append,List.nodup_cons] at this
    exact this.2
  rcases h1 with ⟨_,h2⟩|⟨_,_,h2⟩|⟨_,_,_,h2⟩|⟨ho,_,hb,h2⟩
  ·exact drop _ h2
  ·exact drop _ h2
  ·exact drop _ h2
  ·unfold repIds
   rw [h2,e]
   refine⟨⟨by simpa using s.len,s.wl,s.wait,λy j hy=>?_,by rw [zHV hk e];exact s.ids,ho⟩,by rw [zHV hk e];exact .refl _⟩
   have q_:=zAZ hy
   rcases q_ with h3|h3
   ·exact s.held y j h3
   ·cases h3;exact⟨hx.1,hb⟩
noncomputable def tickIds (g:GrD) (c:CfD):List Nat->Hs->List Int
 |[],_=>[]
 |k::r,h=>repIds g c h k++tickIds g c r (stepS g c h k).1
theorem zJR{c:CfD}{l:List RqD}:∀(ks:List Nat) (h:Hs),SvOk g c ⟨l,h⟩->SvOk g c ⟨l,(stepsS g c ks h).1⟩/\(tickIds g c ks h++idsH (stepsS g c ks h).1).Perm (idsH h)
 |[],h,s=>⟨s,.refl _⟩
 |k::r,h,s=>by
  have q_:=zDD k s
  obtain⟨s1,p1⟩:=q_
  have q_:=zJR r _ s1
  obtain⟨s2,p2⟩:=q_
  refine⟨s2,?_⟩
  show (repIds g c h k++tickIds g c r (stepS g c h k).1++idsH (stepsS g c r (stepS g c h k).1).1).Perm _
  rw [List.append_assoc]
  exact(p2.append_left _).trans p1
theorem zOy{c:CfD}(hc:CfOk c){s:SvD}(h:SvOk g c s):SvOk g c (tickS g c s).1 /\
  (tickIds g c (usedS (admitS s.wait s.held).2) (admitS s.wait s.held).2++(idsH (tickS g c s).1.held++idsW (tickS g c s).1.wait)).Perm (idsH s.held++idsW s.wait):=by
 have q_:=zCD hc s.wait s.held h
 obtain⟨s1,p1⟩:=q_
 have q_:=zJR (usedS (admitS s.wait s.held).2) _ s1
 obtain⟨s2,p2⟩:=q_
 refine⟨s2,?_⟩
 rw [<-List.append_assoc]
 exact(p2.append_right _).trans p1
theorem zLd{l:List RqD}{id:Int}(e:waitAt l id=some k):∃hk:k<l.length,l[k].id=id:=by
 unfold waitAt at e
 rw [List.findIdx?_eq_some_iff_getElem] at e
 obtain⟨hk,h1,_⟩:=e
 exact⟨hk,by simpa using h1⟩
theorem zIm{l:List RqD}{id:Int}:waitAt l id=none↔id∉idsW l:=by
 unfold waitAt idsW
 rw [List.findIdx?_eq_none_iff]
 simp only [decide_eq_false_iff_not,List.mem_map,not_exists,not_and]
theorem zKN{h:Hs}{id:Int}(e:heldAt h id=some k):∃x i,h.getD k none=some (x,i)/\x.id=id:=by
 unfold heldAt at e
 rw [List.findIdx?_eq_some_iff_getElem] at e
 obtain⟨hk,h1,_⟩:=e
 split at h1
 ·rename_i x i he
  exact⟨x,i,by rw [List.getD_eq_getElem?_getD,List.getElem?_eq_getElem hk,he];rfl,by simpa using h1⟩
 ·cases h1
theorem zHP{h:Hs}{id:Int}:heldAt h id=none↔id∉idsH h:=by
 unfold heldAt
 rw [List.findIdx?_eq_none_iff,zM0]
 constructor
 ·rintro h1 ⟨x,i,hm,e⟩
  have:=h1 _ hm
  simp [e] at this
 ·intro h1 o ho
  match o,ho with
  |none,_=>rfl
  |some (x,i),ho=>exact decide_eq_false λe=>h1 ⟨x,i,ho,e⟩
theorem zKB{c:CfD}{s:SvD}(h:SvOk g c s)(id:Int):SvOk g c (backS s id).1 /\
  ((∃e:(backS s id).2=253,(id::(idsH (backS s id).1.held++idsW (backS s id).1.wait)).Perm (idsH s.held++idsW s.wait))\/((backS s id).2=141/\(backS s id).1=s/\id∉idsH s.held++idsW s.wait)):=by
 unfold backS
 cases e:waitAt s.wait id with
 |some k =>
  have q_:=zLd e
  obtain⟨hk,hid⟩:=q_
  have hp:(id::idsW (s.wait.eraseIdx k)).Perm (idsW s.wait):=by
   unfold idsW
   have h1:(s.wait[k]::s.wait.eraseIdx k).Perm s.wait:=by
    rw [List.eraseIdx_eq_take_drop_succ]
    have e:s.wait.take k++s.wait[k]::s.wait.drop (k+1)=s.wait:=by rw [<-List.drop_eq_getElem_cons hk,List.take_append_drop]
    have:=List.perm_middle (a:=s.wait[k]) (l₁:=s.wait.take k) (l₂:=s.wait.drop (k+1))
    exact this.symm.trans (by rw [e])
   have:=h1.map (·.id)
   rw [List.map_cons,hid] at this
   exact this
  have hpp:(id::(idsH s.held++idsW (s.wait.eraseIdx k))).Perm (idsH s.held++idsW s.wait):=List.perm_middle.symm.trans (hp.append_left _)
  refine⟨⟨h.len,?_,λx hx=>h.wait x (List.mem_of_mem_eraseIdx hx),h.held,?_,h.pool⟩,.inl ⟨rfl,hpp⟩⟩
  ·have:=h.wl;have:=List.length_eraseIdx_le s.wait k;dsimp only;omega
  ·have:=hpp.nodup_iff.2 h.ids
   exact(List.nodup_cons.1 this).2
 |none =>
  dsimp only
  cases e2:heldAt s.held id with
  |some k =>
   have q_:=zKN e2
   obtain⟨x,i,hk,hid⟩:=q_
   have q_:=zAp hk
   obtain⟨hkl,hm⟩:=q_
   have hp:=zC2 hkl hk
   rw [hid] at hp
   have hpp:(id::(idsH (s.held.set k none)++idsW s.wait)).Perm (idsH s.held++idsW s.wait):=hp.append_right _
   refine⟨⟨by simpa using h.len,h.wl,h.wait,λy j hy=>?_,(List.nodup_cons.1 (hpp.nodup_iff.2 h.ids)).2,zDt (zC8 hkl) h.pool⟩,.inl ⟨rfl,hpp⟩⟩
   have q_:=zAZ hy
   rcases q_ with h3|h3
   ·exact h.held y j h3
   ·cases h3
  |none =>
   refine⟨h,.inr ⟨rfl,rfl,λhm=>?_⟩⟩
   have q_:=List.mem_append.1 hm
   rcases q_ with h1|h1
   ·exact zHP.1 e2 h1
   ·exact zIm.1 e h1
theorem ask_ok{c:CfD}{s:SvD}(h:SvOk g c s){x:RqD}(hid:0<=x.id/\x.id<=2147483647):
  ((askS g c s x (QyIs x.q g.n)).2=0/\(askS g c s x (QyIs x.q g.n)).1=⟨s.wait++[x],s.held⟩/\SvOk g c ⟨s.wait++[x],s.held⟩/\x.id∉idsH s.held++idsW s.wait) \/
  ((askS g c s x (QyIs x.q g.n)).2=180\/(askS g c s x (QyIs x.q g.n)).2=150\/(askS g c s x (QyIs x.q g.n)).2=252)/\(askS g c s x (QyIs x.q g.n)).1=s:=by
 unfold askS
 by_cases h0:QyIs x.q g.n
 case neg=>rw [if_neg h0];exact .inr ⟨.inl rfl,rfl⟩
 rw [if_pos h0]
 cases e:heldAt s.held x.id with
 |some k=>exact .inr ⟨.inr (.inl rfl),rfl⟩
 |none =>
  rw [if_neg (by simp)]
  cases e2:waitAt s.wait x.id with
  |some k=>exact .inr ⟨.inr (.inl rfl),rfl⟩
  |none =>
   rw [if_neg (by simp)]
   by_cases h3:c.queue<=s.wait.length
   ·rw [if_pos h3];exact .inr ⟨.inr (.inr rfl),rfl⟩
   ·rw [if_neg h3]
    have hn:x.id∉idsH s.held++idsW s.wait:=λhm=>by
     have q_:=List.mem_append.1 hm
     rcases q_ with h1|h1
     ·exact zHP.1 e h1
     ·exact zIm.1 e2 h1
    refine .inl ⟨rfl,rfl,⟨h.len,by simp;omega,λy hy=>?_,h.held,?_,h.pool⟩,hn⟩
    ·have q_:=List.mem_append.1 hy
     rcases q_ with h1|h1
     ·exact h.wait y h1
     ·rw [List.mem_singleton] at h1;subst h1;exact⟨h0,hid⟩
    ·show (idsH s.held++(s.wait++[x]).map (·.id)).Nodup
     rw [List.map_append,<-List.append_assoc]
     have:(idsH s.held++idsW s.wait++[x.id]).Perm (x.id::(idsH s.held++idsW s.wait)):=List.perm_append_singleton ..
     exact this.nodup_iff.2 (List.nodup_cons.2 ⟨hn,h.ids⟩)
theorem zKH{c:CfD}{s:SvD}(h:SvOk g c s)(f:List UInt8):SvOk g c (comeS g c s f).1:=by
 unfold comeS
 split
 ·split <;> exact h
 ·rename_i x hx
  have hr:=zEc hx
  split
  ·exact(zKB h x.id).1
  ·have q_:=ask_ok (x:=x) h hr.2.1
   rcases q_ with ⟨h1,h2,h3,_⟩|⟨h1,h2⟩
   ·rw [if_pos h1,h2];exact h3
   ·rw [if_neg (by omega)];exact h
def newS (c:CfD):SvD:=⟨[],List.replicate c.slots none⟩
theorem zL0(n:Nat):idsH (List.replicate n none)=[]:=by
 unfold idsH
 rw [List.filterMap_eq_nil_iff]
 intro o ho
 rw [(List.mem_replicate.1 ho).2];rfl
theorem zL3(g:GrD)(W n w:Nat):liveW g W (List.replicate n none) w=0:=by
 rw [zF9]
 have:((List.range (List.replicate n (none:Option (RqD×Nat))).length).map λk=>cntW g W w ((List.replicate n none).getD k none) k)=(List.range (List.replicate n (none:Option (RqD×Nat))).length).map λ_=>0:=by
  apply List.map_congr_left
  intro k _
  have:(List.replicate n (none:Option (RqD×Nat))).getD k none=none:=by
   rw [List.getD_eq_getElem?_getD,List.getElem?_replicate];split <;> rfl
  rw [this];rfl
 rw [this]
 clear this
 generalize (List.replicate n (none:Option (RqD×Nat))).length=m
 induction m with
 |zero=>rfl
 |succ m ih=>rw [List.range_succ,List.map_append,List.sum_append,ih];rfl
theorem new_ok(g:GrD)(c:CfD):SvOk g c (newS c):=by
 refine⟨by simp [newS],by simp [newS],by simp [newS],λx i h=>?_,by simp [newS,zL0,idsW],?_⟩
 ·have:=(List.mem_replicate.1 h).2;cases this
 ·rw [<-Bool.not_eq_true,zCN]
  rintro⟨w,_,h⟩
  have:liveW g c.workers (newS c).held w=0:=zL3 g c.workers c.slots w
  omega
end Go.W
namespace Go.W
open Go Go.Proofs
open Enc (enc)
set_option maxRecDepth 10000
variable {B N i j k m n n2 n3:Nat} {P:Program} {a a2 a3:Option Addr} {g:GrD} {ps:List Int} {q:QyD} {s:List UInt8} {u u' w w':World}
theorem zA3{n m:Int}:Sp PP F.du #[.int .i64 n,.int .i64 m] w λv w'=>Tells (1<=n/\n<=m) v/\w'=w:=by
 refine en TBok rfl ?_
 refine ite (λh1=>?_) (λh1=>⟨.f λh=>h1 h.1,rfl⟩)
 exact ite (λh2=>⟨.t ⟨h1,h2⟩,rfl⟩) (λh2=>⟨.f λh=>h2 h.2,rfl⟩)
theorem zK3{id code:Int}{a:AnP}(h:RepOk (repOf id code a) a.hits):repB id code a=encR (repOf id code a) a.hits:=if_pos h
theorem zK2{id code:Int}{a:AnP}(h:¬RepOk (repOf id code a) a.hits):repB id code a=[]:=if_neg h
theorem zBN{id e:Int}:Sp PP F.d5 #[.int .i64 id,.int .i64 e] w λv w'=>v=txt (repB id e zAn)/\Stp w w':=by
 refine en TBok rfl ?_
 refine rbuild (cs:=enc (repOf id e zAn)) rfl (rcall (zCm (x:=repOf id e zAn) (l:=[]) (SlF.nil' _ _ _) (by simp)) ?_)
 rintro _ w1 ⟨⟨hok,rfl⟩|⟨hno,rfl⟩,e1⟩
 ·exact⟨congrArg txt (zK3 (a:=zAn) hok).symm,stp⟩
 ·exact⟨congrArg txt (zK2 (a:=zAn) hno).symm,stp⟩
end Go.W
